/- trySites (8). -/
import Derived.Test.YtcalfnncjkaekaaFk
namespace Go.Proofs.Ytcalfnncjkaekaa
open Go.RowKit
set_option linter.unusedVariables false
set_option linter.unusedSimpArgs false
set_option maxRecDepth 20000

/-- A site's block, in plain numbers. -/
def Site (w : World) (g : Nat) (nm rl ep ap sr : Int) (A : Option Addr) (n c : Nat) : Prop := w.heap[g]? = some (.cells #[.int .i64 nm, .int .i64 rl, .int .i64 ep, .int .i64 ap, .slice A n c, .int .i64 sr, .bool true, .bool true] 34 (0, 0))
theorem Site.cells {w : World} {g : Nat} {nm rl ep ap sr : Int} {A : Option Addr} {n c : Nat} (h : Site w g nm rl ep ap sr A n c) :
    w.cell? ⟨g, 0, none⟩ = some (.int .i64 nm) ∧ w.cell? ⟨g, 1, none⟩ = some (.int .i64 rl) ∧ w.cell? ⟨g, 2, none⟩ = some (.int .i64 ep) ∧ w.cell? ⟨g, 3, none⟩ = some (.int .i64 ap) ∧ w.cell? ⟨g, 4, none⟩ = some (.slice A n c) ∧ w.cell? ⟨g, 5, none⟩ = some (.int .i64 sr) ∧ w.cell? ⟨g, 6, none⟩ = some (.bool true) ∧ w.cell? ⟨g, 7, none⟩ = some (.bool true) :=
  ⟨cell_k h rfl, cell_k h rfl, cell_k h rfl, cell_k h rfl, cell_k h rfl, cell_k h rfl, cell_k h rfl, cell_k h rfl⟩
theorem Site.below {w w' : World} {g : Nat} {nm rl ep ap sr : Int} {A : Option Addr} {n c : Nat} (h : Site w g nm rl ep ap sr A n c) (b : Below w.heap.size w w') : Site w' g nm rl ep ap sr A n c := (b.block g (lt_of_heap h)).trans h
theorem Site.other {w w' : World} {g k : Nat} {nm rl ep ap sr : Int} {A : Option Addr} {n c : Nat} (h : Site w g nm rl ep ap sr A n c) (b : w.grownBy w' (some k)) (hk : g ≠ k) : Site w' g nm rl ep ap sr A n c := (b.block g (lt_of_heap h) (fun e => hk (by cases e; rfl))).trans h
/-- A lineage that is the call's own lies in no site's block. -/
theorem own_site {w : World} {base T n c size n' : Nat} {e : TypeId} {A : Option Addr} {xs : List Value} {cs : Array Value} (h : Own w base e size (.slice A n c) n' xs) (ht : w.heap[T]? = some (.cells cs 34 (0, 0))) (he : e ≠ 34) : (Value.slice A n c).ownBlock ≠ some T := by
  obtain ⟨_, ⟨h1, _⟩ | ⟨g, off, cap, cur, h1, _, hg, _⟩⟩ := h
  · cases h1; simp [Value.ownBlock]
  · cases h1
    intro hx
    simp [Value.ownBlock] at hx
    subst hx
    rw [hg] at ht
    cases ht
    exact he rfl
/-- Two sites, each in a block of its own. -/
structure Inv8 (base g6 g8 : Nat) (a : Nat) (b : Nat) (w W : World) : Prop where
  out : ∃ A c A' c', Site W g6 0 1 1 a (-1) A (linA a).length c ∧ Site W g8 1 2 1 b 0 A' (linA b).length c' ∧ Own W base 65 3 (.slice A (linA a).length c) (linA a).length (fl (linA a)) ∧ (linA a = [] → A = none ∧ c = 0) ∧
    Own W base 65 3 (.slice A' (linA b).length c') (linA b).length (fl (linA b)) ∧ (linA b = [] → A' = none ∧ c' = 0) ∧ Below base w W

set_option maxHeartbeats 4000000 in
theorem trySites8 (n m : Nat) (w : World) (hn : n ≤ 100) (hm : m ≤ n) :
    Calls Try.prog 8 #[.int .i64 n, .int .i64 m] w fun e w' => ∃ g A c A' c', e = .returned (.tuple #[.slice (some ⟨g, 0, none⟩) 2 2, .bool true]) ∧ TwoAt w' g (siteA n) A (linA n).length c (siteB m) A' (linA m).length c' ∧
      Own w' w.heap.size 65 3 (.slice A (linA n).length c) (linA n).length (fl (linA n)) ∧ (linA n = [] → A = none ∧ c = 0) ∧ Own w' w.heap.size 65 3 (.slice A' (linA m).length c') (linA m).length (fl (linA m)) ∧ (linA m = [] → A' = none ∧ c' = 0) ∧ Below w.heap.size w w' := by
  go_enter Try.func8, Try.ntmps8
  go_wp2_with fail
  refine (promoteA _).mono ?_
  rintro e w1 ⟨A1, c1, rfl, ho1, h01, hb1⟩
  have hS1 : Site w1 w.heap.size 0 0 0 0 (-1) none 0 0 := Site.below (heap_alloc_new w _) hb1
  have HB1 : Hid (Below w.heap.size w w1) := by refine below_then ?_ hb1; go_grown
  have HO1 := Lib.hid (ho1.mono (by simp) : Own w1 w.heap.size 65 3 (.slice A1 (linA 0).length c1) (linA 0).length (fl (linA 0)))
  have HN1 := Lib.hid (own_site HO1.out hS1 (by decide))
  have HS1 := Lib.hid hS1
  have H01 := Lib.hid h01
  clear hS1 ho1 h01 hb1
  go_wp2_with ((with_reducible refine Stop.store 34 ?hst ?_); (case hst => rfl))
  refine Stop.go ?_
  refine step_store_row rfl 34 (.tmp 6) (.tmp 14) rfl rfl HS1.out (vs := #[.int .i64 0, .int .i64 1, .int .i64 1, .int .i64 0, .slice A1 (linA 0).length c1, .int .i64 (-1), .bool true, .bool true]) rfl inf34s rfl (by simp [Value.oneCell']) ?_
  intro w2 h2 g2 z2
  have HS2 : Hid (Site w2 w.heap.size 0 1 1 0 (-1) A1 (linA 0).length c1) := h2
  have HO2 := Lib.hid (HO1.out.kept g2 (.inr HN1.out))
  have HB2 := Lib.hid (HB1.out.grown g2 HB1.out.size (by rintro k e; cases e; exact Nat.le_refl _))
  have HZ2 := Lib.hid (HB2.out.size)
  clear h2 g2 z2
  go_wp2_with fail
  go_loopw [7, 9] (fun e i W => ∃ k : Nat, e = .int .i64 0 ∧ i = .int .i64 ((k : Int) + 1) ∧ k ≤ n ∧ Inv8 w.heap.size w.heap.size w2.heap.size k (min k m) w W) (fun e i W => n - ((intOf i).toNat - 1))
  case atStart =>
    refine ⟨0, rfl, rfl, Nat.zero_le _, ⟨A1, c1, none, 0, ?_, heap_alloc_new w2 _, HO2.out.alloc _, H01.out, ?_, fun _ => ⟨rfl, rfl⟩, HB2.out.alloc HB2.out.size _⟩⟩
    · exact Site.below HS2.out (below_new _ _)
    · rw [Nat.zero_min]; exact Own.nil _ _ _ _
  case round =>
    obtain ⟨k, rfl, rfl, hk, ⟨A, c, A', c', hs6, hs8, ho6, h06, ho8, h08, hb⟩⟩ := hrel
    have hne : w2.heap.size ≠ w.heap.size := by
      have := lt_of_heap HS2.out
      omega
    by_cases hkn : k < n
    · have b1 : decide ((k : Int) + 1 ≤ (n : Int)) = true := decide_eq_true (by omega)
      obtain ⟨x0, x1, x2, x3, x4, x5, x6, x7⟩ := hs6.cells
      have HR6 := Lib.hid ho6.rd'
      have HS6 := Lib.hid hs6
      have HS8 := Lib.hid hs8
      have HO8 := Lib.hid ho8
      have H08 := Lib.hid h08
      have HB := Lib.hid hb
      have HNE := Lib.hid hne
      clear hs6 hs8 ho6 ho8 h08 hb hne
      go_wp2_with fail
      refine (applyA k A c _ (by omega) HR6.out h06).mono ?_
      rintro e w3 ⟨A3, c3, rfl, ho3, h03, hb3⟩
      have HS63 := Lib.hid (HS6.out.below hb3)
      have HS83 := Lib.hid (HS8.out.below hb3)
      have HO83 := Lib.hid (HO8.out.below hb3)
      have HO3 := Lib.hid (ho3.mono HB.out.size)
      have HN3 := Lib.hid (own_site HO3.out HS63.out (by decide))
      have HN83 := Lib.hid (own_site HO83.out HS63.out (by decide))
      have HB3 := Lib.hid (HB.out.trans (hb3.mono HB.out.size))
      have H03 := Lib.hid h03
      clear ho3 h03 hb3 x0 x1 x2 x3 x4 x5 x6 x7
      go_wp2_with ((with_reducible refine Stop.store 34 ?hst ?_); (case hst => rfl))
      refine Stop.go ?_
      refine step_store_row rfl 34 (.tmp 6) (.tmp 30) rfl rfl HS63.out (vs := #[.int .i64 0, .int .i64 1, .int .i64 1, .int .i64 ((k : Int) + 1), .slice A3 (linA (k + 1)).length c3, .int .i64 (-1), .bool true, .bool true]) rfl inf34s rfl (by simp [Value.oneCell']) ?_
      intro w4 h4 g4 z4
      have HS64 : Hid (Site w4 w.heap.size 0 1 1 ((k + 1 : Nat) : Int) (-1) A3 (linA (k + 1)).length c3) := h4
      have HS84 := Lib.hid (HS83.out.other g4 HNE.out)
      have HO4 := Lib.hid (HO3.out.kept g4 (.inr HN3.out))
      have HO84 := Lib.hid (HO83.out.kept g4 (.inr HN83.out))
      have HB4 := Lib.hid (HB3.out.grown g4 HB3.out.size (by rintro k e; cases e; exact Nat.le_refl _))
      clear h4 g4 z4
      by_cases hkm : k < m
      · have b2 : decide ((k : Int) + 1 ≤ (m : Int)) = true := decide_eq_true (by omega)
        have hmin : min k m = k := by omega
        rw [hmin] at HS84 HO84 H08
        obtain ⟨y0, y1, y2, y3, y4, y5, y6, y7⟩ := HS84.out.cells
        clear hmin
        go_wp2_with fail
        refine (applyB k A' c' _ (by omega) HO84.out.rd' H08.out).mono ?_
        rintro e w5 ⟨A5, c5, rfl, ho5, h05, hb5⟩
        have HS65 := Lib.hid (HS64.out.below hb5)
        have HS85 := Lib.hid (HS84.out.below hb5)
        have HO45 := Lib.hid (HO4.out.below hb5)
        have HO5 := Lib.hid (ho5.mono HB4.out.size)
        have HN5 := Lib.hid (own_site HO5.out HS85.out (by decide))
        have HN45 := Lib.hid (own_site HO45.out HS85.out (by decide))
        have HB5 := Lib.hid (HB4.out.trans (hb5.mono HB4.out.size))
        have H05 := Lib.hid h05
        clear ho5 h05 hb5 y0 y1 y2 y3 y4 y5 y6 y7
        go_wp2_with ((with_reducible refine Stop.store 34 ?hst ?_); (case hst => rfl))
        refine Stop.go ?_
        refine step_store_row rfl 34 (.tmp 8) (.tmp 43) rfl rfl HS85.out (vs := #[.int .i64 1, .int .i64 2, .int .i64 1, .int .i64 ((k : Int) + 1), .slice A5 (linA (k + 1)).length c5, .int .i64 0, .bool true, .bool true]) rfl inf34s rfl (by simp [Value.oneCell']) ?_
        intro w6 h6 g6 z6
        have HS86 : Hid (Site w6 w2.heap.size 1 2 1 ((k + 1 : Nat) : Int) 0 A5 (linA (k + 1)).length c5) := h6
        have HS66 := Lib.hid (HS65.out.other g6 HNE.out.symm)
        have HO6 := Lib.hid (HO5.out.kept g6 (.inr HN5.out))
        have HO46 := Lib.hid (HO45.out.kept g6 (.inr HN45.out))
        have HB6 := Lib.hid (HB5.out.grown g6 HB5.out.size (by rintro k e; cases e; have := HZ2.out; omega))
        clear h6 g6 z6
        have v2 : wrap64 ((k : Int) + 1 + 1) = (k : Int) + 1 + 1 := by unfold wrap64; omega
        go_wp2
        refine ⟨⟨k + 1, rfl, by simp, by omega, ?_⟩, by simp [intOf]; omega⟩
        rw [show min (k + 1) m = k + 1 by omega]
        exact ⟨A3, c3, A5, c5, HS66.out, HS86.out, HO46.out, H03.out, HO6.out, H05.out, HB6.out⟩
      · have b2 : decide ((k : Int) + 1 ≤ (m : Int)) = false := decide_eq_false (by omega)
        have v2 : wrap64 ((k : Int) + 1 + 1) = (k : Int) + 1 + 1 := by unfold wrap64; omega
        have hmin : min k m = min (k + 1) m := by omega
        rw [hmin] at HS84 HO84 H08
        clear hmin
        go_wp2
        exact ⟨⟨k + 1, rfl, by simp, by omega, ⟨A3, c3, A', c', HS64.out, HS84.out, HO4.out, H03.out, HO84.out, H08.out, HB4.out⟩⟩, by simp [intOf]; omega⟩
    · have hkn2 : k = n := by omega
      subst hkn2
      have b1 : decide ((k : Int) + 1 ≤ (k : Int)) = false := decide_eq_false (by omega)
      have hmin : min k m = m := by omega
      rw [hmin] at hs8 ho8 h08
      obtain ⟨x0, x1, x2, x3, x4, x5, x6, x7⟩ := hs6.cells
      obtain ⟨y0, y1, y2, y3, y4, y5, y6, y7⟩ := hs8.cells
      have HR6 := Lib.hid ho6
      have HR8 := Lib.hid ho8
      have H06 := Lib.hid h06
      have H08 := Lib.hid h08
      have HB := Lib.hid hb
      clear hs6 hs8 ho6 ho8 h06 h08 hb hne hmin
      go_wp2
      go_returns
      exact ⟨wr.heap.size, A, c, A', c', rfl, heap_alloc_new wr _, HR6.out.alloc _, H06.out, HR8.out.alloc _, H08.out, HB.out.alloc HB.out.size _⟩
end Go.Proofs.Ytcalfnncjkaekaa
