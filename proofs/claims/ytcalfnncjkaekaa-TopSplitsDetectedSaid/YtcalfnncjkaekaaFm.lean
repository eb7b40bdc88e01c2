/- trySplit (4). -/
import Derived.Test.YtcalfnncjkaekaaFl
namespace Go.Proofs.Ytcalfnncjkaekaa
open Go.RowKit
set_option linter.unusedVariables false
set_option linter.unusedSimpArgs false
set_option maxRecDepth 20000

/-- Two sites behind the takeover, each in a block of its own. -/
structure Inv4 (base g14 g12 : Nat) (a m k : Nat) (w W : World) : Prop where
  out : ∃ A c A' c', Site W g14 0 1 1 a (-1) A (linA a).length c ∧ Site W g12 1 1 2 ((m + k : Nat) : Int) (-1) A' (linB m k).length c' ∧ Own W base 65 3 (.slice A (linA a).length c) (linA a).length (fl (linA a)) ∧ (linA a = [] → A = none ∧ c = 0) ∧
    Own W base 65 3 (.slice A' (linB m k).length c') (linB m k).length (fl (linB m k)) ∧ (linB m k = [] → A' = none ∧ c' = 0) ∧ Below base w W

set_option maxHeartbeats 8000000 in
theorem trySplit4 (n m o k : Nat) (w : World) (hn : n ≤ 100) (hm : m ≤ n) (ho : o ≤ 100) (hk : k ≤ 100) :
    Calls Try.prog 4 #[.int .i64 n, .int .i64 m, .int .i64 o, .int .i64 k] w fun e w' => ∃ g A c A' c', e = .returned (.tuple #[.slice (some ⟨g, 0, none⟩) 2 2, .bool true]) ∧ TwoAt w' g (siteA (n + o)) A (linA (n + o)).length c (siteC (m + k)) A' (linB m k).length c' ∧
      Rd w' A (linA (n + o)).length c (fl (linA (n + o))) ∧ (linA (n + o) = [] → A = none ∧ c = 0) ∧ Rd w' A' (linB m k).length c' (fl (linB m k)) ∧ (linB m k = [] → A' = none ∧ c' = 0) ∧ Below w.heap.size w w' := by
  go_enter Try.func4, Try.ntmps4
  go_wp2_with fail
  refine (trySites8 n m _ hn hm).mono ?_
  rintro e w1 ⟨g, A1, c1, A2, c2, rfl, ht1, ho1, h01, ho2, h02, hb1⟩
  obtain ⟨x0, x1, x2, x3, x4, x5, x6, x7⟩ : _ ∧ _ := ht1.cells1
  have HT1 := Lib.hid ht1
  have HO1 := Lib.hid ho1
  have HO2 := Lib.hid ho2
  have HB1 := Lib.hid hb1
  have H01 := Lib.hid h01
  have H02 := Lib.hid h02
  clear ht1 ho1 ho2 hb1 h01 h02
  simp only [siteB] at x0 x1 x2 x3 x4 x5 x6 x7
  go_wp2_with fail
  refine (isolateB m A2 c2 _ (by omega) HO2.out.rd' H02.out).mono ?_
  rintro e w2 ⟨A3, c3, rfl, ho3, h03, hb3⟩
  have HT2 := Lib.hid (HT1.out.below hb3)
  have HO12 := Lib.hid (HO1.out.below hb3)
  have HO3 := Lib.hid (ho3.mono HB1.out.size)
  have HB2 := Lib.hid (HB1.out.trans (hb3.mono HB1.out.size))
  have H03 := Lib.hid h03
  clear ho3 h03 hb3 x0 x1 x2 x3 x4 x5 x6 x7
  go_wp2_with fail
  refine (promoteC m A3 c3 _ (by omega) (HO3.out.alloc _).rd' H03.out).mono ?_
  rintro e w3 ⟨A4, c4, rfl, ho4, h04, hb4⟩
  have hb24 : Below w2.heap.size w2 w3 := by refine below_then ?_ hb4; go_grown
  have HT3 := Lib.hid (HT2.out.below hb24)
  have hs3 : Site w3 w2.heap.size 1 3 1 m (-1) A3 (linA m).length c3 := Site.below (heap_alloc_new w2 _) hb4
  have HS3 := Lib.hid hs3
  have HO13 := Lib.hid (HO12.out.below hb24)
  have HO4 := Lib.hid (ho4.mono (by simp; exact Nat.le_succ_of_le HB2.out.size) : Own w3 w.heap.size 65 3 (.slice A4 (linA m).length c4) (linA m).length (fl (linA m)))
  have HN4 := Lib.hid (own_site HO4.out hs3 (by decide))
  have HN13 := Lib.hid (own_site HO13.out hs3 (by decide))
  have HB3 := Lib.hid (HB2.out.trans (hb24.mono HB2.out.size))
  have H04 := Lib.hid h04
  have hg : g ≠ w2.heap.size := by
    have := lt_of_heap HT2.out
    omega
  have HG := Lib.hid hg
  clear ho4 h04 hb4 hs3 hb24 hg
  go_wp2_with ((with_reducible refine Stop.store 34 ?hst ?_); (case hst => rfl))
  refine Stop.go ?_
  refine step_store_row rfl 34 (.tmp 12) (.tmp 42) rfl rfl HS3.out (vs := #[.int .i64 1, .int .i64 1, .int .i64 2, .int .i64 m, .slice A4 (linA m).length c4, .int .i64 (-1), .bool true, .bool true]) rfl inf34s rfl (by simp [Value.oneCell']) ?_
  intro w4 h4 g4 z4
  have HS4 : Hid (Site w4 w2.heap.size 1 1 2 m (-1) A4 (linA m).length c4) := h4
  have ht4 : TwoAt w4 g (siteA n) A1 (linA n).length c1 (siteB m) A2 (linA m).length c2 := (g4.block g (lt_of_heap HT3.out) (fun e => HG.out (by cases e; rfl))).trans HT3.out
  obtain ⟨x0, x1, x2, x3, x4, x5, x6, x7⟩ : _ ∧ _ := ht4.cells0
  simp only [siteA] at x0 x1 x2 x3 x4 x5 x6 x7
  have HO44 := Lib.hid (HO4.out.kept g4 (.inr HN4.out))
  have HO14 := Lib.hid (HO13.out.kept g4 (.inr HN13.out))
  have HB4 := Lib.hid (HB3.out.grown g4 HB3.out.size (by rintro k e; cases e; exact HB2.out.size))
  have HSZ := Lib.hid (lt_of_heap HS4.out)
  have hne1 : w2.heap.size ≠ w4.heap.size := by have := HSZ.out; omega
  have HNE := Lib.hid hne1
  have HZ := Lib.hid HB2.out.size
  clear h4 g4 z4 ht4 hne1
  go_wp2_with fail
  go_loopw [13, 15] (fun e i W => ∃ j : Nat, e = .int .i64 0 ∧ i = .int .i64 (j : Int) ∧ j ≤ o ∧ Inv4 w.heap.size w4.heap.size w2.heap.size (n + j) m 0 w W) (fun e i W => o - (intOf i).toNat)
  case atStart =>
    refine ⟨0, rfl, rfl, Nat.zero_le _, ⟨A1, c1, A4, c4, heap_alloc_new w4 _, ?_, HO14.out.alloc _, H01.out, HO44.out.alloc _, H04.out, HB4.out.alloc HB4.out.size _⟩⟩
    exact Site.below HS4.out (below_new _ _)
  case round =>
    obtain ⟨j, rfl, rfl, hj, ⟨A, c, A', c', hs6, hs8, ho6, h06, ho8, h08, hb⟩⟩ := hrel
    by_cases hjo : j < o
    · have b1 : decide ((j : Int) < (o : Int)) = true := decide_eq_true (by omega)
      obtain ⟨p, hp⟩ : ∃ p : Nat, p = n + j := ⟨_, rfl⟩
      have HP := Lib.hid hp
      have hp2 : p ≤ 900 := by omega
      rw [← hp] at hs6 ho6 h06
      clear hp
      obtain ⟨x0, x1, x2, x3, x4, x5, x6, x7⟩ := hs6.cells
      have v1 : wrap64 ((p : Int) + 1) = (p : Int) + 1 := by unfold wrap64; omega
      have v2 : wrap64 ((j : Int) + 1) = (j : Int) + 1 := by unfold wrap64; omega
      have HR6 := Lib.hid ho6.rd'
      have HS6 := Lib.hid hs6
      have HS8 := Lib.hid hs8
      have HO8 := Lib.hid ho8
      have H08 := Lib.hid h08
      have HB := Lib.hid hb
      clear hs6 hs8 ho6 ho8 h08 hb
      go_wp2_with fail
      refine (applyA p A c _ hp2 HR6.out h06).mono ?_
      rintro e w5 ⟨A3, c3, rfl, ho3, h03, hb3⟩
      have HS63 := Lib.hid (HS6.out.below hb3)
      have HS83 := Lib.hid (HS8.out.below hb3)
      have HO83 := Lib.hid (HO8.out.below hb3)
      have HO3 := Lib.hid (ho3.mono HB.out.size)
      have HN3 := Lib.hid (own_site HO3.out HS63.out (by decide))
      have HN83 := Lib.hid (own_site HO83.out HS63.out (by decide))
      have HB3 := Lib.hid (HB.out.trans (hb3.mono HB.out.size))
      have H03 := Lib.hid h03
      clear ho3 h03 hb3 x0 x1 x2 x3 x4 x5 x6 x7
      go_wp2_with ((with_reducible refine Stop.store 34 ?hst ?_); (case hst => rfl))
      refine Stop.go ?_
      refine step_store_row rfl 34 (.tmp 14) (.tmp 62) rfl rfl HS63.out (vs := #[.int .i64 0, .int .i64 1, .int .i64 1, .int .i64 ((p : Int) + 1), .slice A3 (linA (p + 1)).length c3, .int .i64 (-1), .bool true, .bool true]) rfl inf34s rfl (by simp [Value.oneCell']) ?_
      intro w6 h6 g6 z6
      have HS64 : Hid (Site w6 w4.heap.size 0 1 1 ((p + 1 : Nat) : Int) (-1) A3 (linA (p + 1)).length c3) := h6
      have HS84 := Lib.hid (HS83.out.other g6 HNE.out)
      have HO4 := Lib.hid (HO3.out.kept g6 (.inr HN3.out))
      have HO84 := Lib.hid (HO83.out.kept g6 (.inr HN83.out))
      have HB4 := Lib.hid (HB3.out.grown g6 HB3.out.size (by rintro k e; cases e; exact HB4.out.size))
      clear h6 g6 z6
      go_wp2
      refine ⟨⟨j + 1, rfl, by simp, by omega, ?_⟩, by simp [intOf]; omega⟩
      rw [show n + (j + 1) = p + 1 by have := HP.out; omega]
      exact ⟨A3, c3, A', c', HS64.out, HS84.out, HO4.out, H03.out, HO84.out, H08.out, HB4.out⟩
    · have hjo2 : j = o := by omega
      subst hjo2
      have b1 : decide ((j : Int) < (j : Int)) = false := decide_eq_false (by omega)
      have HI : Hid (Inv4 w.heap.size w4.heap.size w2.heap.size (n + j) m 0 w wr) := ⟨A, c, A', c', hs6, hs8, ho6, h06, ho8, h08, hb⟩
      clear hs6 hs8 ho6 h06 ho8 h08 hb
      go_wp2_with fail
      clear b1
      obtain ⟨wj, hwj⟩ : ∃ W : World, W = wr := ⟨_, rfl⟩
      subst hwj
      go_loopw [13, 16] (fun e i W => ∃ q : Nat, e = .int .i64 0 ∧ i = .int .i64 (q : Int) ∧ q ≤ k ∧ Inv4 w.heap.size w4.heap.size w2.heap.size (n + j) m q w W) (fun e i W => k - (intOf i).toNat)
      case atStart => exact ⟨0, rfl, rfl, Nat.zero_le _, HI.out⟩
      case round =>
        clear HI
        obtain ⟨q, rfl, rfl, hq, ⟨A, c, A', c', hs6, hs8, ho6, h06, ho8, h08, hb⟩⟩ := hrel
        by_cases hqk : q < k
        · have b1 : decide ((q : Int) < (k : Int)) = true := decide_eq_true (by omega)
          obtain ⟨p, hp⟩ : ∃ p : Nat, p = m + q := ⟨_, rfl⟩
          have HP := Lib.hid hp
          have hp2 : m + q ≤ 900 := by omega
          have hp3 : p ≤ 900 := by omega
          have hC := fun W => applyC m q A' c' W hp2
          rw [← hp] at hs8 hC
          clear hp
          obtain ⟨x0, x1, x2, x3, x4, x5, x6, x7⟩ := hs8.cells
          have v1 : wrap64 ((p : Int) + 1) = (p : Int) + 1 := by unfold wrap64; omega
          have v2 : wrap64 ((q : Int) + 1) = (q : Int) + 1 := by unfold wrap64; omega
          have HR8 := Lib.hid ho8.rd'
          have HS6 := Lib.hid hs6
          have HS8 := Lib.hid hs8
          have HO6 := Lib.hid ho6
          have HC := Lib.hid hC
          have HB := Lib.hid hb
          clear hs6 hs8 ho6 ho8 hb hC
          go_wp2_with fail
          refine (HC.out _ HR8.out h08).mono ?_
          rintro e w5 ⟨A3, c3, rfl, ho3, h03, hb3⟩
          have HS63 := Lib.hid (HS6.out.below hb3)
          have HS83 := Lib.hid (HS8.out.below hb3)
          have HO63 := Lib.hid (HO6.out.below hb3)
          have HO3 := Lib.hid (ho3.mono HB.out.size)
          have HN3 := Lib.hid (own_site HO3.out HS83.out (by decide))
          have HN63 := Lib.hid (own_site HO63.out HS83.out (by decide))
          have HB3 := Lib.hid (HB.out.trans (hb3.mono HB.out.size))
          have H03 := Lib.hid h03
          clear ho3 h03 hb3 x0 x1 x2 x3 x4 x5 x6 x7
          go_wp2_with ((with_reducible refine Stop.store 34 ?hst ?_); (case hst => rfl))
          refine Stop.go ?_
          refine step_store_row rfl 34 (.tmp 12) (.tmp 79) rfl rfl HS83.out (vs := #[.int .i64 1, .int .i64 1, .int .i64 2, .int .i64 ((p : Int) + 1), .slice A3 (linB m (q + 1)).length c3, .int .i64 (-1), .bool true, .bool true]) rfl inf34s rfl (by simp [Value.oneCell']) ?_
          intro w6 h6 g6 z6
          have HS84 : Hid (Site w6 w2.heap.size 1 1 2 ((m + (q + 1) : Nat) : Int) (-1) A3 (linB m (q + 1)).length c3) := by
            show Site _ _ _ _ _ _ _ _ _ _
            rw [show m + (q + 1) = p + 1 by have := HP.out; omega]
            exact h6
          have HS64 := Lib.hid (HS63.out.other g6 HNE.out.symm)
          have HO4 := Lib.hid (HO3.out.kept g6 (.inr HN3.out))
          have HO64 := Lib.hid (HO63.out.kept g6 (.inr HN63.out))
          have HB4 := Lib.hid (HB3.out.grown g6 HB3.out.size (by rintro k e; cases e; exact HZ.out))
          clear h6 g6 z6
          go_wp2
          exact ⟨⟨q + 1, rfl, by simp, by omega, ⟨A, c, A3, c3, HS64.out, HS84.out, HO64.out, h06, HO4.out, H03.out, HB4.out⟩⟩, by simp [intOf]; omega⟩
        · have hqk2 : q = k := by omega
          subst hqk2
          have b1 : decide ((q : Int) < (q : Int)) = false := decide_eq_false (by omega)
          obtain ⟨p, hp⟩ : ∃ p : Nat, p = m + q := ⟨_, rfl⟩
          obtain ⟨r, hr⟩ : ∃ r : Nat, r = n + j := ⟨_, rfl⟩
          have HP := Lib.hid hp
          have HRR := Lib.hid hr
          rw [← hp] at hs8
          rw [← hr] at hs6 ho6 h06
          clear hp hr
          obtain ⟨x0, x1, x2, x3, x4, x5, x6, x7⟩ := hs6.cells
          obtain ⟨y0, y1, y2, y3, y4, y5, y6, y7⟩ := hs8.cells
          have HR6 := Lib.hid ho6.rd'
          have HR8 := Lib.hid ho8.rd'
          have H06 := Lib.hid h06
          have H08 := Lib.hid h08
          have HB := Lib.hid hb
          clear hs6 hs8 ho6 ho8 h06 h08 hb
          go_wp2
          go_returns
          obtain rfl : p = m + q := HP.out
          obtain rfl : r = n + j := HRR.out
          exact ⟨wr.heap.size, A, c, A', c', rfl, heap_alloc_new wr _, HR6.out.below (below_new _ _), H06.out, HR8.out.below (below_new _ _), H08.out, HB.out.alloc HB.out.size _⟩
end Go.Proofs.Ytcalfnncjkaekaa
