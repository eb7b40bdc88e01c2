/- Apply (11). -/
import Derived.Test.YtcalfnncjkaekaaFf
namespace Go.Proofs.Ytcalfnncjkaekaa
open Go.RowKit
set_option linter.unusedVariables false
set_option linter.unusedSimpArgs false
set_option maxRecDepth 20000

/-- What a transition hands back: the site, with a lineage of its own, and no error. -/
def SiteRes (w : World) (s : St) (L : List Sp) : Ending → World → Prop := fun e w' => ∃ A c, e = .returned (.tuple #[stV s (.slice A L.length c), .int .i64 0]) ∧ Own w' w.heap.size 65 3 (.slice A L.length c) L.length (fl L) ∧ (L = [] → A = none ∧ c = 0) ∧ Below w.heap.size w w'
theorem Own.rd' {w : World} {base : Nat} {e : TypeId} {size n n' c : Nat} {A : Option Addr} {xs : List Value} (h : Own w base e size (.slice A n c) n' xs) : Rd w A n c xs := by
  obtain ⟨A', c', e, h⟩ := h.rd
  cases e
  exact h
theorem ret_cell {fn : Func} {R : Ending → World → Prop} {a : Act} {w : World} {p q : Tmp} {k : Nat} {s : St} {A : Option Addr} {n c : Nat} (hf : fn.results = #[.cell p 34, .tmp q]) (hp : a.tmps.getD p undef = .pointer (some ⟨k, 0, none⟩)) (hs : SiteAt w k s A n c)
    (hq : a.tmps.getD q undef = .int .i64 0) (hd : a.defers = []) (h : R (.returned (.tuple #[stV s (.slice A n c), .int .i64 0])) w) : bodyPost Try.prog fn R .ret a w := by
  have hp' : a.tmps[p]?.getD undef = .pointer (some ⟨k, 0, none⟩) := by simpa using hp
  have hq' : a.tmps[q]?.getD undef = .int .i64 0 := by simpa using hq
  have hi : (Try.prog.info? 34).map (·.size) = some 8 := by kernel_rfl
  have hl := run_loadVar_row (P := Try.prog) w k 34 34 _ (0, 0) _ hs Try.underlying34 rfl hi
  refine bodyPost_ret (v := .tuple #[stV s (.slice A n c), .int .i64 0]) ?_ hd h
  simp [results, hf, hp', hq', asAddr, hl, stV]
theorem own_ne {w : World} {base T n c size n' : Nat} {e : TypeId} {A : Option Addr} {xs : List Value} {m d : Nat} {B : Option Addr} {s : St} (h : Own w base e size (.slice A n c) n' xs) (ht : TrAt w T s B m d) (he : e ≠ 60) : (Value.slice A n c).ownBlock ≠ some T := by
  obtain ⟨_, ⟨h1, _⟩ | ⟨g, off, cap, cur, h1, _, hg, _⟩⟩ := h
  · cases h1; simp [Value.ownBlock]
  · cases h1
    intro hx
    simp [Value.ownBlock] at hx
    subst hx
    unfold TrAt at ht
    rw [hg] at ht
    cases ht
    exact he rfl
theorem ext_ne (L : List Sp) (e b t : Nat) : ext L e b t ≠ [] := by
  unfold ext
  split <;> simp

set_option maxHeartbeats 4000000 in
theorem apply11 (s : St) (A : Option Addr) (c : Nat) (L : List Sp) (t : Nat) (w : World) (hr : Rd w A L.length c (fl L)) (h0 : L = [] → A = none ∧ c = 0) (hg : Good s L) (hrole : s.role = 1 ∨ s.role = 2) (hep : 1 ≤ s.ep) (ht : s.ap < t) (ht2 : t ≤ 1073741824) (hl : L.length ≤ 90) :
    Calls Try.prog 11 #[stV s (.slice A L.length c), .int .i64 s.ep, .int .i64 t] w (SiteRes w { s with ap := t } (ext L s.ep s.ap t)) := by
  have hgep := hg.ep
  have hgap := hg.ap
  have HR := Lib.hid hr
  have HG := Lib.hid hg
  have H0 := Lib.hid h0
  clear hr hg h0
  obtain ⟨num, role, ep, ap, src, al, co⟩ := s
  simp only at hrole hep ht hgep hgap
  have b1 : ((ep : Int) != 0) = true := by simp; omega
  have b2 : decide ((ap : Int) < (t : Int)) = true := decide_eq_true (by omega)
  obtain ⟨mx, hmx, hmx2⟩ : ∃ m : Nat, (if ep < t then (t : Int) else (ep : Int)) = (m : Int) ∧ m ≤ 1073741824 := by
    by_cases h : ep < t
    · exact ⟨t, by rw [if_pos h], ht2⟩
    · exact ⟨ep, by rw [if_neg h], hgep⟩
  have b3 : decide ((mx : Int) ≤ 1073741824) = true := decide_eq_true (by omega)
  unfold stV
  rcases hrole with rfl | rfl
  · go_enter Try.func11, Try.ntmps11
    go_wp2_with fail
    refine (begin20 ⟨num, 1, ep, ap, src, al, co⟩ A c L _ (HR.out.below (by go_grown)) H0.out HG.out).mono ?_
    rintro e w1 ⟨T, A1, c1, rfl, hT, ht1, ho1, h01, hn1, hb1⟩
    have HS1 : Hid (SiteAt w1 w.heap.size ⟨num, 1, ep, ap, src, al, co⟩ A L.length c) := SiteAt.below (alloc_old (heap_alloc_new w _)) hb1
    obtain ⟨x0, x1, x2, x3, x4, x5, x6, x7⟩ := HS1.out.cells
    obtain ⟨y0, y1, y2, y3, y4, y5, y6, y7, y8⟩ := ht1.cells
    have HZ1 := Lib.hid ((hb1.block (w.heap.size + 1) (by simp)).trans (heap_alloc2_new w _ _))
    have HT1 := Lib.hid ht1
    have HO1 := Lib.hid (ho1.mono (by simp) : Own w1 (w.heap.size + 2) 65 3 (.slice A1 L.length c1) L.length (fl L))
    have H01 := Lib.hid h01
    have HN1 := Lib.hid hn1
    have HT : Hid (w.heap.size + 2 ≤ T) := by
      have h : _ ≤ T := hT
      simp at h
      exact h
    have HB1 : Hid (Below w.heap.size w w1) := by refine below_then ?_ hb1; go_grown
    clear hT ht1 ho1 h01 hn1 hb1
    go_wp2_with fail
    refine (demand21 T _ _).mono ?_
    rintro e w1 ⟨rfl, rfl⟩
    go_wp2_with fail
    refine (demand21 T _ _).mono ?_
    rintro e w1 ⟨rfl, rfl⟩
    go_wp2_with fail
    refine (demand21 T _ _).mono ?_
    rintro e w1 ⟨rfl, rfl⟩
    go_wp2_with fail
    refine (demand21 T _ _).mono ?_
    rintro e w1 ⟨rfl, rfl⟩
    go_wp2_with fail
    refine (extend24 T (w.heap.size + 2) ⟨num, 1, ep, ap, src, al, co⟩ A1 c1 L ep ap t w1 HT1.out HO1.out H01.out HN1.out hl HT.out hgap).mono ?_
    rintro e w3 ⟨rfl, A2, c2, ht3, ho3, hb3⟩
    have HZ3 := Lib.hid ((hb3.block (w.heap.size + 1) (by omega)).trans HZ1.out)
    have HB3 := Lib.hid (HB1.out.trans (hb3.mono (by omega)))
    have HN3 := Lib.hid (own_ne ho3 ht3 (by decide))
    have HT3 := Lib.hid ht3
    have HO3 := Lib.hid ho3
    have hsz : w1.heap.size ≤ w3.heap.size := hb3.size
    have HSZ := Lib.hid hsz
    clear hsz
    clear x0 x1 x2 x3 x4 x5 x6 x7 y0 y1 y2 y3 y4 y5 y6 y7 y8
    obtain ⟨y0, y1, y2, y3, y4, y5, y6, y7, y8⟩ := ht3.cells
    have f2 := frozen_k (i := 2) ht3
    have f3 := frozen_k (i := 3) ht3
    have f2' : (w3.setCell ⟨T, 3, none⟩ (.int .i64 t)).frozen? ⟨T, 2, none⟩ = false := frozen_k (i := 2) (set_facts ht3 3 (.int .i64 t))
    clear ht3 ho3 hb3
    have HT' := HT.out
    go_wp2_with fail
    have ht4 : TrAt ((w3.setCell ⟨T, 3, none⟩ (.int .i64 t)).setCell ⟨T, 2, none⟩ (.int .i64 ep)) T ⟨num, 1, ep, t, src, al, co⟩ A2 (ext L ep ap t).length c2 := set_facts (set_facts HT3.out 3 (.int .i64 t)) 2 (.int .i64 ep)
    refine (end23 T ⟨num, 1, ep, t, src, al, co⟩ A2 (ext L ep ap t).length c2 _ ht4).mono ?_
    rintro e w5 ⟨rfl, hb5⟩
    have HB4 : Below (w.heap.size + 2) w3 ((w3.setCell ⟨T, 3, none⟩ (.int .i64 t)).setCell ⟨T, 2, none⟩ (.int .i64 ep)) := ((Below.refl _ _).setCell HT' _).setCell HT' _
    have hsz4 : ((w3.setCell ⟨T, 3, none⟩ (.int .i64 t)).setCell ⟨T, 2, none⟩ (.int .i64 ep)).heap.size = w3.heap.size := by simp
    have hbs : Below (w.heap.size + 2) w3 w5 := by
      refine HB4.trans (hb5.mono ?_)
      have h1 := HZ3.out
      have h2 := lt_of_heap h1
      rw [hsz4]
      omega
    have HZ5 := Lib.hid ((hbs.block (w.heap.size + 1) (by omega)).trans HZ3.out)
    have HO5 := Lib.hid ((own_setCell_other (own_setCell_other HO3.out HN3.out 3 (.int .i64 t)) HN3.out 2 (.int .i64 ep)).below hb5)
    have HB5 : Hid (Below w.heap.size w w5) := HB3.out.trans (hbs.mono (by omega))
    clear hbs hb5 HT' HB4 hsz4 ht4 y0 y1 y2 y3 y4 y5 y6 y7 y8 f2 f3 f2'
    go_wp2_with ((with_reducible refine Stop.store 34 ?hst ?_); (case hst => rfl))
    refine Stop.go ?_
    refine step_store_row rfl 34 (.tmp 6) (.tmp 77) rfl rfl HZ5.out (vs := #[.int .i64 num, .int .i64 1, .int .i64 ep, .int .i64 t, .slice A2 (ext L ep ap t).length c2, .int .i64 src, .bool al, .bool co]) rfl inf34s rfl (by simp [Value.oneCell']) ?_
    intro w6 h6 g6 z6
    have HB6 := Lib.hid (HB5.out.grown g6 HB5.out.size (by rintro k e; cases e; omega))
    have HO6 := Lib.hid (HO5.out.kept g6 (.inr (fun e => by have := (HO5.out.lt _ e).1; omega)))
    have HS6 : Hid (SiteAt w6 (w.heap.size + 1) ⟨num, 1, ep, t, src, al, co⟩ A2 (ext L ep ap t).length c2) := h6
    clear h6 g6 z6
    go_wp2
    try simp only [Exit.inBlock, Exit.then]
    refine ret_cell rfl rfl HS6.out rfl rfl ?_
    exact ⟨A2, c2, rfl, HO6.out.mono (by omega), fun h => absurd h (ext_ne _ _ _ _), HB6.out⟩
  · go_enter Try.func11, Try.ntmps11
    go_wp2_with fail
    refine (begin20 ⟨num, 2, ep, ap, src, al, co⟩ A c L _ (HR.out.below (by go_grown)) H0.out HG.out).mono ?_
    rintro e w1 ⟨T, A1, c1, rfl, hT, ht1, ho1, h01, hn1, hb1⟩
    have HS1 : Hid (SiteAt w1 w.heap.size ⟨num, 2, ep, ap, src, al, co⟩ A L.length c) := SiteAt.below (alloc_old (heap_alloc_new w _)) hb1
    obtain ⟨x0, x1, x2, x3, x4, x5, x6, x7⟩ := HS1.out.cells
    obtain ⟨y0, y1, y2, y3, y4, y5, y6, y7, y8⟩ := ht1.cells
    have HZ1 := Lib.hid ((hb1.block (w.heap.size + 1) (by simp)).trans (heap_alloc2_new w _ _))
    have HT1 := Lib.hid ht1
    have HO1 := Lib.hid (ho1.mono (by simp) : Own w1 (w.heap.size + 2) 65 3 (.slice A1 L.length c1) L.length (fl L))
    have H01 := Lib.hid h01
    have HN1 := Lib.hid hn1
    have HT : Hid (w.heap.size + 2 ≤ T) := by
      have h : _ ≤ T := hT
      simp at h
      exact h
    have HB1 : Hid (Below w.heap.size w w1) := by refine below_then ?_ hb1; go_grown
    clear hT ht1 ho1 h01 hn1 hb1
    go_wp2_with fail
    refine (demand21 T _ _).mono ?_
    rintro e w1 ⟨rfl, rfl⟩
    go_wp2_with fail
    refine (demand21 T _ _).mono ?_
    rintro e w1 ⟨rfl, rfl⟩
    go_wp2_with fail
    refine (demand21 T _ _).mono ?_
    rintro e w1 ⟨rfl, rfl⟩
    go_wp2_with fail
    refine (demand21 T _ _).mono ?_
    rintro e w1 ⟨rfl, rfl⟩
    go_wp2_with fail
    refine (extend24 T (w.heap.size + 2) ⟨num, 2, ep, ap, src, al, co⟩ A1 c1 L ep ap t w1 HT1.out HO1.out H01.out HN1.out hl HT.out hgap).mono ?_
    rintro e w3 ⟨rfl, A2, c2, ht3, ho3, hb3⟩
    have HZ3 := Lib.hid ((hb3.block (w.heap.size + 1) (by omega)).trans HZ1.out)
    have HB3 := Lib.hid (HB1.out.trans (hb3.mono (by omega)))
    have HN3 := Lib.hid (own_ne ho3 ht3 (by decide))
    have HT3 := Lib.hid ht3
    have HO3 := Lib.hid ho3
    have hsz : w1.heap.size ≤ w3.heap.size := hb3.size
    have HSZ := Lib.hid hsz
    clear hsz
    clear x0 x1 x2 x3 x4 x5 x6 x7 y0 y1 y2 y3 y4 y5 y6 y7 y8
    obtain ⟨y0, y1, y2, y3, y4, y5, y6, y7, y8⟩ := ht3.cells
    have f2 := frozen_k (i := 2) ht3
    have f3 := frozen_k (i := 3) ht3
    have f2' : (w3.setCell ⟨T, 3, none⟩ (.int .i64 t)).frozen? ⟨T, 2, none⟩ = false := frozen_k (i := 2) (set_facts ht3 3 (.int .i64 t))
    clear ht3 ho3 hb3
    have HT' := HT.out
    go_wp2_with fail
    have ht4 : TrAt ((w3.setCell ⟨T, 3, none⟩ (.int .i64 t)).setCell ⟨T, 2, none⟩ (.int .i64 ep)) T ⟨num, 2, ep, t, src, al, co⟩ A2 (ext L ep ap t).length c2 := set_facts (set_facts HT3.out 3 (.int .i64 t)) 2 (.int .i64 ep)
    refine (end23 T ⟨num, 2, ep, t, src, al, co⟩ A2 (ext L ep ap t).length c2 _ ht4).mono ?_
    rintro e w5 ⟨rfl, hb5⟩
    have HB4 : Below (w.heap.size + 2) w3 ((w3.setCell ⟨T, 3, none⟩ (.int .i64 t)).setCell ⟨T, 2, none⟩ (.int .i64 ep)) := ((Below.refl _ _).setCell HT' _).setCell HT' _
    have hsz4 : ((w3.setCell ⟨T, 3, none⟩ (.int .i64 t)).setCell ⟨T, 2, none⟩ (.int .i64 ep)).heap.size = w3.heap.size := by simp
    have hbs : Below (w.heap.size + 2) w3 w5 := by
      refine HB4.trans (hb5.mono ?_)
      have h1 := HZ3.out
      have h2 := lt_of_heap h1
      rw [hsz4]
      omega
    have HZ5 := Lib.hid ((hbs.block (w.heap.size + 1) (by omega)).trans HZ3.out)
    have HO5 := Lib.hid ((own_setCell_other (own_setCell_other HO3.out HN3.out 3 (.int .i64 t)) HN3.out 2 (.int .i64 ep)).below hb5)
    have HB5 : Hid (Below w.heap.size w w5) := HB3.out.trans (hbs.mono (by omega))
    clear hbs hb5 HT' HB4 hsz4 ht4 y0 y1 y2 y3 y4 y5 y6 y7 y8 f2 f3 f2'
    go_wp2_with ((with_reducible refine Stop.store 34 ?hst ?_); (case hst => rfl))
    refine Stop.go ?_
    refine step_store_row rfl 34 (.tmp 6) (.tmp 77) rfl rfl HZ5.out (vs := #[.int .i64 num, .int .i64 2, .int .i64 ep, .int .i64 t, .slice A2 (ext L ep ap t).length c2, .int .i64 src, .bool al, .bool co]) rfl inf34s rfl (by simp [Value.oneCell']) ?_
    intro w6 h6 g6 z6
    have HB6 := Lib.hid (HB5.out.grown g6 HB5.out.size (by rintro k e; cases e; omega))
    have HO6 := Lib.hid (HO5.out.kept g6 (.inr (fun e => by have := (HO5.out.lt _ e).1; omega)))
    have HS6 : Hid (SiteAt w6 (w.heap.size + 1) ⟨num, 2, ep, t, src, al, co⟩ A2 (ext L ep ap t).length c2) := h6
    clear h6 g6 z6
    go_wp2
    try simp only [Exit.inBlock, Exit.then]
    refine ret_cell rfl rfl HS6.out rfl rfl ?_
    exact ⟨A2, c2, rfl, HO6.out.mono (by omega), fun h => absurd h (ext_ne _ _ _ _), HB6.out⟩
end Go.Proofs.Ytcalfnncjkaekaa
