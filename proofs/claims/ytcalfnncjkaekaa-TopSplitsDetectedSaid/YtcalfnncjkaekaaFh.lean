/- Promote (10), Isolate (9). -/
import Derived.Test.YtcalfnncjkaekaaFg
namespace Go.Proofs.Ytcalfnncjkaekaa
open Go.RowKit
set_option linter.unusedVariables false
set_option linter.unusedSimpArgs false
set_option maxRecDepth 20000

set_option maxHeartbeats 4000000 in
theorem isolate9 (s : St) (A : Option Addr) (c : Nat) (L : List Sp) (w : World) (hr : Rd w A L.length c (fl L)) (h0 : L = [] → A = none ∧ c = 0) (hg : Good s L) (hrole : s.role = 2) :
    Calls Try.prog 9 #[stV s (.slice A L.length c)] w (SiteRes w { s with role := 3, src := -1 } L) := by
  have hep := hg.ep
  have HR := Lib.hid hr
  have HG := Lib.hid hg
  have H0 := Lib.hid h0
  clear hr hg h0
  obtain ⟨num, role, ep, ap, src, al, co⟩ := s
  simp only at hrole hep
  subst hrole
  unfold stV
  · go_enter Try.func9, Try.ntmps9
    go_wp2_with fail
    refine (begin20 ⟨num, 2, ep, ap, src, al, co⟩ A c L _ (HR.out.below (by go_grown)) H0.out HG.out).mono ?_
    rintro e w1 ⟨T, A1, c1, rfl, hT, ht1, ho1, h01, hn1, hb1⟩
    have HS1 : Hid (SiteAt w1 w.heap.size ⟨num, 2, ep, ap, src, al, co⟩ A L.length c) := SiteAt.below (alloc_old (heap_alloc_new w _)) hb1
    obtain ⟨x0, x1, x2, x3, x4, x5, x6, x7⟩ := HS1.out.cells
    obtain ⟨y0, y1, y2, y3, y4, y5, y6, y7, y8⟩ := ht1.cells
    have HZ1 := Lib.hid ((hb1.block (w.heap.size + 1) (by simp)).trans (heap_alloc2_new w _ _))
    have HT1 := Lib.hid ht1
    have HO1 := Lib.hid (ho1.mono (by simp) : Own w1 (w.heap.size + 2) 65 3 (.slice A1 L.length c1) L.length (fl L))
    have H01 := Lib.hid h01
    have HN1 := Lib.hid hn1
    have HT : Hid (w.heap.size + 2 ≤ T) := by
      have h : _ ≤ T := hT
      simp at h
      exact h
    have HB1 : Hid (Below w.heap.size w w1) := by refine below_then ?_ hb1; go_grown
    clear hT ht1 ho1 h01 hn1 hb1
    go_wp2_with fail
    refine (demand21 T _ _).mono ?_
    rintro e w1 ⟨rfl, rfl⟩
    go_wp2_with fail
    refine (become22 T ⟨num, 2, ep, ap, src, al, co⟩ A1 L.length c1 3 ep (-1) w1 HT1.out).mono ?_
    rintro e w3 ⟨rfl, ht2, hb2, hk2⟩
    have HT2 := Lib.hid ht2
    have HTb := HT.out
    have HB2 := Lib.hid (hb2 (w.heap.size + 2) HTb)
    have HO2 := Lib.hid (HO1.out.kept (row := some T) hk2 (.inr HN1.out))
    clear ht2 hb2 hk2 HTb x0 x1 x2 x3 x4 x5 x6 x7 y0 y1 y2 y3 y4 y5 y6 y7 y8
    go_wp2_with fail
    refine (end23 T ⟨num, 3, ep, ap, -1, al, co⟩ A1 L.length c1 _ HT2.out).mono ?_
    rintro e w5 ⟨rfl, hb5⟩
    have HT' := HT.out
    have hbs : Below (w.heap.size + 2) w1 w5 := by
      refine HB2.out.trans (hb5.mono ?_)
      have := (HB2.out).size
      have h1 := HZ1.out
      have h2 := lt_of_heap h1
      omega
    have HZ5 := Lib.hid ((hbs.block (w.heap.size + 1) (by omega)).trans HZ1.out)
    have HO5 := Lib.hid (HO2.out.below hb5)
    have HB5 : Hid (Below w.heap.size w w5) := HB1.out.trans (hbs.mono (by omega))
    clear hbs hb5 HT'
    go_wp2_with ((with_reducible refine Stop.store 34 ?hst ?_); (case hst => rfl))
    refine Stop.go ?_
    refine step_store_row rfl 34 (.tmp 2) (.tmp 18) rfl rfl HZ5.out (vs := #[.int .i64 num, .int .i64 3, .int .i64 ep, .int .i64 ap, .slice A1 L.length c1, .int .i64 (-1), .bool al, .bool co]) rfl inf34s rfl (by simp [Value.oneCell']) ?_
    intro w6 h6 g6 z6
    have HB6 := Lib.hid (HB5.out.grown g6 HB5.out.size (by rintro k e; cases e; omega))
    have HO6 := Lib.hid (HO5.out.kept g6 (.inr (fun e => by have := (HO5.out.lt _ e).1; omega)))
    have HS6 : Hid (SiteAt w6 (w.heap.size + 1) ⟨num, 3, ep, ap, -1, al, co⟩ A1 L.length c1) := h6
    clear h6 g6 z6
    go_wp2
    try simp only [Exit.inBlock, Exit.then]
    refine ret_cell rfl rfl HS6.out rfl rfl ?_
    exact ⟨A1, c1, rfl, HO6.out.mono (by omega), H01.out, HB6.out⟩

set_option maxHeartbeats 4000000 in
theorem promote10 (s : St) (A : Option Addr) (c : Nat) (L : List Sp) (ep2 : Nat) (w : World) (hr : Rd w A L.length c (fl L)) (h0 : L = [] → A = none ∧ c = 0) (hg : Good s L) (hrole : (s.role = 0 ∧ L.length = 0) ∨ s.role = 3) (hal : s.al = true) (he : s.ep < ep2) (he2 : ep2 ≤ 1073741824) :
    Calls Try.prog 10 #[stV s (.slice A L.length c), .int .i64 ep2] w (SiteRes w { s with role := 1, ep := ep2, src := -1 } L) := by
  have hep := hg.ep
  have HR := Lib.hid hr
  have HG := Lib.hid hg
  have H0 := Lib.hid h0
  clear hr hg h0
  obtain ⟨num, role, ep, ap, src, al, co⟩ := s
  simp only at hrole hep hal he
  subst hal
  have b1 : decide ((ep : Int) < (ep2 : Int)) = true := decide_eq_true (by omega)
  have b2 : decide ((ep2 : Int) ≤ 1073741824) = true := decide_eq_true (by omega)
  unfold stV
  rcases hrole with ⟨rfl, hl⟩ | rfl
  · have b0 : ((L.length : Int) == 0) = true := by simp [hl]
    clear hl
    go_enter Try.func10, Try.ntmps10
    go_wp2_with fail
    refine (begin20 ⟨num, 0, ep, ap, src, true, co⟩ A c L _ (HR.out.below (by go_grown)) H0.out HG.out).mono ?_
    rintro e w1 ⟨T, A1, c1, rfl, hT, ht1, ho1, h01, hn1, hb1⟩
    have HS1 : Hid (SiteAt w1 w.heap.size ⟨num, 0, ep, ap, src, true, co⟩ A L.length c) := SiteAt.below (alloc_old (heap_alloc_new w _)) hb1
    obtain ⟨x0, x1, x2, x3, x4, x5, x6, x7⟩ := HS1.out.cells
    obtain ⟨y0, y1, y2, y3, y4, y5, y6, y7, y8⟩ := ht1.cells
    have HZ1 := Lib.hid ((hb1.block (w.heap.size + 1) (by simp)).trans (heap_alloc2_new w _ _))
    have HT1 := Lib.hid ht1
    have HO1 := Lib.hid (ho1.mono (by simp) : Own w1 (w.heap.size + 2) 65 3 (.slice A1 L.length c1) L.length (fl L))
    have H01 := Lib.hid h01
    have HN1 := Lib.hid hn1
    have HT : Hid (w.heap.size + 2 ≤ T) := by
      have h : _ ≤ T := hT
      simp at h
      exact h
    have HB1 : Hid (Below w.heap.size w w1) := by refine below_then ?_ hb1; go_grown
    clear hT ht1 ho1 h01 hn1 hb1
    go_wp2_with fail
    refine (demand21 T _ _).mono ?_
    rintro e w1 ⟨rfl, rfl⟩
    go_wp2_with fail
    refine (demand21 T _ _).mono ?_
    rintro e w1 ⟨rfl, rfl⟩
    go_wp2_with fail
    refine (demand21 T _ _).mono ?_
    rintro e w1 ⟨rfl, rfl⟩
    go_wp2_with fail
    refine (demand21 T _ _).mono ?_
    rintro e w1 ⟨rfl, rfl⟩
    go_wp2_with fail
    refine (become22 T ⟨num, 0, ep, ap, src, true, co⟩ A1 L.length c1 1 ep2 (-1) w1 HT1.out).mono ?_
    rintro e w3 ⟨rfl, ht2, hb2, hk2⟩
    have HT2 := Lib.hid ht2
    have HTb := HT.out
    have HB2 := Lib.hid (hb2 (w.heap.size + 2) HTb)
    have HO2 := Lib.hid (HO1.out.kept (row := some T) hk2 (.inr HN1.out))
    clear ht2 hb2 hk2 HTb x0 x1 x2 x3 x4 x5 x6 x7 y0 y1 y2 y3 y4 y5 y6 y7 y8
    go_wp2_with fail
    refine (end23 T ⟨num, 1, ep2, ap, -1, true, co⟩ A1 L.length c1 _ HT2.out).mono ?_
    rintro e w5 ⟨rfl, hb5⟩
    have HT' := HT.out
    have hbs : Below (w.heap.size + 2) w1 w5 := by
      refine HB2.out.trans (hb5.mono ?_)
      have := (HB2.out).size
      have h1 := HZ1.out
      have h2 := lt_of_heap h1
      omega
    have HZ5 := Lib.hid ((hbs.block (w.heap.size + 1) (by omega)).trans HZ1.out)
    have HO5 := Lib.hid (HO2.out.below hb5)
    have HB5 : Hid (Below w.heap.size w w5) := HB1.out.trans (hbs.mono (by omega))
    clear hbs hb5 HT'
    go_wp2_with ((with_reducible refine Stop.store 34 ?hst ?_); (case hst => rfl))
    refine Stop.go ?_
    refine step_store_row rfl 34 (.tmp 4) (.tmp 49) rfl rfl HZ5.out (vs := #[.int .i64 num, .int .i64 1, .int .i64 ep2, .int .i64 ap, .slice A1 L.length c1, .int .i64 (-1), .bool true, .bool co]) rfl inf34s rfl (by simp [Value.oneCell']) ?_
    intro w6 h6 g6 z6
    have HB6 := Lib.hid (HB5.out.grown g6 HB5.out.size (by rintro k e; cases e; omega))
    have HO6 := Lib.hid (HO5.out.kept g6 (.inr (fun e => by have := (HO5.out.lt _ e).1; omega)))
    have HS6 : Hid (SiteAt w6 (w.heap.size + 1) ⟨num, 1, ep2, ap, -1, true, co⟩ A1 L.length c1) := h6
    clear h6 g6 z6
    go_wp2
    try simp only [Exit.inBlock, Exit.then]
    refine ret_cell rfl rfl HS6.out rfl rfl ?_
    exact ⟨A1, c1, rfl, HO6.out.mono (by omega), H01.out, HB6.out⟩
  · go_enter Try.func10, Try.ntmps10
    go_wp2_with fail
    refine (begin20 ⟨num, 3, ep, ap, src, true, co⟩ A c L _ (HR.out.below (by go_grown)) H0.out HG.out).mono ?_
    rintro e w1 ⟨T, A1, c1, rfl, hT, ht1, ho1, h01, hn1, hb1⟩
    have HS1 : Hid (SiteAt w1 w.heap.size ⟨num, 3, ep, ap, src, true, co⟩ A L.length c) := SiteAt.below (alloc_old (heap_alloc_new w _)) hb1
    obtain ⟨x0, x1, x2, x3, x4, x5, x6, x7⟩ := HS1.out.cells
    obtain ⟨y0, y1, y2, y3, y4, y5, y6, y7, y8⟩ := ht1.cells
    have HZ1 := Lib.hid ((hb1.block (w.heap.size + 1) (by simp)).trans (heap_alloc2_new w _ _))
    have HT1 := Lib.hid ht1
    have HO1 := Lib.hid (ho1.mono (by simp) : Own w1 (w.heap.size + 2) 65 3 (.slice A1 L.length c1) L.length (fl L))
    have H01 := Lib.hid h01
    have HN1 := Lib.hid hn1
    have HT : Hid (w.heap.size + 2 ≤ T) := by
      have h : _ ≤ T := hT
      simp at h
      exact h
    have HB1 : Hid (Below w.heap.size w w1) := by refine below_then ?_ hb1; go_grown
    clear hT ht1 ho1 h01 hn1 hb1
    go_wp2_with fail
    refine (demand21 T _ _).mono ?_
    rintro e w1 ⟨rfl, rfl⟩
    go_wp2_with fail
    refine (demand21 T _ _).mono ?_
    rintro e w1 ⟨rfl, rfl⟩
    go_wp2_with fail
    refine (demand21 T _ _).mono ?_
    rintro e w1 ⟨rfl, rfl⟩
    go_wp2_with fail
    refine (demand21 T _ _).mono ?_
    rintro e w1 ⟨rfl, rfl⟩
    go_wp2_with fail
    refine (become22 T ⟨num, 3, ep, ap, src, true, co⟩ A1 L.length c1 1 ep2 (-1) w1 HT1.out).mono ?_
    rintro e w3 ⟨rfl, ht2, hb2, hk2⟩
    have HT2 := Lib.hid ht2
    have HTb := HT.out
    have HB2 := Lib.hid (hb2 (w.heap.size + 2) HTb)
    have HO2 := Lib.hid (HO1.out.kept (row := some T) hk2 (.inr HN1.out))
    clear ht2 hb2 hk2 HTb x0 x1 x2 x3 x4 x5 x6 x7 y0 y1 y2 y3 y4 y5 y6 y7 y8
    go_wp2_with fail
    refine (end23 T ⟨num, 1, ep2, ap, -1, true, co⟩ A1 L.length c1 _ HT2.out).mono ?_
    rintro e w5 ⟨rfl, hb5⟩
    have HT' := HT.out
    have hbs : Below (w.heap.size + 2) w1 w5 := by
      refine HB2.out.trans (hb5.mono ?_)
      have := (HB2.out).size
      have h1 := HZ1.out
      have h2 := lt_of_heap h1
      omega
    have HZ5 := Lib.hid ((hbs.block (w.heap.size + 1) (by omega)).trans HZ1.out)
    have HO5 := Lib.hid (HO2.out.below hb5)
    have HB5 : Hid (Below w.heap.size w w5) := HB1.out.trans (hbs.mono (by omega))
    clear hbs hb5 HT'
    go_wp2_with ((with_reducible refine Stop.store 34 ?hst ?_); (case hst => rfl))
    refine Stop.go ?_
    refine step_store_row rfl 34 (.tmp 4) (.tmp 49) rfl rfl HZ5.out (vs := #[.int .i64 num, .int .i64 1, .int .i64 ep2, .int .i64 ap, .slice A1 L.length c1, .int .i64 (-1), .bool true, .bool co]) rfl inf34s rfl (by simp [Value.oneCell']) ?_
    intro w6 h6 g6 z6
    have HB6 := Lib.hid (HB5.out.grown g6 HB5.out.size (by rintro k e; cases e; omega))
    have HO6 := Lib.hid (HO5.out.kept g6 (.inr (fun e => by have := (HO5.out.lt _ e).1; omega)))
    have HS6 : Hid (SiteAt w6 (w.heap.size + 1) ⟨num, 1, ep2, ap, -1, true, co⟩ A1 L.length c1) := h6
    clear h6 g6 z6
    go_wp2
    try simp only [Exit.inBlock, Exit.then]
    refine ret_cell rfl rfl HS6.out rfl rfl ?_
    exact ⟨A1, c1, rfl, HO6.out.mono (by omega), H01.out, HB6.out⟩

end Go.Proofs.Ytcalfnncjkaekaa
