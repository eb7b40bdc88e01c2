/- Resolve (17), at the sites of the example. -/
import Derived.Test.YtcalfnncjkaekaaFm
import Derived.BigRegion
namespace Go.Proofs.Ytcalfnncjkaekaa
open Go.RowKit
set_option linter.unusedVariables false
set_option linter.unusedSimpArgs false
set_option maxRecDepth 20000

theorem own_apart {w : World} {base base' size size' n n' : Nat} {e e' : TypeId} {v u : Value} {xs ys : List Value} (h : Own w base e size v n xs) (k : Own w base' e' size' u n' ys) (he : e ≠ e') : v.ownBlock = none ∨ v.ownBlock ≠ u.ownBlock := by
  rcases h.2 with ⟨rfl, _⟩ | ⟨g, off, cap, cur, rfl, _, hg, _⟩
  · exact .inl rfl
  · refine .inr (fun hx => ?_)
    rcases k.2 with ⟨rfl, _⟩ | ⟨g', off', cap', cur', rfl, _, hg', _⟩
    · simp [Value.ownBlock] at hx
    · simp [Value.ownBlock] at hx
      subst hx
      rw [hg] at hg'
      cases hg'
      exact he rfl

set_option maxHeartbeats 4000000 in
theorem resolve17 (g : Nat) (A B : Option Addr) (c d : Nat) (w : World) (ht : TwoAt w g (siteA 4) A (linA 4).length c (siteC 4) B (linB 3 1).length d) (hr : Rd w A (linA 4).length c (fl (linA 4))) (hm : Rd w B (linB 3 1).length d (fl (linB 3 1))) :
    Calls Try.prog 17 #[.slice (some ⟨g, 0, none⟩) 2 2, .int .i64 1] w fun e w' => ∃ v f, e = .returned (.tuple #[v, f, .int .i64 0]) ∧ (∃ xs, Own w' w.heap.size 34 8 v 2 xs ∧ xs[1]? = some (.int .i64 5)) ∧ Own w' w.heap.size 3 1 f 1 [.int .i64 0] ∧ Below w.heap.size w w' := by
  have hA := linA_len 4
  have hB := linB_len 3 1
  obtain ⟨nA, hnA⟩ : ∃ n, (linA 4).length = n := ⟨_, rfl⟩
  obtain ⟨nB, hnB⟩ : ∃ n, (linB 3 1).length = n := ⟨_, rfl⟩
  have hck := check12 g (siteA 4) (siteC 4) A B c d (linA 4) (linB 3 1) w ht hr hm (goodA 4 (by omega)) (goodC 3 1 (by omega))
  have hclA := fun W h => clone28 A c (linA 4) W h (by omega) (by simp [linA])
  have hclB := fun W h => clone28 B d (linB 3 1) W h (by omega) (by simp [linB])
  rw [hnA] at ht hr hclA
  rw [hnB] at ht hm hclB
  obtain ⟨FA, hFA⟩ : ∃ l, fl (linA 4) = l := ⟨_, rfl⟩
  obtain ⟨FB, hFB⟩ : ∃ l, fl (linB 3 1) = l := ⟨_, rfl⟩
  rw [hFA] at hr hclA
  rw [hFB] at hm hclB
  have HT := Lib.hid ht
  have HR := Lib.hid hr
  have HM := Lib.hid hm
  have HA := Lib.hid hclA
  have HB := Lib.hid hclB
  clear ht hr hm hclA hclB hnA hnB hFA hFB hA hB
  go_enter Try.func17, Try.ntmps17
  go_wp2_with fail
  refine hck.mono ?_
  rintro e w1 ⟨rfl, hb1⟩
  have HB1 := Lib.hid hb1
  have ht1 := HT.out.below hb1
  obtain ⟨y0, y1, y2, y3, y4, y5, y6, y7⟩ : _ ∧ _ := ht1.cells1
  simp only [siteC] at y0 y1 y2 y3 y4 y5 y6 y7
  obtain ⟨l1, l2⟩ := lt_of_cells y0
  clear hck hb1 ht1
  go_wp2_with fail
  go_loopw [9, 10, 45] (fun v f i W => ∃ (xs : List Value) (a : Nat) (fs : List Value) (b : Nat), Hid ((i = .int .i64 0 ∧ a = 0 ∧ b = 0 ∧ xs = [] ∧ fs = [] ∧ v = .slice none 0 0 ∧ f = .slice none 0 0 ∧ Site W w1.heap.size 1 1 2 4 (-1) B nB d) ∨ (i = .int .i64 1 ∧ a = 1 ∧ b = 1 ∧ xs[1]? = some (.int .i64 5) ∧ fs = [.int .i64 0]) ∨ (i = .int .i64 2 ∧ a = 2 ∧ b = 1 ∧ xs[1]? = some (.int .i64 5) ∧ fs = [.int .i64 0])) ∧
      Hid (Own W w.heap.size 34 8 v a xs) ∧ Hid (Own W w.heap.size 3 1 f b fs) ∧ Hid (Below w.heap.size w W)) (fun v f i W => 2 - (intOf i).toNat)
  case atStart => exact ⟨[], 0, [], 0, .inl ⟨rfl, rfl, rfl, rfl, rfl, rfl, rfl, heap_alloc_new w1 _⟩, Own.nil _ _ _ _, Own.nil _ _ _ _, HB1.out.alloc HB1.out.size _⟩
  case round =>
    clear y0 y1 y2 y3 y4 y5 y6 y7
    obtain ⟨xs, a, fs, b, hi, hv, hf, hb⟩ := hrel
    rcases hi.out with ⟨rfl, rfl, rfl, rfl, rfl, rfl, rfl, hs⟩ | ⟨rfl, rfl, rfl, hx, rfl⟩ | ⟨rfl, rfl, rfl, hx, rfl⟩
    · clear hi
      have hgw : w1.heap.size < wr.heap.size := lt_of_heap hs
      have hgn : w1.heap.size ≠ wr.heap.size := by omega
      have htr : TwoAt wr g (siteA 4) A nA c (siteC 4) B nB d := HT.out.below hb.out
      obtain ⟨x0, x1, x2, x3, x4, x5, x6, x7⟩ : _ ∧ _ := htr.cells0
      simp only [siteA] at x0 x1 x2 x3 x4 x5 x6 x7
      obtain ⟨l1, l2⟩ := lt_of_cells x0
      go_wp2_with fail
      refine (HA.out _ ((HR.out.below hb.out).below (below_new _ _))).mono ?_
      rintro e w5 ⟨A5, c5, rfl, ho5, _, hb5⟩
      have hs5 : Site w5 wr.heap.size 0 1 1 4 (-1) A nA c := Site.below (heap_alloc_new wr _) hb5
      have HS5 := Lib.hid hs5
      have HB5 : Hid (Below wr.heap.size wr w5) := by refine below_then ?_ hb5; go_grown
      clear hs5 hb5 ho5 htr x0 x1 x2 x3 x4 x5 x6 x7
      go_wp2_with ((with_reducible refine Stop.store 32 ?hst ?_); (case hst => rfl))
      refine Stop.go ?_
      refine step_store_one rfl 32 (.tmp 53) (.tmp 52) rfl rfl HS5.out (by simp) (v := .slice A5 nA c5) rfl inf32s rfl rfl ?_
      intro w6 h6 g6 z6
      have HS6 : Hid (Site w6 wr.heap.size 0 1 1 4 (-1) A5 nA c5) := h6
      have hb6 : Below wr.heap.size wr w6 := HB5.out.grown g6 HB5.out.size (by rintro k e; cases e; exact Nat.le_refl _)
      have HSB6 := Lib.hid (hs.below hb6)
      have HB6 := Lib.hid (hb.out.trans (hb6.mono hb.out.size))
      have HZ := Lib.hid hb.out.size
      obtain ⟨x0, x1, x2, x3, x4, x5, x6, x7⟩ := HS6.out.cells
      obtain ⟨y0, y1, y2, y3, y4, y5, y6, y7⟩ := HSB6.out.cells
      have z1 := frozen_k (i := 1) h6
      have z5 := frozen_k (i := 5) h6
      have z2 := frozen_k (i := 2) h6
      clear h6 g6 z6 hv hf hs hb hb6
      go_wp2_with fail
      go_region
      simp only [Exit.then]
      have hs7 : Site (((w6.setCell ⟨wr.heap.size, 1, none⟩ (.int .i64 5)).setCell ⟨wr.heap.size, 5, none⟩ (.int .i64 (-1))).setCell ⟨wr.heap.size, 2, none⟩ (.int .i64 2)).drew wr.heap.size 0 5 2 4 (-1) A5 nA c5 := set_facts (set_facts (set_facts HS6.out 1 (.int .i64 5)) 5 (.int .i64 (-1))) 2 (.int .i64 2)
      have hb7 : Below w.heap.size w (((w6.setCell ⟨wr.heap.size, 1, none⟩ (.int .i64 5)).setCell ⟨wr.heap.size, 5, none⟩ (.int .i64 (-1))).setCell ⟨wr.heap.size, 2, none⟩ (.int .i64 2)).drew := (((HB6.out.setCell (by exact HZ.out) _).setCell (by exact HZ.out) _).setCell (by exact HZ.out) _).drew
      obtain ⟨w7, e7⟩ : ∃ W, (((w6.setCell ⟨wr.heap.size, 1, none⟩ (.int .i64 5)).setCell ⟨wr.heap.size, 5, none⟩ (.int .i64 (-1))).setCell ⟨wr.heap.size, 2, none⟩ (.int .i64 2)).drew = W := ⟨_, rfl⟩
      rw [e7] at hs7 hb7 ⊢
      clear e7 x0 x1 x2 x3 x4 x5 x6 x7 y0 y1 y2 y3 y4 y5 y6 y7 z1 z2 z5
      have HS7 := Lib.hid hs7
      have HB7 := Lib.hid hb7
      clear hs7 hb7
      go_wp2_with (at_builtin; refine Stop.at ?_)
      refine Stop.go ?_
      refine step_append E46 rfl (.tmp 75) (.tmp 77) rfl w.heap.size (v := .slice none 0 0) (n := 0) (xs := []) rfl (Own.nil _ _ _ _) (X := some ⟨w7.heap.size, 0, none⟩) (m := 1) (c := 1) (news := [.int .i64 0]) rfl (Rd.new w7 3 #[.int .i64 0] 1 (by decide)) rfl (by simp [Value.oneCell']) (by omega) (by decide) (by have := HB7.out.size; simp; omega) ?_
      intro v8 w8 ho8 hg8
      have hb8 : Below w7.heap.size w7 w8 := below_then (below_new _ _) ⟨hg8.grown.os, hg8.grown.tape, hg8.grown.output, hg8.grown.size, fun k hk => hg8.grown.block k hk (by simp [Value.ownBlock])⟩
      have hs8 := HS7.out.below hb8
      obtain ⟨x0, x1, x2, x3, x4, x5, x6, x7⟩ := hs8.cells
      obtain ⟨A8, c8, rfl⟩ := own_form ho8
      have HO8 := Lib.hid ho8
      have HB8 := Lib.hid (HB7.out.trans (hb8.mono HB7.out.size))
      have HNO : Hid (Own w8 w.heap.size 34 8 (.slice none 0 0) 0 []) := Own.nil _ _ _ _
      clear hs8 hb8 ho8 hg8
      go_wp2_with (at_builtin; refine Stop.at ?_)
      refine Stop.go ?_
      refine step_append E23 rfl (.tmp 79) (.tmp 81) rfl w.heap.size (v := .slice none 0 0) (n := 0) (xs := []) rfl (HNO.out.alloc _) (X := some ⟨w8.heap.size, 0, none⟩) (m := 1) (c := 1) (news := [.int .i64 0, .int .i64 5, .int .i64 2, .int .i64 4, .slice A5 nA c5, .int .i64 (-1), .bool true, .bool true]) rfl (Rd.new w8 34 #[.int .i64 0, .int .i64 5, .int .i64 2, .int .i64 4, .slice A5 nA c5, .int .i64 (-1), .bool true, .bool true] 1 (by decide)) rfl (by simp [Value.oneCell']) (by omega) (by decide) (by have := HB8.out.size; simp; omega) ?_
      intro v9 w9 ho9 hg9
      have HO9 := Lib.hid ho9
      have HF9 := Lib.hid ((HO8.out.alloc _).kept hg9.grown (own_apart HO8.out HNO.out (by decide)))
      have HB9 : Hid (Below w.heap.size w w9) := (HB8.out.alloc HB8.out.size _).trans (hg9.below (HNO.out.alloc _) (by have := HB8.out.size; simp; omega))
      clear ho9 hg9
      go_wp2
      exact ⟨⟨_, 1, _, 1, .inr (.inl ⟨rfl, rfl, rfl, rfl, rfl⟩), HO9.out, HF9.out, HB9.out⟩, by simp [intOf]⟩
    · clear hi
      have HX := Lib.hid hx
      have hxl : 1 < xs.length := by rcases Nat.lt_or_ge 1 xs.length with h | h; exact h; rw [List.getElem?_eq_none h] at hx; cases hx
      obtain ⟨A0, c0, rfl⟩ := own_form hv.out
      obtain ⟨A1, c1, rfl⟩ := own_form hf.out
      have htr : TwoAt wr g (siteA 4) A nA c (siteC 4) B nB d := HT.out.below hb.out
      obtain ⟨x0, x1, x2, x3, x4, x5, x6, x7⟩ : _ ∧ _ := htr.cells1
      simp only [siteC] at x0 x1 x2 x3 x4 x5 x6 x7
      obtain ⟨l1, l2⟩ := lt_of_cells x0
      clear hx
      go_wp2_with fail
      refine (HB.out _ ((HM.out.below hb.out).below (below_new _ _))).mono ?_
      rintro e w5 ⟨A5, c5, rfl, ho5, _, hb5⟩
      have hs5 : Site w5 wr.heap.size 1 1 2 4 (-1) B nB d := Site.below (heap_alloc_new wr _) hb5
      have HS5 := Lib.hid hs5
      have HB5 : Hid (Below wr.heap.size wr w5) := by refine below_then ?_ hb5; go_grown
      clear hs5 hb5 ho5 htr x0 x1 x2 x3 x4 x5 x6 x7
      go_wp2_with ((with_reducible refine Stop.store 32 ?hst ?_); (case hst => rfl))
      refine Stop.go ?_
      refine step_store_one rfl 32 (.tmp 53) (.tmp 52) rfl rfl HS5.out (by simp) (v := .slice A5 nB c5) rfl inf32s rfl rfl ?_
      intro w6 h6 g6 z6
      have HS6 : Hid (Site w6 wr.heap.size 1 1 2 4 (-1) A5 nB c5) := h6
      have hb6 : Below wr.heap.size wr w6 := HB5.out.grown g6 HB5.out.size (by rintro k e; cases e; exact Nat.le_refl _)
      have HV6 := Lib.hid (hv.out.below hb6)
      have HF6 := Lib.hid (hf.out.below hb6)
      have HB6 := Lib.hid (hb.out.trans (hb6.mono hb.out.size))
      obtain ⟨x0, x1, x2, x3, x4, x5, x6, x7⟩ := HS6.out.cells
      clear h6 g6 z6 hv hf hb hb6
      go_wp2_with (at_builtin; refine Stop.at ?_)
      refine Stop.go ?_
      refine step_append E23 rfl (.tmp 79) (.tmp 81) rfl w.heap.size (v := .slice A0 1 c0) (n := 1) (xs := xs) rfl (HV6.out.alloc _) (X := some ⟨w6.heap.size, 0, none⟩) (m := 1) (c := 1) (news := [.int .i64 1, .int .i64 1, .int .i64 2, .int .i64 4, .slice A5 nB c5, .int .i64 (-1), .bool true, .bool true]) rfl (Rd.new w6 34 #[.int .i64 1, .int .i64 1, .int .i64 2, .int .i64 4, .slice A5 nB c5, .int .i64 (-1), .bool true, .bool true] 1 (by decide)) rfl (by simp [Value.oneCell']) (by omega) (by decide) (by have := HB6.out.size; simp; omega) ?_
      intro v9 w9 ho9 hg9
      have HO9 := Lib.hid ho9
      have HF9 := Lib.hid ((HF6.out.alloc _).kept hg9.grown (own_apart HF6.out HV6.out (by decide)))
      have HB9 : Hid (Below w.heap.size w w9) := (HB6.out.alloc HB6.out.size _).trans (hg9.below (HV6.out.alloc _) (by have := HB6.out.size; simp; omega))
      clear ho9 hg9
      go_wp2
      exact ⟨⟨_, 2, _, 1, .inr (.inr ⟨rfl, rfl, rfl, by rw [List.getElem?_append_left hxl]; exact HX.out, rfl⟩), HO9.out, HF9.out, HB9.out⟩, by simp [intOf]⟩
    · have HX := Lib.hid hx
      obtain ⟨A0, c0, rfl⟩ := own_form hv.out
      obtain ⟨A1, c1, rfl⟩ := own_form hf.out
      clear hx
      go_wp2
      go_returns
      exact ⟨_, _, rfl, ⟨xs, hv.out, HX.out⟩, hf.out, hb.out⟩
end Go.Proofs.Ytcalfnncjkaekaa
