/- Diverged (5), at two sites. -/
import Derived.Test.YtcalfnncjkaekaaFo
namespace Go.Proofs.Ytcalfnncjkaekaa
open Go.RowKit
set_option linter.unusedVariables false
set_option linter.unusedSimpArgs false
set_option maxRecDepth 20000
attribute [local go_sem] Oper.semAt_some

theorem kept_cells {W W' : World} {row : Option Nat} {D : Nat} (hg : W.grownBy W' row) (hr : ∀ r, row = some r → D ≤ r ∧ ∃ o : Obj, W.heap[r]? = some o ∧ o.isCells = false) {k : Nat} {cs : Array Value} {t : TypeId} {fr : Nat × Nat}
    (h : W.heap[k]? = some (.cells cs t fr)) : W'.heap[k]? = some (.cells cs t fr) :=
  (hg.block k (lt_of_heap h) (fun e => by obtain ⟨_, o, ho, hc⟩ := hr k e.symm; rw [h] at ho; cases ho; cases hc)).trans h
theorem kept_own {W W' : World} {row : Option Nat} {D : Nat} (hg : W.grownBy W' row) (hr : ∀ r, row = some r → D ≤ r ∧ ∃ o : Obj, W.heap[r]? = some o ∧ o.isCells = false) {base : Nat} {e : TypeId} {size n : Nat} {v : Value} {xs : List Value}
    (h : Own W base e size v n xs) : Own W' base e size v n xs := by
  refine ⟨h.1, ?_⟩
  rcases h.2 with hn | ⟨g, off, cap, cur, rfl, hb, hgg, rest⟩
  · exact .inl hn
  · exact .inr ⟨g, off, cap, cur, rfl, hb, kept_cells hg hr hgg, rest⟩

/-- The pairs that have been found. -/
def Found (W : World) (base : Nat) (F : Bool) (v : Value) (n : Nat) : Prop :=
  ∃ xs, Own W base 46 1 v n xs ∧ ((F = false ∧ n = 0 ∧ xs = []) ∨ (F = true ∧ n = 1 ∧ ∃ h, base ≤ h ∧ xs = [.slice (some ⟨h, 0, none⟩) 2 2] ∧ W.heap[h]? = some (.cells #[.int .i64 0, .int .i64 1] 3 (0, 0))))
theorem Found.kept {W W' : World} {row : Option Nat} {D base n : Nat} {F : Bool} {v : Value} (hg : W.grownBy W' row) (hr : ∀ r, row = some r → D ≤ r ∧ ∃ o : Obj, W.heap[r]? = some o ∧ o.isCells = false) (h : Found W base F v n) : Found W' base F v n := by
  obtain ⟨xs, ho, hx⟩ := h
  refine ⟨xs, kept_own hg hr ho, hx.imp id ?_⟩
  rintro ⟨h1, h2, k, h3, h4, h5⟩
  exact ⟨h1, h2, k, h3, h4, kept_cells hg hr h5⟩
def InvD (w : World) (g k5 : Nat) (F : Bool) (pre : List Unit) (W : World) : Prop :=
  ∃ v n, W.heap[k5]? = some (.cells #[v] 26 (0, 0)) ∧ W.heap[w.heap.size]? = some (.cells #[.slice (some ⟨g, 0, none⟩) 2 2] 23 (0, 0)) ∧ Found W w.heap.size (match pre with | [] => false | _ => F) v n ∧ Below w.heap.size w W
theorem InvD.own (w : World) (g k5 : Nat) (F : Bool) (D : Nat) (hD : w.heap.size ≤ D) : OwnFrom D (InvD w g k5 F) := by
  rintro pre W W' row ⟨v, n, h1, h2, h3, h4⟩ hg hr
  exact ⟨v, n, kept_cells hg hr h1, kept_cells hg hr h2, h3.kept hg hr, h4.grown hg h4.size (fun k hk => by have := (hr k hk).1; omega)⟩
/-- What a round keeps for the iterator: blocks of numbers. -/
def KpD (W W' : World) : Prop := ∀ (k : Nat) (cs : Array Value), W.heap[k]? = some (.cells cs 3 (0, 0)) → W'.heap[k]? = some (.cells cs 3 (0, 0))
theorem KpD.trans {X Y Z : World} (h : KpD X Y) (k : KpD Y Z) : KpD X Z := fun i cs hi => k i cs (h i cs hi)
theorem KpD.refl (X : World) : KpD X X := fun i cs hi => hi
theorem KpD.putObj {W : World} {l : Nat} {o : Obj} (o' : Obj) (ho : W.heap[l]? = some o) (hc : o.isCells = false) : KpD W (W.putObj l o') := by
  intro k cs hg
  rw [World.putObj_heap_other]
  · exact hg
  · rintro rfl
    rw [hg] at ho
    cases ho
    cases hc

/-- From W to W': what a round keeps. -/
structure Keep5 (B : Nat) (W W' : World) : Prop where
  below : Below B W W'
  others : ∀ (k : Nat) (o : Obj), W.heap[k]? = some o → o.isCells = false → W'.heap[k]? = some o
  ints : KpD W W'
theorem Keep5.trans {B : Nat} {X Y Z : World} (h : Keep5 B X Y) (k : Keep5 B Y Z) : Keep5 B X Z :=
  ⟨h.below.trans k.below, fun i o hi ho => k.others i o (h.others i o hi ho) ho, h.ints.trans k.ints⟩
theorem Keep5.of_below {B : Nat} {W W' : World} (h : Below W.heap.size W W') (hB : B ≤ W.heap.size) : Keep5 B W W' :=
  ⟨h.mono hB, fun k o hk _ => (h.block k (lt_of_heap hk)).trans hk, fun k cs hk => (h.block k (lt_of_heap hk)).trans hk⟩
theorem Keep5.of_grown {B : Nat} {W W' : World} {g : Nat} {cs : Array Value} {t : TypeId} {fr : Nat × Nat} (hg : W.heap[g]? = some (.cells cs t fr)) (ht : t ≠ 3) (h : W.grownBy W' (some g)) (hB : B ≤ g) (hB2 : B ≤ W.heap.size) : Keep5 B W W' := by
  refine ⟨(Below.refl _ _).grown h hB2 (fun k hk => by cases hk; exact hB), fun k o hk ho => (h.block k (lt_of_heap hk) (fun e => ?_)).trans hk, fun k cs' hk => (h.block k (lt_of_heap hk) (fun e => ?_)).trans hk⟩
  · cases e; rw [hg] at hk; cases hk; cases ho
  · cases e; rw [hg] at hk; cases hk; exact ht rfl
theorem Keep5.of_grew {B : Nat} {W W' : World} {v v' : Value} {n size : Nat} {e : TypeId} {xs : List Value} (hown : Own W B e size v n xs) (he : e ≠ 3) (h : Grew W W' v v') (hB : B ≤ W.heap.size) : Keep5 B W W' := by
  rcases hown.2 with ⟨rfl, _⟩ | ⟨g, off, cap, cur, rfl, hb, hg, _⟩
  · exact Keep5.of_below ⟨h.grown.os, h.grown.tape, h.grown.output, h.grown.size, fun k hk => h.grown.block k hk (by simp [Value.ownBlock])⟩ hB
  · exact Keep5.of_grown hg he h.grown hb hB
theorem Keep5.kf {B D : Nat} {W W' : World} (h : Keep5 B W W') : KeepsFrom D W W' := ⟨h.below.size, fun k o _ hk ho => h.others k o hk ho⟩
theorem Found.below {W W' : World} {base n : Nat} {F : Bool} {v : Value} (hb : Below W.heap.size W W') (h : Found W base F v n) : Found W' base F v n :=
  h.kept (row := none) (D := 0) ⟨hb.os, hb.tape, hb.output, hb.size, fun k hk _ => hb.block k hk⟩ (fun r e => by cases e)
theorem inf26s : (Try.prog.info? 26).map (·.size) = some 1 := by kernel_rfl

def AxD (w : World) (k5 g : Nat) (_ : Unit) (a' : Act) (_ : World) : Prop :=
  a' = { tmps := List.toArray ((.slice (some ⟨g, 0, none⟩) 2 2) :: (.pointer (some ⟨w.heap.size, 0, none⟩)) :: (.slice none 0 0) :: (.int .i64 0) :: (.int .i64 0) :: (.pointer (some ⟨k5, 0, none⟩)) :: (.int .i64 0) :: (.int .i64 1) :: (.slice (some ⟨g, 0, none⟩) 2 2) :: (.int .i64 0) :: (.int .i64 0) :: (.bool false) :: undef :: (.slice (some ⟨g, 0, none⟩) 2 2) :: (.int .i64 2) :: (.func (.func 26) #[] #[.pointer (some ⟨k5 + 1, 0, none⟩)]) :: (.int .i64 0) :: (.int .i64 1) :: undef :: undef :: undef :: undef :: undef :: undef :: undef :: undef :: undef :: undef :: undef :: undef :: undef :: undef :: undef :: undef :: []), defers := [] }

set_option maxHeartbeats 4000000 in
theorem diverged5 (g : Nat) (s s' : St) (A B : Option Addr) (c d : Nat) (L M : List Sp) (R E n m : Nat) (F : Bool) (w : World) (ht : TwoAt w g s A L.length c s' B M.length d) (hr : Rd w A L.length c (fl L)) (hm : Rd w B M.length d (fl M)) (hg : Good s L) (hgm : Good s' M)
    (ha : anc (0, 0) L M = (R, E)) (hn : (lastD L).t = n) (hm' : (lastD M).t = m) (hF : (decide (R < n) && decide (R < m)) = F) (hs : s.role = 1) (hs' : s'.role = 1) (he : s.ep ≠ s'.ep) :
    Calls Try.prog 5 #[.slice (some ⟨g, 0, none⟩) 2 2] w fun e w' => ∃ v n, e = .returned (.tuple #[v, .int .i64 0]) ∧ Found w' w.heap.size F v n ∧ Below w.heap.size w w' := by
  have HT := Lib.hid ht
  have HR := Lib.hid hr
  have HM := Lib.hid hm
  have HG := Lib.hid hg
  have HGM := Lib.hid hgm
  have HA := Lib.hid ha
  have HN := Lib.hid hn
  have HMM := Lib.hid hm'
  have HF := Lib.hid hF
  have HS := Lib.hid hs
  have HS' := Lib.hid hs'
  have HE := Lib.hid he
  clear ht hr hm hg hgm ha hn hm' hF hs hs' he
  refine (callsIn_wide (n := 8)).1 ?_
  refine callsIn_of_wp_marks Try.func5 rfl trivial ?_
  simp only [Try.ntmps5, List.size_toArray, List.length_cons, List.length_nil, Nat.reduceAdd, Nat.reduceSub, Array.replicate_succ, Array.replicate_zero, List.push_toArray, List.append_toArray, List.nil_append, List.cons_append]
  gi_wp2_with fail
  refine ⟨trivial, (callsIn_wide.2 (check12 g s s' A B c d L M _ (HT.out.below (below_new _ _)) (HR.out.below (below_new _ _)) (HM.out.below (below_new _ _)) HG.out HGM.out)).mono ?_⟩
  rintro e w1 ⟨rfl, hb1⟩
  have hbx1 : w1.heap[w.heap.size]? = some (.cells #[.slice (some ⟨g, 0, none⟩) 2 2] 23 (0, 0)) := (hb1.block _ (by simp)).trans (heap_alloc_new w _)
  have HX1 := Lib.hid hbx1
  have HB1 := Lib.hid (below_then (below_new _ _) hb1)
  have hc1 : w1.cell? ⟨w.heap.size, 0, none⟩ = some (.slice (some ⟨g, 0, none⟩) 2 2) := cell_k hbx1 rfl
  have hlt1 := lt_of_heap hbx1
  have hne1 : w.heap.size ≠ w1.heap.size := by omega
  clear hb1 hbx1
  gi_wp2_with fail
  refine ⟨trivial, (callsIn_wide.2 (pairs13 2 _)).mono ?_⟩
  rintro e w' ⟨rfl, rfl⟩
  gi_wp2_with fail
  obtain ⟨w3, e3⟩ : ∃ W, ((w1.alloc (.cells #[.slice none 0 0] 26)).alloc (.cells #[.int .i64 2] 3)) = W := ⟨_, rfl⟩
  have hk5 : w3.heap[w1.heap.size]? = some (.cells #[.slice none 0 0] 26 (0, 0)) := by rw [← e3]; exact alloc_old (heap_alloc_new w1 _)
  have hbn : w3.heap[w1.heap.size + 1]? = some (.cells #[.int .i64 2] 3 (0, 0)) := by rw [← e3]; exact heap_alloc2_new w1 _ _
  have hb13 : Below w1.heap.size w1 w3 := by rw [← e3]; go_grown
  have hx3 : w3.heap[w.heap.size]? = some (.cells #[.slice (some ⟨g, 0, none⟩) 2 2] 23 (0, 0)) := (hb13.block _ hlt1).trans HX1.out
  have hb3 : Below w.heap.size w w3 := below_then HB1.out hb13
  have hz3 : w.heap.size ≤ w3.heap.size := hb3.size
  rw [e3]
  clear e3 hc1
  have hstops := pairs_stops 7 (by omega) (w1.heap.size + 1) w3 hbn KpD (fun W W' hk h => hk _ _ h)
  refine wpIn_rangeFunc_ownH rfl (by omega) (gf := 26) (lb := #[.pointer (some ⟨w1.heap.size + 1, 0, none⟩)]) rfl trivial (Go.Proofs.enters_of Try.func26 (by kernel_rfl) rfl)
    hstops KpD.trans (fun W l o o' hl ho hc hw => KpD.putObj o' ho hc) (Below.refl _ _) (fun _ => rfl) (InvD w g w1.heap.size F) (fun _ _ _ => False) (InvD.own w g w1.heap.size F _ hz3) (fun _ _ _ _ _ h => h.elim)
    ⟨.slice none 0 0, 0, hk5, hx3, ⟨[], Own.nil _ _ _ _, .inl ⟨rfl, rfl, rfl⟩⟩, hb3⟩ (AxD w w1.heap.size g) (fun _ _ _ _ _ _ h _ _ => h) ?assign ?body ?done ?stop
  case assign =>
    intro l pre x W K hI hK
    simp only [encs, List.zip_toArray, List.zip_cons_cons, List.zip_nil_left, List.zip_nil_right, List.size_toArray, List.foldl_toArray, List.foldl_cons, List.foldl_nil, List.setIfInBounds_toArray, List.set_cons_succ, List.set_cons_zero]
    gi_wp2
    exact hK _ _ (KeepsFrom.refl _ _) (KpD.refl _) hI rfl
  case body =>
    rintro l pre _ a' W hl ⟨r, hr⟩ hI rfl hlt
    obtain rfl : pre = [] := List.eq_nil_of_length_eq_zero (by omega)
    obtain ⟨v, nn, hk, hxx, hf, hbw⟩ := hI
    have HTW : TwoAt W g s A L.length c s' B M.length d := HT.out.below hbw
    have HRW := Lib.hid (HR.out.below hbw)
    have HMW := Lib.hid (HM.out.below hbw)
    have HK := Lib.hid hk
    have HXX := Lib.hid hxx
    have HFO := Lib.hid hf
    have HBW := Lib.hid hbw
    have HRL := Lib.hid hr
    clear hk hf hbw hstops hb3 hb13 hk5 hbn hx3 hr
    gi_wp2_with fail
    refine region_round (fun wx => TwoAt wx g s A L.length c s' B M.length d ∧ wx.heap[w.heap.size]? = some (.cells #[.slice (some ⟨g, 0, none⟩) 2 2] 23 (0, 0))) (by kernel_rfl) (by omega) (by kernel_rfl) ⟨HTW, hxx⟩ (fun hHeld => ?_)
    refine wpAnyH_take (i := 0) (v := ?_) rfl (by kernel_rfl) (by kernel_rfl) (by kernel_rfl) Norm.panic (Or.inl ⟨by rfl, ?_⟩) hHeld ?_
    rotate_left
    · intro wx hwx
      obtain ⟨hT, hX⟩ := hwx
      obtain ⟨x0, x1, x2, x3, x4, x5, x6, x7⟩ := hT.cells0
      obtain ⟨y0, y1, y2, y3, y4, y5, y6, y7⟩ := hT.cells1
      have hcx := cell_k (i := 0) hX rfl
      go_simp
      first | done | with_reducible rfl
    try simp only [Act.put, List.setIfInBounds_toArray, List.set_cons_zero, List.set_cons_succ]
    refine wpAnyH_take (i := 1) (v := ?_) rfl (by kernel_rfl) (by kernel_rfl) (by kernel_rfl) Norm.panic (Or.inl ⟨by rfl, ?_⟩) hHeld ?_
    rotate_left
    · intro wx hwx
      obtain ⟨hT, hX⟩ := hwx
      obtain ⟨x0, x1, x2, x3, x4, x5, x6, x7⟩ := hT.cells0
      obtain ⟨y0, y1, y2, y3, y4, y5, y6, y7⟩ := hT.cells1
      have hcx := cell_k (i := 0) hX rfl
      go_simp
      first | done | with_reducible rfl
    try simp only [Act.put, List.setIfInBounds_toArray, List.set_cons_zero, List.set_cons_succ]
    refine wpAnyH_take (i := 2) (v := ?_) rfl (by kernel_rfl) (by kernel_rfl) (by kernel_rfl) Norm.panic (Or.inl ⟨by rfl, ?_⟩) hHeld ?_
    rotate_left
    · intro wx hwx
      obtain ⟨hT, hX⟩ := hwx
      obtain ⟨x0, x1, x2, x3, x4, x5, x6, x7⟩ := hT.cells0
      obtain ⟨y0, y1, y2, y3, y4, y5, y6, y7⟩ := hT.cells1
      have hcx := cell_k (i := 0) hX rfl
      go_simp
      first | done | with_reducible rfl
    try simp only [Act.put, List.setIfInBounds_toArray, List.set_cons_zero, List.set_cons_succ]
    refine wpAnyH_take (i := 3) (v := ?_) rfl (by kernel_rfl) (by kernel_rfl) (by kernel_rfl) Norm.panic (Or.inl ⟨by rfl, ?_⟩) hHeld ?_
    rotate_left
    · intro wx hwx
      obtain ⟨hT, hX⟩ := hwx
      obtain ⟨x0, x1, x2, x3, x4, x5, x6, x7⟩ := hT.cells0
      obtain ⟨y0, y1, y2, y3, y4, y5, y6, y7⟩ := hT.cells1
      have hcx := cell_k (i := 0) hX rfl
      go_simp
      first | done | with_reducible rfl
    try simp only [Act.put, List.setIfInBounds_toArray, List.set_cons_zero, List.set_cons_succ]
    refine wpAnyH_take (i := 4) (v := ?_) rfl (by kernel_rfl) (by kernel_rfl) (by kernel_rfl) Norm.panic (Or.inl ⟨by rfl, ?_⟩) hHeld ?_
    rotate_left
    · intro wx hwx
      obtain ⟨hT, hX⟩ := hwx
      obtain ⟨x0, x1, x2, x3, x4, x5, x6, x7⟩ := hT.cells0
      obtain ⟨y0, y1, y2, y3, y4, y5, y6, y7⟩ := hT.cells1
      have hcx := cell_k (i := 0) hX rfl
      go_simp
      first | done | with_reducible rfl
    try simp only [Act.put, List.setIfInBounds_toArray, List.set_cons_zero, List.set_cons_succ]
    refine wpAnyH_take (i := 5) (v := ?_) rfl (by kernel_rfl) (by kernel_rfl) (by kernel_rfl) Norm.panic (Or.inl ⟨by rfl, ?_⟩) hHeld ?_
    rotate_left
    · intro wx hwx
      obtain ⟨hT, hX⟩ := hwx
      obtain ⟨x0, x1, x2, x3, x4, x5, x6, x7⟩ := hT.cells0
      obtain ⟨y0, y1, y2, y3, y4, y5, y6, y7⟩ := hT.cells1
      have hcx := cell_k (i := 0) hX rfl
      go_simp
      first | done | with_reducible rfl
    try simp only [Act.put, List.setIfInBounds_toArray, List.set_cons_zero, List.set_cons_succ]
    refine wpAnyH_take (i := 6) (v := ?_) rfl (by kernel_rfl) (by kernel_rfl) (by kernel_rfl) Norm.panic (Or.inl ⟨by rfl, ?_⟩) hHeld ?_
    rotate_left
    · intro wx hwx
      obtain ⟨hT, hX⟩ := hwx
      obtain ⟨x0, x1, x2, x3, x4, x5, x6, x7⟩ := hT.cells0
      obtain ⟨y0, y1, y2, y3, y4, y5, y6, y7⟩ := hT.cells1
      have hcx := cell_k (i := 0) hX rfl
      go_simp
      first | done | with_reducible rfl
    try simp only [Act.put, List.setIfInBounds_toArray, List.set_cons_zero, List.set_cons_succ]
    refine wpAnyH_take (i := 7) (v := ?_) rfl (by kernel_rfl) (by kernel_rfl) (by kernel_rfl) Norm.panic (Or.inl ⟨by rfl, ?_⟩) hHeld ?_
    rotate_left
    · intro wx hwx
      obtain ⟨hT, hX⟩ := hwx
      obtain ⟨x0, x1, x2, x3, x4, x5, x6, x7⟩ := hT.cells0
      obtain ⟨y0, y1, y2, y3, y4, y5, y6, y7⟩ := hT.cells1
      have hcx := cell_k (i := 0) hX rfl
      go_simp
      first | done | with_reducible rfl
    try simp only [Act.put, List.setIfInBounds_toArray, List.set_cons_zero, List.set_cons_succ]
    refine wpAnyH_ready (rs := [8]) (by kernel_rfl) (by simp) (AllReadyH.cons rfl (fun K hK => ?_) AllReadyH.nil)
    rw [if_pos (by rfl)]
    go_simp
    go_at_call 14
    refine (diverged14 A B c d s s' L M R E n m F W.drew (HRW.out.kp (fun _ _ h => h)) (HMW.out.kp (fun _ _ h => h)) HG.out.lin HGM.out.lin HG.out.short HGM.out.short HA.out HN.out HMM.out HF.out HS.out HS'.out HE.out).mono ?_
    rintro e w5 ⟨rfl, hb5⟩
    have hb5' : Below W.heap.size W w5 := ⟨hb5.os, hb5.tape, hb5.output, hb5.size, hb5.block⟩
    refine hK.out _ _ ⟨TwoAt.below HTW hb5', (hb5'.block _ (lt_of_heap hxx)).trans hxx⟩ (fun _ => wpAnyH_done (by kernel_rfl) ?_ _)
    refine ⟨rfl, ?_⟩
    simp only [Exit.then]
    clear hK hHeld hb5
    have hk5' : w5.heap[w1.heap.size]? = some (.cells #[v] 26 (0, 0)) := (hb5'.block _ (lt_of_heap HK.out)).trans HK.out
    have HX5 := Lib.hid ((hb5'.block _ (lt_of_heap hxx)).trans hxx)
    have HB5 := Lib.hid hb5'
    have hwW : w.heap.size ≤ W.heap.size := HBW.out.size
    have HKE := Lib.hid (Keep5.of_below HB5.out hwW)
    have HWW := Lib.hid hwW
    cases F
    · clear hk5' hb5'
      gi_wp2
      exact ⟨HKE.out.kf, HKE.out.ints, v, nn, (HB5.out.block _ (lt_of_heap HK.out)).trans HK.out, HX5.out, HFO.out.below HB5.out, HBW.out.trans HKE.out.below⟩
    · obtain ⟨xs, ho, hx⟩ := HFO.out
      rcases hx with ⟨_, rfl, rfl⟩ | ⟨h, _⟩
      · obtain ⟨A0, c0, rfl⟩ := own_form ho
        have HO5 := Lib.hid (ho.below hb5')
        have hc5 := cell_k (i := 0) hk5' rfl
        have HK5 := Lib.hid hk5'
        have hlk := lt_of_heap hk5'
        have HLK := Lib.hid hlk
        have hne5 : w1.heap.size ≠ w5.heap.size := by omega
        clear ho hk5' hb5' hlk
        gi_wp2_with (gi_at_builtin; refine Stop.at ?_)
        refine Stop.go ?_
        have hba : Below w5.heap.size w5 ((w5.alloc (.cells #[.int .i64 0, .int .i64 1] 3)).alloc (.cells #[.slice (some ⟨w5.heap.size, 0, none⟩) 2 2] 46)) := by go_grown
        have hint : ((w5.alloc (.cells #[.int .i64 0, .int .i64 1] 3)).alloc (.cells #[.slice (some ⟨w5.heap.size, 0, none⟩) 2 2] 46)).heap[w5.heap.size]? = some (.cells #[.int .i64 0, .int .i64 1] 3 (0, 0)) := alloc_old (heap_alloc_new w5 _)
        have hnw := Rd.new (w5.alloc (.cells #[.int .i64 0, .int .i64 1] 3)) 46 #[.slice (some ⟨w5.heap.size, 0, none⟩) 2 2] 1 (by decide)
        rw [World.size_alloc] at hnw
        obtain ⟨w6, e6⟩ : ∃ W, ((w5.alloc (.cells #[.int .i64 0, .int .i64 1] 3)).alloc (.cells #[.slice (some ⟨w5.heap.size, 0, none⟩) 2 2] 46)) = W := ⟨_, rfl⟩
        rw [e6] at hba hint hnw ⊢
        clear e6
        have HO6 := Lib.hid (HO5.out.below hba)
        have HK6 := Lib.hid ((hba.block _ HLK.out).trans HK5.out)
        have HINT := Lib.hid hint
        have HKE6 : Hid (Keep5 w.heap.size W w6) := HKE.out.trans (Keep5.of_below hba (Nat.le_trans HWW.out HB5.out.size))
        have HX6 := Lib.hid ((hba.block _ (lt_of_heap HX5.out)).trans HX5.out)
        refine step_appendIn (.inr ⟨l, rfl⟩) E26 rfl (.tmp 27) (.tmp 31) rfl w.heap.size (v := .slice A0 0 c0) (n := 0) (xs := []) rfl HO6.out (X := some ⟨w5.heap.size + 1, 0, none⟩) (m := 1) (c := 1) (news := [.slice (some ⟨w5.heap.size, 0, none⟩) 2 2]) rfl hnw rfl (by simp [Value.oneCell']) (by omega) (by decide) (Nat.le_trans HWW.out HKE6.out.below.size) ?_
        intro v7 w7 ho7 hg7
        obtain ⟨A7, c7, rfl⟩ := own_form ho7
        have hne7 : (Value.slice A0 0 c0).ownBlock ≠ some w1.heap.size := fun e => by
          rcases HO6.out.2 with ⟨h, _⟩ | ⟨g0, off, cap, cur, h, _, hg0, _⟩
          · rw [h] at e; simp [Value.ownBlock] at e
          · rw [h] at e; simp [Value.ownBlock] at e; rw [e] at hg0
            have h6 : w6.heap[w1.heap.size]? = some (.cells #[.slice A0 0 c0] 26 (0, 0)) := HK6.out
            rw [h6] at hg0; cases hg0
        have hk7 : w7.heap[w1.heap.size]? = some (.cells #[.slice A0 0 c0] 26 (0, 0)) := (hg7.block _ (lt_of_heap HK6.out) (fun e => hne7 e.symm)).trans HK6.out
        have hk5 := Keep5.of_grew HO6.out (by decide) hg7 (Nat.le_trans HWW.out HKE6.out.below.size)
        have hx7 : w7.heap[w.heap.size]? = some (.cells #[.slice (some ⟨g, 0, none⟩) 2 2] 23 (0, 0)) := by
          refine (hg7.block _ (lt_of_heap HX6.out) (fun e => ?_)).trans HX6.out
          rcases HO6.out.2 with ⟨h, _⟩ | ⟨g0, off, cap, cur, h, _, hg0, _⟩
          · rw [h] at e; simp [Value.ownBlock] at e
          · rw [h] at e; simp [Value.ownBlock] at e; rw [← e] at hg0
            have h6 : w6.heap[w.heap.size]? = some (.cells #[.slice (some ⟨g, 0, none⟩) 2 2] 23 (0, 0)) := HX6.out
            rw [h6] at hg0; cases hg0
        have HK7 := Lib.hid hk7
        have HX7 := Lib.hid hx7
        have HO7 := Lib.hid ho7
        have HI7 := Lib.hid (hk5.ints _ _ HINT.out)
        have HKE7 := Lib.hid (HKE6.out.trans hk5)
        clear hk7 hx7 ho7 hk5 hne7 hg7 hba hint hnw hc5 hne5
        gi_wp2_with ((with_reducible refine Stop.storeIn 26 ?hst ?_); (case hst => rfl))
        refine Stop.go ?_
        refine step_store_oneIn (.inr ⟨l, rfl⟩) rfl 26 (.tmp 5) (.tmp 32) rfl rfl HK7.out (by simp) rfl inf26s rfl rfl ?_
        intro w8 h8 g8 z8
        have hk8 := Keep5.of_grown HK7.out (by decide) g8 (Nat.le_of_lt hlt1) (Nat.le_trans HWW.out HKE7.out.below.size)
        have HKE8 := Lib.hid (HKE7.out.trans hk8)
        have HI8 := Lib.hid (hk8.ints _ _ HI7.out)
        have HX8 := Lib.hid ((g8.block _ (lt_of_heap HX7.out) (fun e => hne1 (Option.some.inj e))).trans HX7.out)
        have hne8 : (Value.slice A7 (0 + 1) c7).ownBlock ≠ some w1.heap.size := fun e => by
          rcases HO7.out.2 with ⟨h, _⟩ | ⟨g0, off, cap, cur, h, _, hg0, _⟩
          · rw [h] at e; simp [Value.ownBlock] at e
          · rw [h] at e; simp [Value.ownBlock] at e; rw [e] at hg0
            have h6 : w7.heap[w1.heap.size]? = some (.cells #[.slice A0 0 c0] 26 (0, 0)) := HK7.out
            rw [h6] at hg0; cases hg0
        have HO8 := Lib.hid (HO7.out.kept g8 (.inr hne8))
        have H8 := Lib.hid h8
        clear hk8 g8 z8 h8 hne8
        gi_wp2
        refine ⟨HKE8.out.kf, HKE8.out.ints, .slice A7 1 c7, 1, H8.out, HX8.out, ⟨_, HO8.out, .inr ⟨rfl, rfl, w5.heap.size, Nat.le_trans HWW.out HB5.out.size, rfl, HI8.out⟩⟩, HBW.out.trans HKE8.out.below⟩
      · cases h
  case done =>
    rintro D xs W hD rfl ⟨v, n', hk, hx, hf, hb⟩ hK
    have hc := cell_k (i := 0) hk rfl
    have HFO := Lib.hid hf
    have HB := Lib.hid hb
    have HK := Lib.hid hK
    clear hk hx hf hb hK hstops hb3 hb13 hk5 hbn hx3
    gi_wp2
    refine ⟨by simp, .inl ⟨_, _, rfl, run_takeDeferred HK.out, ?_⟩⟩
    have hb := HB.out.trans (belowK_b (n₀ := w.heap.size) (w := w) (Nat.le_refl _) W D _ (.deferred none) (by omega) HK.out rfl rfl)
    have hfo : Found (W.putObj D (.deferred none)) w.heap.size F v n' :=
      Found.kept (row := some D) (D := 0) (grownBy_putObj' W D (.deferred none)) (fun r e => by cases e; exact ⟨Nat.zero_le _, _, HK.out, rfl⟩) HFO.out
    refine ⟨_, results_tmp2 (fn := Try.f5) (t := 2) (u := 3) rfl _ _ _, v, rfl, ⟨n', hfo⟩, hb⟩
  case stop => exact fun _ _ _ _ _ _ h => h.elim
end Go.Proofs.Ytcalfnncjkaekaa
