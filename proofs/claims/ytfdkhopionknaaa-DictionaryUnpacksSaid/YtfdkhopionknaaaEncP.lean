/- Encode (program's text): a loop over the iterator of the groups. -/
import Derived.Test.YtfdkhopionknaaaIter
import Derived.Test.YtfdkhopionknaaaEnc
namespace Go.Proofs.Ytfdkhopionknaaa
open Go.RowKit
set_option linter.unusedVariables false
set_option linter.unusedSimpArgs false
attribute [local go_sem] Oper.semAt_some
attribute [local go_sem ↓] run_load_sec run_load_secIn

set_option maxHeartbeats 400000 in
theorem groupsF_calls (A : Option Addr) (n c : Nat) (w : World) :
    Calls Try.prog 42 #[.slice A n c] w fun e w' => e = .returned (.func (.func 66) #[] #[.pointer (some ⟨w.heap.size, 0, none⟩)]) ∧ w' = w.alloc (.cells #[.slice A n c] 22) := by
  go_enter Try.func42, Try.ntmps42
  go_wp2
  go_ret
  exact ⟨rfl, rfl⟩

/-- Between two rounds: what has been written so far. -/
def InvE (w : World) (A : Option Addr) (c : Nat) (xs : List Sec) (pre : List (Grp xs)) (W : World) : Prop :=
  ∃ A' c' bs, bs = pre.flatMap (fun x => encG xs x.1) ∧ W.heap[w.heap.size + 1]? = some (.cells #[.slice A' bs.length c'] 24 (0, 0)) ∧ Own W (w.heap.size + 3) 5 1 (.slice A' bs.length c') bs.length (bs.map B) ∧
    W.heap[w.heap.size]? = some (.cells #[.slice A xs.length c] 22 (0, 0)) ∧ Below w.heap.size w W ∧ w.heap.size + 3 ≤ W.heap.size
def AxE (w : World) (A : Option Addr) (c : Nat) (xs : List Sec) (x : Grp xs) (a' : Act) (W : World) : Prop :=
  ∃ Bx, w.heap.size + 3 ≤ Bx ∧ W.heap[Bx]? = some (.cells #[.int .i64 x.1.1, .int .i64 x.1.2.1, .int .i64 x.1.2.2] 65 (0, 0)) ∧
    a' = { tmps := List.toArray ((.slice A xs.length c) :: (.pointer (some ⟨w.heap.size, 0, none⟩)) :: (.slice none 0 0) :: (.pointer (some ⟨w.heap.size + 1, 0, none⟩)) :: (.pointer (some ⟨Bx, 0, none⟩)) :: undef :: undef :: undef :: (.slice A xs.length c) :: (.func (.func 66) #[] #[.pointer (some ⟨w.heap.size + 1 + 1, 0, none⟩)]) :: (.agg #[.int .i64 x.1.1, .int .i64 x.1.2.1, .int .i64 x.1.2.2]) :: undef :: undef :: undef :: undef :: undef :: undef :: undef :: undef :: undef :: undef :: undef :: undef :: undef :: undef :: undef :: undef :: undef :: undef :: undef :: undef :: undef :: undef :: undef :: undef :: undef :: undef :: undef :: undef :: undef :: undef :: undef :: undef :: undef :: undef :: []), defers := [] }

theorem kept_cells {W W' : World} {row : Option Nat} {D : Nat} (hg : W.grownBy W' row) (hr : ∀ r, row = some r → D ≤ r ∧ ∃ o : Obj, W.heap[r]? = some o ∧ o.isCells = false) {k : Nat} {cs : Array Value} {t : TypeId} {fr : Nat × Nat}
    (h : W.heap[k]? = some (.cells cs t fr)) : W'.heap[k]? = some (.cells cs t fr) :=
  (hg.block k (lt_of_heap h) (fun e => by obtain ⟨_, o, ho, hc⟩ := hr k e.symm; rw [h] at ho; cases ho; cases hc)).trans h
theorem kept_own {W W' : World} {row : Option Nat} {D : Nat} (hg : W.grownBy W' row) (hr : ∀ r, row = some r → D ≤ r ∧ ∃ o : Obj, W.heap[r]? = some o ∧ o.isCells = false) {base : Nat} {e : TypeId} {size n : Nat} {v : Value} {xs : List Value}
    (h : Own W base e size v n xs) : Own W' base e size v n xs := by
  refine ⟨h.1, ?_⟩
  rcases h.2 with hn | ⟨g, off, cap, cur, rfl, hb, hgg, rest⟩
  · exact .inl hn
  · exact .inr ⟨g, off, cap, cur, rfl, hb, kept_cells hg hr hgg, rest⟩
theorem InvE.own (w : World) (A : Option Addr) (c : Nat) (xs : List Sec) : OwnFrom (w.heap.size + 3) (InvE w A c xs) := by
  rintro pre W W' row ⟨A', c', bs, e, h1, h2, h3, h4, h5⟩ hg hr
  exact ⟨A', c', bs, e, kept_cells hg hr h1, kept_own hg hr h2, kept_cells hg hr h3, h4.grown hg h4.size (fun k hk => by have := (hr k hk).1; omega), Nat.le_trans h5 hg.size⟩
theorem InvE.keep {w W W' : World} {A : Option Addr} {c : Nat} {xs : List Sec} {pre : List (Grp xs)} (h : InvE w A c xs pre W) (hb : Below W.heap.size W W') : InvE w A c xs pre W' := by
  obtain ⟨A', c', bs, e, h1, h2, h3, h4, h5⟩ := h
  exact ⟨A', c', bs, e, (hb.block _ (lt_of_heap h1)).trans h1, h2.below hb, (hb.block _ (lt_of_heap h3)).trans h3, h4.trans (hb.mono h4.size), Nat.le_trans h5 hb.size⟩
theorem Keep3.kf {B D : Nat} {W W' : World} (h : Keep3 B W W') : KeepsFrom D W W' := ⟨h.below.size, fun k o _ hk ho => h.others k o hk ho⟩
/-- What a round keeps for the iterator. -/
def KpE (B : Nat) (W W' : World) : Prop := Below B W W' ∧ ∀ (k : Nat) (cs : Array Value) (t : TypeId), t = 22 ∨ t = 65 → W.heap[k]? = some (.cells cs t (0, 0)) → W'.heap[k]? = some (.cells cs t (0, 0))
theorem KpE.trans {B : Nat} {X Y Z : World} (h : KpE B X Y) (k : KpE B Y Z) : KpE B X Z := ⟨h.1.trans k.1, fun i cs t ht hi => k.2 i cs t ht (h.2 i cs t ht hi)⟩
theorem Keep3.kp {B : Nat} {W W' : World} (h : Keep3 B W W') : KpE B W W' :=
  ⟨h.below, fun k cs t ht hg => h.typed k cs t _ hg (by rcases ht with rfl | rfl <;> decide) (by rcases ht with rfl | rfl <;> decide)⟩
theorem KpE.putObj {B : Nat} {W : World} {l : Nat} {o : Obj} (o' : Obj) (hl : B ≤ l) (ho : W.heap[l]? = some o) (hc : o.isCells = false) : KpE B W (W.putObj l o') := by
  refine ⟨⟨rfl, rfl, rfl, by simp [World.putObj], fun k hk => World.putObj_heap_other (by omega)⟩, fun k cs t ht hg => ?_⟩
  rw [World.putObj_heap_other]
  · exact hg
  · rintro rfl
    rw [hg] at ho
    cases ho
    cases hc
theorem AxE.own (w : World) (A : Option Addr) (c : Nat) (xs : List Sec) (x : Grp xs) (a' : Act) : OwnFrom (w.heap.size + 3) (fun (_ : Unit) W => AxE w A c xs x a' W) := by
  rintro _ W W' row ⟨Bx, hB, h1, e⟩ hg hr
  exact ⟨Bx, hB, kept_cells hg hr h1, e⟩

/-- A region of four operations whose first two, which only reckon or read, may come in either order. -/
theorem region4In {F : Fence} (hF : F = Fence.wide ∨ ∃ l, F = Fence.wide.inRound l) {n id : Nat} {P : Program} {Q : Exit → Act → World → Prop} {a : Act} {w : World} {o0 o1 o2 o3 : Oper}
    (hm : P.follows .mixedOrders = true) (g0 : o0.guard = none) (g1 : o1.guard = none) (g2 : o2.guard = none) (g3 : o3.guard = none)
    (r0 : Region.ready .any #[o0, o1, o2, o3] #[false, false, false, false] = [0, 1]) (r1 : Region.ready .any #[o0, o1, o2, o3] #[true, false, false, false] = [1]) (r1' : Region.ready .any #[o0, o1, o2, o3] #[false, true, false, false] = [0])
    (r2 : Region.ready .any #[o0, o1, o2, o3] #[true, true, false, false] = [2]) (r3 : Region.ready .any #[o0, o1, o2, o3] #[true, true, true, false] = [3]) (r4 : Region.ready .any #[o0, o1, o2, o3] #[true, true, true, true] = [])
    (v0 v1 : Value) (e0 : (o0.semAt F.round a.eval).run P w.drew = .ok (.value v0) w.drew) (e1 : (o1.semAt F.round a.eval).run P w.drew = .ok (.value v1) w.drew)
    (e0' : (o0.semAt F.round (a.put o1.dst v1).eval).run P w.drew = .ok (.value v0) w.drew) (e1' : (o1.semAt F.round (a.put o0.dst v0).eval).run P w.drew = .ok (.value v1) w.drew)
    (hc : (a.put o1.dst v1).put o0.dst v0 = (a.put o0.dst v0).put o1.dst v1) (h : wpListIn F n P #[o0, o1, o2, o3] Q [o2, o3] ((a.put o0.dst v0).put o1.dst v1) w.drew) :
    (Code.region id #[o0, o1, o2, o3] true).wpIn F n P Q a w := by
  have t3 : ∀ a w, wpListIn F n P #[o0, o1, o2, o3] Q [o3] a w → wpAnyIn F n P .any #[o0, o1, o2, o3] Q 1 #[true, true, true, false] a w := by
    intro a w h
    refine ⟨fun hr => absurd (r3.symm.trans hr) (by simp), fun i hi => ?_⟩
    rw [r3, List.mem_singleton] at hi
    subst hi
    rw [wpListIn, if_pos (by simp [Region.wanted, g3])] at h
    show (if Region.wanted o3 (yielded _ a.tmps) = true then _ else _)
    rw [if_pos (by simp [Region.wanted, g3])]
    exact Oper.wpIn_mono (fun a w hq => ⟨r4, hq⟩) h
  have t2 : wpAnyIn F n P .any #[o0, o1, o2, o3] Q 2 #[true, true, false, false] ((a.put o0.dst v0).put o1.dst v1) w.drew := by
    refine ⟨fun hr => absurd (r2.symm.trans hr) (by simp), fun i hi => ?_⟩
    rw [r2, List.mem_singleton] at hi
    subst hi
    rw [wpListIn, if_pos (by simp [Region.wanted, g2])] at h
    show (if Region.wanted o2 (yielded _ _) = true then _ else _)
    rw [if_pos (by simp [Region.wanted, g2])]
    exact Oper.wpIn_mono (fun a w hq => t3 a w hq) h
  refine wpIn_region_any hm ?_
  refine ⟨fun hr => absurd (r0.symm.trans hr) (by simp), fun i hi => ?_⟩
  have hi' : i ∈ [0, 1] := by rw [← r0]; exact hi
  rcases List.mem_cons.1 hi' with rfl | hi'
  · show (if Region.wanted o0 (yielded _ _) = true then _ else _)
    rw [if_pos (by simp [Region.wanted, g0])]
    refine ⟨about_none hF, ?_⟩
    show o0.uponIn F n P a _ Q ((o0.semAt F.round a.eval).run P w.drew)
    rw [e0]
    refine ⟨fun hr => absurd (r1.symm.trans hr) (by simp), fun i hi => ?_⟩
    have hi' : i ∈ [1] := by rw [← r1]; exact hi
    rw [List.mem_singleton] at hi'
    subst hi'
    show (if Region.wanted o1 (yielded _ _) = true then _ else _)
    rw [if_pos (by simp [Region.wanted, g1])]
    refine ⟨about_none hF, ?_⟩
    show o1.uponIn F n P _ _ Q ((o1.semAt F.round (a.put o0.dst v0).eval).run P w.drew)
    rw [e1']
    exact t2
  · rw [List.mem_singleton] at hi'
    subst hi'
    show (if Region.wanted o1 (yielded _ _) = true then _ else _)
    rw [if_pos (by simp [Region.wanted, g1])]
    refine ⟨about_none hF, ?_⟩
    show o1.uponIn F n P a _ Q ((o1.semAt F.round a.eval).run P w.drew)
    rw [e1]
    refine ⟨fun hr => absurd (r1'.symm.trans hr) (by simp), fun i hi => ?_⟩
    have hi' : i ∈ [0] := by rw [← r1']; exact hi
    rw [List.mem_singleton] at hi'
    subst hi'
    show (if Region.wanted o0 (yielded _ _) = true then _ else _)
    rw [if_pos (by simp [Region.wanted, g0])]
    refine ⟨about_none hF, ?_⟩
    show o0.uponIn F n P _ _ Q ((o0.semAt F.round (a.put o1.dst v1).eval).run P w.drew)
    rw [e0']
    show wpAnyIn F n P .any #[o0, o1, o2, o3] Q 2 #[true, true, false, false] ((a.put o1.dst v1).put o0.dst v0) w.drew
    rw [hc]
    exact t2

theorem Keep3.mk_drew {B : Nat} {W W' : World} (h : Keep3 B W.drew W') : Keep3 B W W' := ⟨⟨h.below.os, h.below.tape, h.below.output, h.below.size, h.below.block⟩, h.others, h.typed⟩

theorem flat_snoc {ys : List Sec} {k : Nat} {s : Sec} (h : ys[k]? = some s) : flat (ys.take (k + 1)) = flat (ys.take k) ++ s.bytes := by
  rw [List.take_add_one, h, flat_append]; simp [flat]
theorem flatMap_len_le {α : Type} (l : List α) (f : α → List UInt8) (b : Nat) (h : ∀ x ∈ l, (f x).length ≤ b) : (l.flatMap f).length ≤ l.length * b := by
  induction l with
  | nil => simp
  | cons x l ih =>
    have h1 := h x (List.mem_cons_self ..)
    have h2 := ih (fun y hy => h y (List.mem_cons_of_mem _ hy))
    simp only [List.flatMap_cons, List.length_append, List.length_cons, Nat.add_mul]
    omega

theorem inf38s : (Try.prog.info? 38).map (·.size) = some 8 := by kernel_rfl
theorem inf24 : (Try.prog.info? 24).map (·.size) = some 1 := by kernel_rfl

set_option maxRecDepth 20000 in
set_option maxHeartbeats 2000000 in
theorem Encode_calls (A : Option Addr) (c : Nat) (xs : List Sec) (w : World) (h : Secs w A c xs) (hlen : xs.length ≤ 65536) :
    Calls Try.prog 19 #[.slice A xs.length c] w (Fresh w (encode xs)) := by
  refine (callsIn_wide (n := 8)).1 ?_
  obtain ⟨w1, e1, hg1, hb1, hz1⟩ := alloc_facts w #[.slice A xs.length c] 22
  obtain ⟨w2, e2, hg2, hb2, hz2⟩ := alloc_facts w1 #[.slice none 0 0] 24
  obtain ⟨w3, e3, hg3, hb3, hz3⟩ := alloc_facts w2 #[.slice A xs.length c] 22
  refine callsIn_of_wp_marks Try.func19 rfl trivial ?_
  simp only [Try.ntmps19, List.size_toArray, List.length_cons, List.length_nil, Nat.reduceAdd, Nat.reduceSub, Array.replicate_succ, Array.replicate_zero, List.push_toArray, List.append_toArray, List.nil_append, List.cons_append]
  have hc1 : w2.cell? ⟨w.heap.size, 0, none⟩ = some (.slice A xs.length c) := by rw [hb2.cell (p := ⟨w.heap.size, 0, none⟩) (show w.heap.size < w1.heap.size by omega), cell_of_row _ _ 0 _ _ _ hg1]; rfl
  gi_wp2_with fail
  refine ⟨trivial, (callsIn_wide.2 (groupsF_calls A xs.length c w2)).mono ?_⟩
  rintro e w' ⟨rfl, rfl⟩
  rw [e3]
  clear e1 e2 e3
  gi_wp2_with fail
  have hz : w3.heap.size = w.heap.size + 3 := by omega
  have hb13 : Below w.heap.size w w3 := (hb1.trans (hb2.mono (by omega))).trans (hb3.mono (by omega))
  have hs3 : Secs w3 A c xs := h.below hb13
  have hcg : w3.heap[w.heap.size + 1 + 1]? = some (.cells #[.slice A xs.length c] 22 (0, 0)) := by
    rw [show w.heap.size + 1 + 1 = w2.heap.size by omega]; exact hg3
  have hgl : w3.heap[w.heap.size]? = some (.cells #[.slice A xs.length c] 22 (0, 0)) := by
    rw [hb3.block _ (by omega), hb2.block _ (by omega)]; exact hg1
  have hgo : w3.heap[w.heap.size + 1]? = some (.cells #[.slice none 0 0] 24 (0, 0)) := by
    rw [hb3.block _ (by omega), ← hz1]; exact hg2
  have hstops := groups_stops 7 (by omega) A c (w.heap.size + 1 + 1) xs w w3 h hb13 hlen hcg (KpE w.heap.size) (fun W W' hk => hk.1) (fun W W' hk => hk.2)
  refine wpIn_rangeFunc_ownH rfl (by omega) (gf := 66) (lb := #[.pointer (some ⟨w.heap.size + 1 + 1, 0, none⟩)]) rfl trivial (Go.Proofs.enters_of Try.func66 (by kernel_rfl) rfl)
    hstops KpE.trans (fun W l o o' hl ho hc hw => KpE.putObj o' (by omega) ho hc) (Below.refl _ _) (fun _ => rfl) (InvE w A c xs) (fun _ _ _ => False) (by rw [hz]; exact InvE.own w A c xs) (fun _ _ _ _ _ h => h.elim)
    ⟨none, 0, [], rfl, hgo, Own.nil _ _ _ _, hgl, hb13, by omega⟩ (AxE w A c xs) (by rw [hz]; exact AxE.own w A c xs) ?assign ?body ?done ?stop
  case assign =>
    intro l pre x W K hI hK
    simp only [encs, List.zip_toArray, List.zip_cons_cons, List.zip_nil_left, List.zip_nil_right, List.size_toArray, List.foldl_toArray, List.foldl_cons, List.foldl_nil, List.setIfInBounds_toArray, List.set_cons_succ, List.set_cons_zero]
    gi_wp2_with ((with_reducible refine Stop.storeIn 65 ?hst ?_); (case hst => rfl))
    refine Stop.go ?_
    refine step_store_rowIn (.inr ⟨l, rfl⟩) rfl 65 (.tmp 4) (.tmp 10) rfl rfl (cs := #[.int .i64 0, .int .i64 0, .int .i64 0]) (e := 65) (heap_alloc_new W _) rfl inf65 rfl (by simp [Value.oneCell']) ?_
    intro W3 hg3 hgr3 hz3
    have hb3' : Below W.heap.size W W3 := ((Below.refl _ _).alloc (Nat.le_refl _) _).grown hgr3 (by simp) (fun k hk => by cases hk; exact Nat.le_refl _)
    gi_wp2
    have hk3' : Keep3 w.heap.size W W3 := Keep3.of_below hb3' (by obtain ⟨_, _, _, _, _, _, _, h4, _⟩ := hI; exact h4.size)
    exact hK _ _ hk3'.kf hk3'.kp (hI.keep hb3') ⟨W.heap.size, by obtain ⟨_, _, _, _, _, _, _, _, h5⟩ := hI; exact h5, hg3, rfl⟩
  case body =>
    rintro l pre ⟨⟨K, s, N⟩, hm⟩ a' W hl ⟨r, hr⟩ ⟨A', c', bs, hbs, hout, hown, hbl, hB, hsz⟩ ⟨Bx, hBx, hx, rfl⟩ hlt
    obtain ⟨hK2, hN1, _, hsN⟩ := groupsAt_mem xs 0 _ hm
    simp only at hK2 hN1 hsN hx
    have hbl' : bs.length ≤ 38655295488 := by
      rw [hbs]
      have hp : pre.length ≤ 65536 := by omega
      have hf := flatMap_len_le pre (fun x => encG xs x.1) 589824 (fun x _ => by
        have hx' := groupsAt_mem xs 0 _ x.2
        have := encG_len xs x.1 hx'.1 hx'.2.1
        omega)
      omega
    obtain ⟨A1, c1, e1, hrd⟩ := hown.rd
    cases e1
    have hco : W.cell? ⟨w.heap.size + 1, 0, none⟩ = some (.slice A' bs.length c') := by rw [cell_of_row _ _ 0 _ _ _ hout]; rfl
    have hx0 : W.cell? ⟨Bx, 0, none⟩ = some (.int .i64 K) := by rw [cell_of_row _ _ 0 _ _ _ hx]; rfl
    have hx2 : W.cell? ⟨Bx, 2, none⟩ = some (.int .i64 N) := by rw [cell_of_row _ _ 2 _ _ _ hx]; rfl
    have HBS := Lib.hid hbs
    have HOUT := Lib.hid hout
    have HOWN := Lib.hid hown
    have HBL := Lib.hid hbl
    have HX := Lib.hid hx
    have HB := Lib.hid hB
    have HR := Lib.hid hr
    clear hbs hout hown hbl hx hB hr hstops hgo hgl hcg hs3 hc1 hb13 hz hg1 hb1 hz1 hg2 hb2 hz2 hg3 hb3 hz3 hl
    gi_wp2_with fail
    refine ⟨trivial, (CallsIn.inRound l (callsIn_wide.2 (PutInt_calls A' c' bs _ W hrd (by omega)))).mono ?_⟩
    rintro e W2 hf
    obtain ⟨A2, c2, rfl, ho2, hr2, hb2⟩ := hf.parts
    have hputI : putI (4 * (N : Int) + (K : Int)) = putN (4 * N + K) := by unfold putI; rw [if_neg (by omega)]; congr 1
    rw [hputI] at ho2 hr2 ⊢
    obtain ⟨bs2, hbs2⟩ : ∃ bs2, bs2 = bs ++ putN (4 * N + K) := ⟨_, rfl⟩
    rw [← hbs2] at ho2 hr2 ⊢
    have hbl2 : bs2.length ≤ bs.length + 8 := by have := putN_len8 (n := 4 * N + K) (by omega); rw [hbs2, List.length_append]; omega
    have hout2 : W2.heap[w.heap.size + 1]? = some (.cells #[.slice A' bs.length c'] 24 (0, 0)) := (hb2.block _ (lt_of_heap HOUT.out)).trans HOUT.out
    have HOUT2 := Lib.hid hout2
    have HBS2 := Lib.hid hbs2
    have HO2 := Lib.hid ho2
    have HB2 := Lib.hid hb2
    clear hout2 hbs2 ho2 hb2 hputI hr2 hco hx0 hx2 hrd
    gi_wp2_with ((with_reducible refine Stop.storeIn 24 ?hst ?_); (case hst => rfl))
    refine Stop.go ?_
    refine step_store_oneIn (.inr ⟨l, rfl⟩) rfl 24 (.tmp 3) (.tmp 18) rfl rfl HOUT2.out (by simp) rfl inf24 rfl rfl ?_
    intro W3 hout3 hgr3 hz3
    have hk3 : Keep3 w.heap.size W W3 := (Keep3.of_below HB2.out HB.out.size).trans (Keep3.of_grown HOUT2.out (.inr rfl) hgr3 (by omega) (Nat.le_trans HB.out.size HB2.out.size))
    have ho3 : Own W3 (w.heap.size + 3) 5 1 (.slice A2 bs2.length c2) bs2.length (bs2.map B) :=
      (HO2.out.mono (by omega)).kept hgr3 (.inr (fun e => by have := (HO2.out.lt _ e).1; omega))
    have hx3 := hk3.typed _ _ _ _ HX.out (by decide) (by decide)
    have hbl3 := hk3.typed _ _ _ _ HBL.out (by decide) (by decide)
    have hout3' : W3.heap[w.heap.size + 1]? = some (.cells #[.slice A2 bs2.length c2] 24 (0, 0)) := hout3
    have hx0 : W3.cell? ⟨Bx, 0, none⟩ = some (.int .i64 K) := by rw [cell_of_row _ _ 0 _ _ _ hx3]; rfl
    have hx1 : W3.cell? ⟨Bx, 1, none⟩ = some (.int .i64 s) := by rw [cell_of_row _ _ 1 _ _ _ hx3]; rfl
    have hx2 : W3.cell? ⟨Bx, 2, none⟩ = some (.int .i64 N) := by rw [cell_of_row _ _ 2 _ _ _ hx3]; rfl
    have hcl : W3.cell? ⟨w.heap.size, 0, none⟩ = some (.slice A xs.length c) := by rw [cell_of_row _ _ 0 _ _ _ hbl3]; rfl
    have HOUT3 := Lib.hid hout3'
    have HO3 := Lib.hid ho3
    have HK3 := Lib.hid hk3
    clear hout3 hout3' ho3 hgr3 hz3 hk3 hx3 hbl3
    have hK : K = 0 ∨ K = 1 ∨ K = 2 := by omega
    rcases hK with rfl | rfl | rfl
    · obtain ⟨A4, c4, ys, hys, hyl, hsl, hsec⟩ := sslice_lohi h s N hsN
      have HW := Lib.hid (show written (0, s, N) = N from rfl)
      gi_wp2
      gi_loopw [36] (fun i wr => ∃ (k : Nat) (A5 : Option Addr) (c5 : Nat) (bs5 : List UInt8), i = .int .i64 k ∧ k ≤ N ∧ Hid (bs5 = bs2 ++ flat (ys.take k)) ∧ Hid (wr.heap[w.heap.size + 1]? = some (.cells #[.slice A5 bs5.length c5] 24 (0, 0))) ∧
          Hid (Own wr (w.heap.size + 3) 5 1 (.slice A5 bs5.length c5) bs5.length (bs5.map B)) ∧ Hid (Keep3 w.heap.size W wr)) (fun i wr => N - (intOf i).toNat)
      case atStart => exact ⟨0, A2, c2, bs2, rfl, Nat.zero_le _, by show _ = _; simp [flat], HOUT3.out, HO3.out, HK3.out⟩
      case round =>
        clear hx0 hx1 hx2 hcl hsl
        obtain ⟨k, A5, c5, bs5, rfl, hk, hb5, hout5, hown5, hk5⟩ := hrel
        by_cases hlt5 : k < N
        · obtain ⟨sk, hsk⟩ : ∃ s, ys[k]? = some s := ⟨_, List.getElem?_eq_getElem (by omega)⟩
          have hsec5 : Secs wr A4 c4 ys := hsec.below (HB.out.trans hk5.out.below)
          have hbl5 : bs5.length = bs2.length + 8 * k := by rw [hb5.out, List.length_append, flat_length, List.length_take]; omega
          have hbl5' : bs5.length ≤ bs2.length + 8 * k := by omega
          clear hbl5
          obtain ⟨a4, rfl⟩ := hsec5.some_of (show k < ys.length by omega)
          obtain ⟨p1, q1⟩ := secP_of (hsec5.at hsk)
          have HSK := Lib.hid hsk
          clear hsk
          gi_wp2_with ((with_reducible refine Stop.storeIn 38 ?hst ?_); (case hst => rfl))
          refine Stop.go ?_
          refine step_store_rowIn (.inr ⟨l, rfl⟩) rfl 38 (.tmp 7) (.tmp 39) rfl rfl (cs := Sec.zero.cells.toArray) (e := 38) (heap_alloc_new wr _) rfl (vs := sk.cells.toArray) inf38s rfl (oneCell_B _) ?_
          intro W6 hg6 hgr6 hz6
          have hb6 : Below wr.heap.size wr W6 := ((Below.refl _ _).alloc (Nat.le_refl _) _).grown hgr6 (by simp) (fun k hk => by cases hk; exact Nat.le_refl _)
          have hout6 : W6.heap[w.heap.size + 1]? = some (.cells #[.slice A5 bs5.length c5] 24 (0, 0)) := (hb6.block _ (lt_of_heap hout5.out)).trans hout5.out
          have ho6 : Own W6.drew (w.heap.size + 3) 5 1 (.slice A5 bs5.length c5) bs5.length (bs5.map B) := (hown5.out.below hb6).drew
          have hk6 : Keep3 w.heap.size W W6 := hk5.out.trans (Keep3.of_below hb6 (Nat.le_trans HB.out.size hk5.out.below.size))
          have hrd6 : Rd W6.drew (some ⟨wr.heap.size, 0, none⟩) 8 8 (sk.bytes.map B) := ⟨Nat.le_refl _, by decide, (fun e => by cases e), fun a ha j u hj => by
            cases ha
            rw [Addr.add_lit, Nat.zero_add]
            have := cell_of_row W6 wr.heap.size j _ _ _ hg6
            show W6.cell? _ = _
            rw [this]
            simpa [Sec.cells] using hj⟩
          have hc6 : W6.drew.cell? ⟨w.heap.size + 1, 0, none⟩ = some (.slice A5 bs5.length c5) := by show W6.cell? _ = _; rw [cell_of_row _ _ 0 _ _ _ hout6]; rfl
          have HO6 := Lib.hid ho6
          have HC6 := Lib.hid hc6
          have HK6 := Lib.hid hk6
          have HOUT6 := Lib.hid hout6
          clear hg6 hgr6 hz6 hb6 hout6 ho6 hk6 hc6 p1 q1
          gi_wp2_with (gi_at_builtin; refine Stop.at ?_)
          refine region4In (.inr ⟨l, rfl⟩) (by kernel_rfl) rfl rfl rfl rfl (by kernel_rfl) (by kernel_rfl) (by kernel_rfl) (by kernel_rfl) (by kernel_rfl) (by kernel_rfl) (.slice A5 bs5.length c5) (.slice (some ⟨wr.heap.size, 0, none⟩) 8 8)
            (run_load24 rfl HC6.out) (run_slice38 rfl) (run_load24 rfl HC6.out) (run_slice38 rfl) rfl ?_
          refine step_appendIn (.inr ⟨l, rfl⟩) E24 rfl (.tmp 40) (.tmp 41) rfl (w.heap.size + 3) rfl HO6.out rfl hrd6 rfl (oneCell_B _) (by omega) (by decide) (by show _ ≤ W6.heap.size; have := hk5.out.below.size; have := HK6.out.below.size; omega) ?_
          intro v7 W7 ho7 hg7
          obtain ⟨A7, c7, rfl, _⟩ := ho7.rd
          obtain ⟨bs7, hbs7⟩ : ∃ bs7, bs7 = bs5 ++ sk.bytes := ⟨_, rfl⟩
          have hl7 : bs7.length = bs5.length + 8 := by rw [hbs7]; simp
          have ho7' : Own W7 (w.heap.size + 3) 5 1 (.slice A7 bs7.length c7) bs7.length (bs7.map B) := by rw [hl7, hbs7, List.map_append]; exact ho7
          have hg7' : Grew W6.drew W7 (.slice A5 bs5.length c5) (.slice A7 (bs5.length + 8) c7) := hg7
          rw [← hl7] at hg7' ⊢
          have hout7 : W7.heap[w.heap.size + 1]? = some (.cells #[.slice A5 bs5.length c5] 24 (0, 0)) :=
            (hg7'.block _ (lt_of_heap HOUT6.out) (fun e => by have := (HO6.out.lt _ e.symm).1; omega)).trans HOUT6.out
          have hk7 : Keep3 w.heap.size W W7 := HK6.out.trans ((Keep3.of_grew (HO6.out.mono (by omega)) hg7' (Nat.le_trans HB.out.size HK6.out.below.size)).mk_drew)
          have HOUT7 := Lib.hid hout7
          have HK7 := Lib.hid hk7
          have HO7 := Lib.hid ho7'
          have HBS7 := Lib.hid hbs7
          have HL7 := Lib.hid hl7
          clear hl7
          clear ho7 hg7 hg7' ho7' hout7 hk7 hbs7 HC6 HOUT6 HO6 HK6 hrd6
          gi_wp2_with ((with_reducible refine Stop.storeIn 24 ?hst ?_); (case hst => rfl))
          refine Stop.go ?_
          refine step_store_oneIn (.inr ⟨l, rfl⟩) rfl 24 (.tmp 3) (.tmp 42) rfl rfl HOUT7.out (by simp) rfl inf24 rfl rfl ?_
          intro W8 hout8 hgr8 hz8
          have hout8' : W8.heap[w.heap.size + 1]? = some (.cells #[.slice A7 bs7.length c7] 24 (0, 0)) := hout8
          have ho8 : Own W8 (w.heap.size + 3) 5 1 (.slice A7 bs7.length c7) bs7.length (bs7.map B) :=
            HO7.out.kept hgr8 (.inr (fun e => by have := (HO7.out.lt _ e).1; omega))
          have hk8 : Keep3 w.heap.size W W8 := HK7.out.trans (Keep3.of_grown HOUT7.out (.inr rfl) hgr8 (by omega) (Nat.le_trans HB.out.size HK7.out.below.size))
          have HOUT8 := Lib.hid hout8'
          have HO8 := Lib.hid ho8
          have HK8 := Lib.hid hk8
          clear hout8 hout8' ho8 hk8 hgr8 hz8
          have hrel5 : Hid (bs7 = bs2 ++ flat (ys.take (k + 1))) := by
            show _ = _
            rw [HBS7.out, hb5.out, List.append_assoc, ← flat_snoc HSK.out]
          gi_wp2
          exact ⟨⟨k + 1, A7, c7, bs7, rfl, by omega, hrel5, HOUT8.out, HO8.out, HK8.out⟩, by first | (simp [intOf]; omega) | simp [intOf]⟩
        · have hfin : bs5 = (pre ++ [(⟨(0, s, N), hm⟩ : Grp xs)]).flatMap (fun x => encG xs x.1) := by
            rw [hb5.out, HBS2.out, HBS.out, List.flatMap_append, show k = ys.length by omega, List.take_length, hys.out]
            simp [encG, HW.out]
          have HF := Lib.hid hfin
          clear hfin
          gi_wp2
          exact ⟨hk5.out.kf, hk5.out.kp, A5, c5, bs5, HF.out, hout5.out, hown5.out, hk5.out.typed _ _ _ _ HBL.out (by decide) (by decide), HB.out.trans hk5.out.below, Nat.le_trans hsz hk5.out.below.size⟩
    · obtain ⟨A4, c4, ys, hys, hyl, hsl, hsec⟩ := sslice_lohi h s 1 (by omega)
      have hslm : ∀ w', (Instr.sliceAt 22 (.slice A xs.length c) (some (.int .i64 s)) (some (.int .i64 ((s : Int) + 1))) none).run Try.prog w' = .ok (.slice A4 1 c4) w' := hsl
      clear hsl
      have HW := Lib.hid (show written (1, s, N) = 1 from rfl)
      gi_wp2
      gi_loopw [36] (fun i wr => ∃ (k : Nat) (A5 : Option Addr) (c5 : Nat) (bs5 : List UInt8), i = .int .i64 k ∧ k ≤ 1 ∧ Hid (bs5 = bs2 ++ flat (ys.take k)) ∧ Hid (wr.heap[w.heap.size + 1]? = some (.cells #[.slice A5 bs5.length c5] 24 (0, 0))) ∧
          Hid (Own wr (w.heap.size + 3) 5 1 (.slice A5 bs5.length c5) bs5.length (bs5.map B)) ∧ Hid (Keep3 w.heap.size W wr)) (fun i wr => 1 - (intOf i).toNat)
      case atStart => exact ⟨0, A2, c2, bs2, rfl, Nat.zero_le _, by show _ = _; simp [flat], HOUT3.out, HO3.out, HK3.out⟩
      case round =>
        clear hx0 hx1 hx2 hcl hslm
        obtain ⟨k, A5, c5, bs5, rfl, hk, hb5, hout5, hown5, hk5⟩ := hrel
        by_cases hlt5 : k < 1
        · obtain ⟨sk, hsk⟩ : ∃ s, ys[k]? = some s := ⟨_, List.getElem?_eq_getElem (by omega)⟩
          have hsec5 : Secs wr A4 c4 ys := hsec.below (HB.out.trans hk5.out.below)
          have hbl5 : bs5.length = bs2.length + 8 * k := by rw [hb5.out, List.length_append, flat_length, List.length_take]; omega
          have hbl5' : bs5.length ≤ bs2.length + 8 * k := by omega
          clear hbl5
          obtain ⟨a4, rfl⟩ := hsec5.some_of (show k < ys.length by omega)
          obtain ⟨p1, q1⟩ := secP_of (hsec5.at hsk)
          have HSK := Lib.hid hsk
          clear hsk
          gi_wp2_with ((with_reducible refine Stop.storeIn 38 ?hst ?_); (case hst => rfl))
          refine Stop.go ?_
          refine step_store_rowIn (.inr ⟨l, rfl⟩) rfl 38 (.tmp 7) (.tmp 39) rfl rfl (cs := Sec.zero.cells.toArray) (e := 38) (heap_alloc_new wr _) rfl (vs := sk.cells.toArray) inf38s rfl (oneCell_B _) ?_
          intro W6 hg6 hgr6 hz6
          have hb6 : Below wr.heap.size wr W6 := ((Below.refl _ _).alloc (Nat.le_refl _) _).grown hgr6 (by simp) (fun k hk => by cases hk; exact Nat.le_refl _)
          have hout6 : W6.heap[w.heap.size + 1]? = some (.cells #[.slice A5 bs5.length c5] 24 (0, 0)) := (hb6.block _ (lt_of_heap hout5.out)).trans hout5.out
          have ho6 : Own W6.drew (w.heap.size + 3) 5 1 (.slice A5 bs5.length c5) bs5.length (bs5.map B) := (hown5.out.below hb6).drew
          have hk6 : Keep3 w.heap.size W W6 := hk5.out.trans (Keep3.of_below hb6 (Nat.le_trans HB.out.size hk5.out.below.size))
          have hrd6 : Rd W6.drew (some ⟨wr.heap.size, 0, none⟩) 8 8 (sk.bytes.map B) := ⟨Nat.le_refl _, by decide, (fun e => by cases e), fun a ha j u hj => by
            cases ha
            rw [Addr.add_lit, Nat.zero_add]
            have := cell_of_row W6 wr.heap.size j _ _ _ hg6
            show W6.cell? _ = _
            rw [this]
            simpa [Sec.cells] using hj⟩
          have hc6 : W6.drew.cell? ⟨w.heap.size + 1, 0, none⟩ = some (.slice A5 bs5.length c5) := by show W6.cell? _ = _; rw [cell_of_row _ _ 0 _ _ _ hout6]; rfl
          have HO6 := Lib.hid ho6
          have HC6 := Lib.hid hc6
          have HK6 := Lib.hid hk6
          have HOUT6 := Lib.hid hout6
          clear hg6 hgr6 hz6 hb6 hout6 ho6 hk6 hc6 p1 q1
          gi_wp2_with (gi_at_builtin; refine Stop.at ?_)
          refine region4In (.inr ⟨l, rfl⟩) (by kernel_rfl) rfl rfl rfl rfl (by kernel_rfl) (by kernel_rfl) (by kernel_rfl) (by kernel_rfl) (by kernel_rfl) (by kernel_rfl) (.slice A5 bs5.length c5) (.slice (some ⟨wr.heap.size, 0, none⟩) 8 8)
            (run_load24 rfl HC6.out) (run_slice38 rfl) (run_load24 rfl HC6.out) (run_slice38 rfl) rfl ?_
          refine step_appendIn (.inr ⟨l, rfl⟩) E24 rfl (.tmp 40) (.tmp 41) rfl (w.heap.size + 3) rfl HO6.out rfl hrd6 rfl (oneCell_B _) (by omega) (by decide) (by show _ ≤ W6.heap.size; have := hk5.out.below.size; have := HK6.out.below.size; omega) ?_
          intro v7 W7 ho7 hg7
          obtain ⟨A7, c7, rfl, _⟩ := ho7.rd
          obtain ⟨bs7, hbs7⟩ : ∃ bs7, bs7 = bs5 ++ sk.bytes := ⟨_, rfl⟩
          have hl7 : bs7.length = bs5.length + 8 := by rw [hbs7]; simp
          have ho7' : Own W7 (w.heap.size + 3) 5 1 (.slice A7 bs7.length c7) bs7.length (bs7.map B) := by rw [hl7, hbs7, List.map_append]; exact ho7
          have hg7' : Grew W6.drew W7 (.slice A5 bs5.length c5) (.slice A7 (bs5.length + 8) c7) := hg7
          rw [← hl7] at hg7' ⊢
          have hout7 : W7.heap[w.heap.size + 1]? = some (.cells #[.slice A5 bs5.length c5] 24 (0, 0)) :=
            (hg7'.block _ (lt_of_heap HOUT6.out) (fun e => by have := (HO6.out.lt _ e.symm).1; omega)).trans HOUT6.out
          have hk7 : Keep3 w.heap.size W W7 := HK6.out.trans ((Keep3.of_grew (HO6.out.mono (by omega)) hg7' (Nat.le_trans HB.out.size HK6.out.below.size)).mk_drew)
          have HOUT7 := Lib.hid hout7
          have HK7 := Lib.hid hk7
          have HO7 := Lib.hid ho7'
          have HBS7 := Lib.hid hbs7
          have HL7 := Lib.hid hl7
          clear hl7
          clear ho7 hg7 hg7' ho7' hout7 hk7 hbs7 HC6 HOUT6 HO6 HK6 hrd6
          gi_wp2_with ((with_reducible refine Stop.storeIn 24 ?hst ?_); (case hst => rfl))
          refine Stop.go ?_
          refine step_store_oneIn (.inr ⟨l, rfl⟩) rfl 24 (.tmp 3) (.tmp 42) rfl rfl HOUT7.out (by simp) rfl inf24 rfl rfl ?_
          intro W8 hout8 hgr8 hz8
          have hout8' : W8.heap[w.heap.size + 1]? = some (.cells #[.slice A7 bs7.length c7] 24 (0, 0)) := hout8
          have ho8 : Own W8 (w.heap.size + 3) 5 1 (.slice A7 bs7.length c7) bs7.length (bs7.map B) :=
            HO7.out.kept hgr8 (.inr (fun e => by have := (HO7.out.lt _ e).1; omega))
          have hk8 : Keep3 w.heap.size W W8 := HK7.out.trans (Keep3.of_grown HOUT7.out (.inr rfl) hgr8 (by omega) (Nat.le_trans HB.out.size HK7.out.below.size))
          have HOUT8 := Lib.hid hout8'
          have HO8 := Lib.hid ho8
          have HK8 := Lib.hid hk8
          clear hout8 hout8' ho8 hk8 hgr8 hz8
          have hrel5 : Hid (bs7 = bs2 ++ flat (ys.take (k + 1))) := by
            show _ = _
            rw [HBS7.out, hb5.out, List.append_assoc, ← flat_snoc HSK.out]
          gi_wp2
          exact ⟨⟨k + 1, A7, c7, bs7, rfl, by omega, hrel5, HOUT8.out, HO8.out, HK8.out⟩, by first | (simp [intOf]; omega) | simp [intOf]⟩
        · have hfin : bs5 = (pre ++ [(⟨(1, s, N), hm⟩ : Grp xs)]).flatMap (fun x => encG xs x.1) := by
            rw [hb5.out, HBS2.out, HBS.out, List.flatMap_append, show k = ys.length by omega, List.take_length, hys.out]
            simp [encG, HW.out]
          have HF := Lib.hid hfin
          clear hfin
          gi_wp2
          exact ⟨hk5.out.kf, hk5.out.kp, A5, c5, bs5, HF.out, hout5.out, hown5.out, hk5.out.typed _ _ _ _ HBL.out (by decide) (by decide), HB.out.trans hk5.out.below, Nat.le_trans hsz hk5.out.below.size⟩
    · obtain ⟨A4, c4, ys, hys, hyl, hsl, hsec⟩ := sslice_lohi h s 0 (by omega)
      have hslm : ∀ w', (Instr.sliceAt 22 (.slice A xs.length c) (some (.int .i64 s)) (some (.int .i64 (s : Int))) none).run Try.prog w' = .ok (.slice A4 0 c4) w' := hsl
      clear hsl
      have HW := Lib.hid (show written (2, s, N) = 0 from rfl)
      gi_wp2
      gi_loopw [36] (fun i wr => ∃ (k : Nat) (A5 : Option Addr) (c5 : Nat) (bs5 : List UInt8), i = .int .i64 k ∧ k ≤ 0 ∧ Hid (bs5 = bs2 ++ flat (ys.take k)) ∧ Hid (wr.heap[w.heap.size + 1]? = some (.cells #[.slice A5 bs5.length c5] 24 (0, 0))) ∧
          Hid (Own wr (w.heap.size + 3) 5 1 (.slice A5 bs5.length c5) bs5.length (bs5.map B)) ∧ Hid (Keep3 w.heap.size W wr)) (fun i wr => 0 - (intOf i).toNat)
      case atStart => exact ⟨0, A2, c2, bs2, rfl, Nat.zero_le _, by show _ = _; simp [flat], HOUT3.out, HO3.out, HK3.out⟩
      case round =>
        clear hx0 hx1 hx2 hcl hslm
        obtain ⟨k, A5, c5, bs5, rfl, hk, hb5, hout5, hown5, hk5⟩ := hrel
        by_cases hlt5 : k < 0
        · exact absurd hlt5 (by omega)
        · have hfin : bs5 = (pre ++ [(⟨(2, s, N), hm⟩ : Grp xs)]).flatMap (fun x => encG xs x.1) := by
            rw [hb5.out, HBS2.out, HBS.out, List.flatMap_append, show k = ys.length by omega, List.take_length, hys.out]
            simp [encG, HW.out]
          have HF := Lib.hid hfin
          clear hfin
          gi_wp2
          exact ⟨hk5.out.kf, hk5.out.kp, A5, c5, bs5, HF.out, hout5.out, hown5.out, hk5.out.typed _ _ _ _ HBL.out (by decide) (by decide), HB.out.trans hk5.out.below, Nat.le_trans hsz hk5.out.below.size⟩
  case done =>
    clear hstops
    rintro D zs W hD hS ⟨A', c', bs, hbs, hout, hown, hbl, hB, hsz⟩ hK
    have hco : W.cell? ⟨w.heap.size + 1, 0, none⟩ = some (.slice A' bs.length c') := by rw [cell_of_row _ _ 0 _ _ _ hout]; rfl
    have he : bs = encode xs := by rw [hbs]; unfold encode; exact (List.flatMap_map (fun x : Grp xs => x.val) (encG xs) zs).symm.trans (congrArg (List.flatMap (encG xs)) hS)
    have HE := Lib.hid he
    have HBS := Lib.hid hbs
    have HOWN := Lib.hid hown
    have HB := Lib.hid hB
    have HK := Lib.hid hK
    clear he hbs hout hown hbl hB hK hS hgo hgl hcg hs3 hc1 hb13 hg1 hb1 hg2 hb2 hg3 hb3
    gi_wp2
    refine ⟨by simp, .inl ⟨_, _, rfl, run_takeDeferred HK.out, ?_⟩⟩
    have hb := HB.out.trans (belowK_b (n₀ := w.heap.size) (w := w) (Nat.le_refl _) W D _ (.deferred none) (by omega) HK.out rfl rfl)
    have ho : Own (W.putObj D (.deferred none)) w.heap.size 5 1 (.slice A' bs.length c') bs.length (bs.map B) :=
      kept_own (row := some D) (D := 0) (grownBy_putObj' W D (.deferred none)) (fun r e => by cases e; exact ⟨Nat.zero_le _, _, HK.out, rfl⟩) (HOWN.out.mono (by omega))
    rw [← HE.out]
    refine ⟨_, results_tmp (fn := Try.f19) (t := 2) rfl _ _ _, .slice A' bs.length c', rfl, ho, hb⟩
  case stop => exact fun _ _ _ _ _ _ h => h.elim
end Go.Proofs.Ytfdkhopionknaaa
