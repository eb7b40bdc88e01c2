/- Encode (the reference's text): a loop over the list of the groups. -/
import Derived.Test.YtfdkhopionknaaaGroups
import Derived.Test.YtfdkhopionknaaaEnc
import Derived.Test.YtfdkhopionknaaaWireB
namespace Go.Proofs.Ytfdkhopionknaaa
open Go.RowKit
set_option linter.unusedVariables false
set_option linter.unusedSimpArgs false
attribute [local go_sem ↓] run_load_sec

def Oper.isLoad (o : Oper) (t : TypeId) : Bool := match o.op with | .load t' _ => t == t' | _ => false
theorem Stop.load {P : Program} {ops : Array Oper} {Q : Exit → Act → World → Prop} {o : Oper} {rest : List Oper} {a : Act} {w : World} (t : TypeId) (_h : Oper.isLoad o t = true) (g : Stop (wpList P ops Q (o :: rest) a w)) : wpList P ops Q (o :: rest) a w := g
/-- A load of a whole struct, as a step. -/
theorem step_load_agg {P : Program} {ops : Array Oper} {rest : List Oper} {o : Oper} {a : Act} {w : World} {Q : Exit → Act → World → Prop} (hgd : o.guard = none) (t : TypeId) (x : Operand) (ho : o.op = .load t x) {ad : Addr} (hx : a.eval x = .pointer (some ad))
    {cs : List Value} (hag : (isAgg t).run P w = .ok true w) (hsz : (sizeOf t).run P w = .ok cs.length w) (hrow : Row w ad cs) (h : wpList P ops Q rest (a.put o.dst (.agg cs.toArray)) w) : wpList P ops Q (o :: rest) a w := by
  refine wpList_plain hgd fun K hK => ?_
  have hl := run_loadCells_list (P := P) w ad cs hrow
  have hv : (loadVar t ad).run P w = .ok (.agg cs.toArray) w := by simp [loadVar, hag, hsz, hl]
  unfold Oper.wp execOp
  simp only [ho, Instr.loadAt, Instr.sureAddr, hx, Sem.run_bind, Sem.run_pure, Result.andThen_ok, hv]
  exact hK _ _ h
theorem cell1_of {W : World} {g : Nat} {x y z : Value} {t : TypeId} (h : W.heap[g]? = some (.cells #[x, y, z] t (0, 0))) : W.cell? ⟨g, 1, none⟩ = some y := by
  rw [cell_of_row _ _ 1 _ _ _ h]; rfl
theorem agg70 (w : World) : (isAgg 70).run Try.prog w = .ok true w := by
  unfold isAgg
  rw [Sem.run_bind, run_underlying Try.underlying70 w]
  rfl
theorem size70 (w : World) : (sizeOf 70).run Try.prog w = .ok 3 w := E67.run_size w
theorem inf70s : (Try.prog.info? 70).map (·.size) = some 3 := by kernel_rfl
theorem inf38R : (Try.prog.info? 38).map (·.size) = some 8 := by kernel_rfl
theorem gcells_get (gs : List (Nat × Nat × Nat)) : ∀ (i j : Nat) (g : Nat × Nat × Nat), gs[i]? = some g → j < 3 → (gs.flatMap gcells)[i * 3 + j]? = (gcells g)[j]? := by
  induction gs with
  | nil => intro i j g h; simp at h
  | cons x gs ih =>
    intro i j g h hj
    rw [List.flatMap_cons]
    cases i with
    | zero =>
      simp at h; subst h
      rw [Nat.zero_mul, Nat.zero_add, List.getElem?_append_left (by simpa [gcells] using hj)]
    | succ i =>
      simp at h
      rw [List.getElem?_append_right (by simp [gcells]; omega), show (i + 1) * 3 + j - (gcells x).length = i * 3 + j from by simp [gcells]; omega]
      exact ih i j g h hj
theorem flat_snocR {ys : List Sec} {k : Nat} {s : Sec} (h : ys[k]? = some s) : flat (ys.take (k + 1)) = flat (ys.take k) ++ s.bytes := by
  rw [List.take_add_one, h, flat_append]; simp [flat]
theorem flatMap_len_leR {α : Type} (l : List α) (f : α → List UInt8) (b : Nat) (h : ∀ x ∈ l, (f x).length ≤ b) : (l.flatMap f).length ≤ l.length * b := by
  induction l with
  | nil => simp
  | cons x l ih =>
    have h1 := h x (List.mem_cons_self ..)
    have h2 := ih (fun y hy => h y (List.mem_cons_of_mem _ hy))
    simp only [List.flatMap_cons, List.length_append, List.length_cons, Nat.add_mul]
    omega

set_option maxRecDepth 20000 in
set_option maxHeartbeats 4000000 in
theorem refEncode_calls (A : Option Addr) (c : Nat) (xs : List Sec) (w : World) (h : Secs w A c xs) (hlen : xs.length ≤ 65536) :
    Calls Try.prog 21 #[.slice A xs.length c] w (Fresh w (encode xs)) := by
  obtain ⟨gs, hgs⟩ : ∃ gs, gs = groupsAt xs 0 := ⟨_, rfl⟩
  have hgl := groupsAt_len xs 0
  rw [← hgs] at hgl
  go_enter Try.func21, Try.ntmps21
  go_wp2_with fail
  refine (groups_calls A c xs w h (by omega)).mono ?_
  rintro e w1 ⟨v', rfl, hog, hb1⟩
  rw [← hgs] at hog
  obtain ⟨AG, cG, rfl, hrg⟩ := hog.rd
  have HRG := Lib.hid hrg
  have HB1 := Lib.hid hb1
  have HGS := Lib.hid hgs
  have HH := Lib.hid (h.below hb1)
  clear hog hrg hb1 hgs h
  go_wp2
  go_loopw [5, 3] (fun i v wr => ∃ (j : Nat) (A5 : Option Addr) (c5 : Nat) (bs5 : List UInt8), i = .int .i64 j ∧ v = .slice A5 bs5.length c5 ∧ j ≤ gs.length ∧ Hid (bs5 = (gs.take j).flatMap (encG xs)) ∧ Hid (Own wr w1.heap.size 5 1 (.slice A5 bs5.length c5) bs5.length (bs5.map B)) ∧ Hid (Keep3 w1.heap.size w1 wr)) (fun i v wr => gs.length - (intOf i).toNat)
  case atStart => exact ⟨0, none, 0, [], rfl, rfl, Nat.zero_le _, rfl, Own.nil _ _ _ _, Keep3.refl _ _⟩
  case round =>
    obtain ⟨j, A5, c5, bs5, rfl, rfl, hj, hb5, ho5, hk5⟩ := hrel
    by_cases hlt : j < gs.length
    · obtain ⟨⟨K, s, N⟩, hg⟩ : ∃ g, gs[j]? = some g := ⟨_, List.getElem?_eq_getElem hlt⟩
      obtain ⟨hK2, hN1, _, hsN⟩ := groupsAt_mem xs 0 (K, s, N) (by rw [← HGS.out]; exact List.mem_of_getElem? hg)
      simp only at hK2 hN1 hsN
      obtain ⟨ag, rfl⟩ : ∃ a, AG = some a := by
        cases AG with
        | none => have := (HRG.out.nil rfl).1; omega
        | some a => exact ⟨a, rfl⟩
      have hrow : Row wr (ag.add (j * 3)) [.int .i64 K, .int .i64 s, .int .i64 N] := by
        intro i u hi
        have hi3 : i < 3 := (List.getElem?_eq_some_iff.1 hi).1
        rw [Addr.add_add']
        refine (HRG.out.below hk5.out.below).row ag rfl _ _ ?_
        rw [gcells_get gs j i _ hg hi3]
        exact hi
      have HGT := Lib.hid (show (gs.take (j + 1)).flatMap (encG xs) = bs5 ++ encG xs (K, s, N) by rw [List.take_add_one, hg, hb5.out]; simp)
      have hbl5 : bs5.length ≤ 38655295488 := by
        rw [hb5.out]
        have hp : (gs.take j).length ≤ 65536 := by rw [List.length_take]; omega
        have hf := flatMap_len_leR (gs.take j) (encG xs) 589824 (fun x hx => by
          have hx' := groupsAt_mem xs 0 x (by rw [← HGS.out]; exact List.mem_of_mem_take hx)
          have := encG_len xs x hx'.1 hx'.2.1
          omega)
        omega
      obtain ⟨A1, c1, e1, hrd5⟩ := ho5.out.rd
      cases e1
      clear hg
      go_wp2_with ((with_reducible refine Stop.load 70 ?hst ?_); (case hst => rfl))
      refine Stop.go ?_
      refine step_load_agg rfl 70 (.tmp 20) rfl rfl (cs := [.int .i64 K, .int .i64 s, .int .i64 N]) (agg70 wr) (size70 wr) hrow ?_
      go_wp2_with ((with_reducible refine Stop.store 70 ?hst ?_); (case hst => rfl))
      refine Stop.go ?_
      refine step_store_row rfl 70 (.tmp 6) (.tmp 21) rfl rfl (cs := #[.int .i64 0, .int .i64 0, .int .i64 0]) (e := 70) (heap_alloc_new wr _) (vs := #[.int .i64 K, .int .i64 s, .int .i64 N]) rfl inf70s rfl (by simp [Value.oneCell']) ?_
      intro w6 hg6 hgr6 hz6
      have hb6 : Below wr.heap.size wr w6 := ((Below.refl _ _).alloc (Nat.le_refl _) _).grown hgr6 (by simp) (fun k hk => by cases hk; exact Nat.le_refl _)
      have HG6 := Lib.hid hg6
      have HO6 := Lib.hid (ho5.out.below hb6)
      have HK6 := Lib.hid (hk5.out.trans (Keep3.of_below hb6 hk5.out.below.size))
      have hrd6 : Bytes w6 A5 c5 bs5 := Rd.below hrd5 hb6
      have hc0 : w6.cell? ⟨wr.heap.size, 0, none⟩ = some (.int .i64 K) := by rw [cell_of_row _ _ 0 _ _ _ hg6]; rfl
      have hc2 : w6.cell? ⟨wr.heap.size, 2, none⟩ = some (.int .i64 N) := by rw [cell_of_row _ _ 2 _ _ _ hg6]; rfl
      have HZ6 := Lib.hid (show wr.heap.size < w6.heap.size from lt_of_heap hg6)
      have HWR := Lib.hid hk5.out.below.size
      clear hg6 hgr6 hz6 hb6 hrow hrd5
      go_wp2_with fail
      refine (refPutInt_calls A5 c5 bs5 _ w6 hrd6 (by omega)).mono ?_
      rintro e w7 hf
      obtain ⟨A7, c7, rfl, ho7, hr7, hb7⟩ := hf.parts
      have hputI : putI (4 * (N : Int) + (K : Int)) = putN (4 * N + K) := by unfold putI; rw [if_neg (by omega)]; congr 1
      rw [hputI] at ho7 hr7 ⊢
      obtain ⟨bs7, hbs7⟩ : ∃ b, b = bs5 ++ putN (4 * N + K) := ⟨_, rfl⟩
      rw [← hbs7] at ho7 hr7 ⊢
      have hbl7 : bs7.length ≤ bs5.length + 8 := by have := putN_len8 (n := 4 * N + K) (by omega); rw [hbs7, List.length_append]; omega
      have hg7 : w7.heap[wr.heap.size]? = some (.cells #[.int .i64 K, .int .i64 s, .int .i64 N] 70 (0, 0)) := (hb7.block _ HZ6.out).trans HG6.out
      have HG7 := Lib.hid hg7
      have HO7 := Lib.hid (ho7.mono (base' := w1.heap.size) HK6.out.below.size)
      have HK7 := Lib.hid (HK6.out.trans (Keep3.of_below hb7 HK6.out.below.size))
      have HBS7 := Lib.hid hbs7
      have hc0 : w7.cell? ⟨wr.heap.size, 0, none⟩ = some (.int .i64 K) := by rw [cell_of_row _ _ 0 _ _ _ hg7]; rfl
      have hc2 : w7.cell? ⟨wr.heap.size, 2, none⟩ = some (.int .i64 N) := by rw [cell_of_row _ _ 2 _ _ _ hg7]; rfl
      clear hg7 ho7 hr7 hb7 hbs7 hrd6 hf hputI
      have hK : K = 0 ∨ K = 1 ∨ K = 2 := by omega
      rcases hK with rfl | rfl | rfl
      · have HW := Lib.hid (show written (0, s, N) = N from rfl)
        have hMN : N ≤ N := by omega
        go_wp2
        go_loopw [8, 3] (fun i v wz => ∃ (k : Nat) (A8 : Option Addr) (c8 : Nat) (bs8 : List UInt8), i = .int .i64 k ∧ v = .slice A8 bs8.length c8 ∧ k ≤ N ∧ bs8.length ≤ bs7.length + 8 * k ∧ Hid (bs8 = bs7 ++ flat ((xs.drop s).take k)) ∧ Hid (Own wz w1.heap.size 5 1 (.slice A8 bs8.length c8) bs8.length (bs8.map B)) ∧ Hid (Keep3 w1.heap.size w1 wz) ∧ Hid (wz.heap[wr.heap.size]? = some (.cells #[.int .i64 0, .int .i64 s, .int .i64 N] 70 (0, 0)))) (fun i v wz => N - (intOf i).toNat)
        case atStart => exact ⟨0, A7, c7, bs7, rfl, rfl, Nat.zero_le _, Nat.le_refl _, by show _ = _; simp [flat], HO7.out, HK7.out, HG7.out⟩
        case round =>
          clear hc0 hc2
          obtain ⟨k, A8, c8, bs8, rfl, rfl, hk, hbl8, hb8, ho8, hk8, hg8⟩ := hrel
          by_cases hlt8 : k < N
          · obtain ⟨sk, hsk⟩ : ∃ y, xs[s + k]? = some y := ⟨_, List.getElem?_eq_getElem (by omega)⟩
            have hsec := HH.out.below hk8.out.below
            obtain ⟨a, rfl⟩ := hsec.some_of (show s + k < xs.length by omega)
            obtain ⟨p1, q1⟩ := secP_of (hsec.at hsk)
            have hc1 := cell1_of hg8.out
            have hwk : IntKind.i64.wrap ((s : Int) + (k : Int)) = (s : Int) + k := IntWalk.i64_in _ (by omega)
            have hi0 : (0 : Int) ≤ (s : Int) + k := by omega
            have hi1 : (s : Int) + k < xs.length := by omega
            have hto : ((s : Int) + (k : Int)).toNat = s + k := by omega
            have HSN := Lib.hid (show flat ((xs.drop s).take (k + 1)) = flat ((xs.drop s).take k) ++ sk.bytes from flat_snocR (by rw [List.getElem?_drop]; exact hsk))
            clear hsk hsec
            go_wp2_with ((with_reducible refine Stop.store 38 ?hst ?_); (case hst => rfl))
            refine Stop.go ?_
            refine step_store_row rfl 38 (.tmp 9) (.tmp 49) rfl rfl (cs := Sec.zero.cells.toArray) (e := 38) (heap_alloc_new wr _) (vs := sk.cells.toArray) rfl inf38R rfl (oneCell_B _) ?_
            intro w9 hg9 hgr9 hz9
            have hb9 : Below wr.heap.size wr w9 := ((Below.refl _ _).alloc (Nat.le_refl _) _).grown hgr9 (by simp) (fun k hk => by cases hk; exact Nat.le_refl _)
            have HO9 := Lib.hid (ho8.out.below hb9)
            have HK9 := Lib.hid (hk8.out.trans (Keep3.of_below hb9 hk8.out.below.size))
            have HG9 := Lib.hid ((hb9.block _ (lt_of_heap hg8.out)).trans hg8.out)
            have hrd : Rd w9 (some ⟨wr.heap.size, 0, none⟩) 8 8 (sk.bytes.map B) := ⟨Nat.le_refl _, by decide, (fun e => by cases e), fun a ha j u hj => by
              cases ha
              rw [Addr.add_lit, Nat.zero_add]
              have := cell_of_row w9 wr.heap.size j _ _ _ hg9
              rw [this]
              simpa [Sec.cells] using hj⟩
            have hsz9 : w1.heap.size ≤ w9.heap.size := HK9.out.below.size
            clear hg9 hgr9 hz9 hb9 p1 q1 hwk hi0 hi1 hto hc1
            go_wp2_with (at_builtin; refine Stop.at ?_)
            refine Stop.go ?_
            refine step_append E24 rfl (.tmp 50) (.tmp 51) rfl w1.heap.size rfl HO9.out rfl hrd rfl (oneCell_B _) (by omega) (by decide) hsz9 ?_
            intro v10 w10 ho10 hg10
            obtain ⟨A10, c10, rfl, _⟩ := ho10.rd
            obtain ⟨bs10, hbs10⟩ : ∃ y, y = bs8 ++ sk.bytes := ⟨_, rfl⟩
            have hl10 : bs10.length = bs8.length + 8 := by rw [hbs10, List.length_append]; rfl
            rw [← List.map_append, ← hbs10, ← hl10] at ho10
            have HB10 := Lib.hid (show bs10 = bs7 ++ flat ((xs.drop s).take (k + 1)) by rw [hbs10, hb8.out, HSN.out, List.append_assoc])
            have HK10 := Lib.hid (HK9.out.trans (Keep3.of_grew HO9.out hg10 hsz9))
            have HG10 := Lib.hid ((Keep3.of_grew HO9.out hg10 hsz9).typed _ _ _ _ HG9.out (by decide) (by decide))
            have HO10 := Lib.hid ho10
            have hl10a : bs10.length ≤ bs7.length + 8 * (k + 1) := by omega
            rw [← hl10]
            clear hg10 ho10 hbs10 hl10 hrd
            go_wp2
            exact ⟨⟨k + 1, A10, c10, bs10, rfl, rfl, by omega, hl10a, HB10, HO10, HK10, HG10⟩, by first | (simp [intOf]; omega) | simp [intOf]⟩
          · have hfin : bs8 = (gs.take (j + 1)).flatMap (encG xs) := by
              rw [HGT.out, hb8.out, HBS7.out, List.append_assoc, show k = N by omega]
              simp [encG, HW.out]
            have HF := Lib.hid hfin
            clear hfin
            go_wp2
            exact ⟨⟨j + 1, A8, c8, bs8, rfl, rfl, by omega, HF, ho8, hk8⟩, by simp [intOf]; omega⟩
      · have HW := Lib.hid (show written (1, s, N) = 1 from rfl)
        have hMN : 1 ≤ N := by omega
        go_wp2
        go_loopw [8, 3] (fun i v wz => ∃ (k : Nat) (A8 : Option Addr) (c8 : Nat) (bs8 : List UInt8), i = .int .i64 k ∧ v = .slice A8 bs8.length c8 ∧ k ≤ 1 ∧ bs8.length ≤ bs7.length + 8 * k ∧ Hid (bs8 = bs7 ++ flat ((xs.drop s).take k)) ∧ Hid (Own wz w1.heap.size 5 1 (.slice A8 bs8.length c8) bs8.length (bs8.map B)) ∧ Hid (Keep3 w1.heap.size w1 wz) ∧ Hid (wz.heap[wr.heap.size]? = some (.cells #[.int .i64 1, .int .i64 s, .int .i64 N] 70 (0, 0)))) (fun i v wz => 1 - (intOf i).toNat)
        case atStart => exact ⟨0, A7, c7, bs7, rfl, rfl, Nat.zero_le _, Nat.le_refl _, by show _ = _; simp [flat], HO7.out, HK7.out, HG7.out⟩
        case round =>
          clear hc0 hc2
          obtain ⟨k, A8, c8, bs8, rfl, rfl, hk, hbl8, hb8, ho8, hk8, hg8⟩ := hrel
          by_cases hlt8 : k < 1
          · obtain ⟨sk, hsk⟩ : ∃ y, xs[s + k]? = some y := ⟨_, List.getElem?_eq_getElem (by omega)⟩
            have hsec := HH.out.below hk8.out.below
            obtain ⟨a, rfl⟩ := hsec.some_of (show s + k < xs.length by omega)
            obtain ⟨p1, q1⟩ := secP_of (hsec.at hsk)
            have hc1 := cell1_of hg8.out
            have hwk : IntKind.i64.wrap ((s : Int) + (k : Int)) = (s : Int) + k := IntWalk.i64_in _ (by omega)
            have hi0 : (0 : Int) ≤ (s : Int) + k := by omega
            have hi1 : (s : Int) + k < xs.length := by omega
            have hto : ((s : Int) + (k : Int)).toNat = s + k := by omega
            have HSN := Lib.hid (show flat ((xs.drop s).take (k + 1)) = flat ((xs.drop s).take k) ++ sk.bytes from flat_snocR (by rw [List.getElem?_drop]; exact hsk))
            clear hsk hsec
            go_wp2_with ((with_reducible refine Stop.store 38 ?hst ?_); (case hst => rfl))
            refine Stop.go ?_
            refine step_store_row rfl 38 (.tmp 9) (.tmp 49) rfl rfl (cs := Sec.zero.cells.toArray) (e := 38) (heap_alloc_new wr _) (vs := sk.cells.toArray) rfl inf38R rfl (oneCell_B _) ?_
            intro w9 hg9 hgr9 hz9
            have hb9 : Below wr.heap.size wr w9 := ((Below.refl _ _).alloc (Nat.le_refl _) _).grown hgr9 (by simp) (fun k hk => by cases hk; exact Nat.le_refl _)
            have HO9 := Lib.hid (ho8.out.below hb9)
            have HK9 := Lib.hid (hk8.out.trans (Keep3.of_below hb9 hk8.out.below.size))
            have HG9 := Lib.hid ((hb9.block _ (lt_of_heap hg8.out)).trans hg8.out)
            have hrd : Rd w9 (some ⟨wr.heap.size, 0, none⟩) 8 8 (sk.bytes.map B) := ⟨Nat.le_refl _, by decide, (fun e => by cases e), fun a ha j u hj => by
              cases ha
              rw [Addr.add_lit, Nat.zero_add]
              have := cell_of_row w9 wr.heap.size j _ _ _ hg9
              rw [this]
              simpa [Sec.cells] using hj⟩
            have hsz9 : w1.heap.size ≤ w9.heap.size := HK9.out.below.size
            clear hg9 hgr9 hz9 hb9 p1 q1 hwk hi0 hi1 hto hc1
            go_wp2_with (at_builtin; refine Stop.at ?_)
            refine Stop.go ?_
            refine step_append E24 rfl (.tmp 50) (.tmp 51) rfl w1.heap.size rfl HO9.out rfl hrd rfl (oneCell_B _) (by omega) (by decide) hsz9 ?_
            intro v10 w10 ho10 hg10
            obtain ⟨A10, c10, rfl, _⟩ := ho10.rd
            obtain ⟨bs10, hbs10⟩ : ∃ y, y = bs8 ++ sk.bytes := ⟨_, rfl⟩
            have hl10 : bs10.length = bs8.length + 8 := by rw [hbs10, List.length_append]; rfl
            rw [← List.map_append, ← hbs10, ← hl10] at ho10
            have HB10 := Lib.hid (show bs10 = bs7 ++ flat ((xs.drop s).take (k + 1)) by rw [hbs10, hb8.out, HSN.out, List.append_assoc])
            have HK10 := Lib.hid (HK9.out.trans (Keep3.of_grew HO9.out hg10 hsz9))
            have HG10 := Lib.hid ((Keep3.of_grew HO9.out hg10 hsz9).typed _ _ _ _ HG9.out (by decide) (by decide))
            have HO10 := Lib.hid ho10
            have hl10a : bs10.length ≤ bs7.length + 8 * (k + 1) := by omega
            rw [← hl10]
            clear hg10 ho10 hbs10 hl10 hrd
            go_wp2
            exact ⟨⟨k + 1, A10, c10, bs10, rfl, rfl, by omega, hl10a, HB10, HO10, HK10, HG10⟩, by first | (simp [intOf]; omega) | simp [intOf]⟩
          · have hfin : bs8 = (gs.take (j + 1)).flatMap (encG xs) := by
              rw [HGT.out, hb8.out, HBS7.out, List.append_assoc, show k = 1 by omega]
              simp [encG, HW.out]
            have HF := Lib.hid hfin
            clear hfin
            go_wp2
            exact ⟨⟨j + 1, A8, c8, bs8, rfl, rfl, by omega, HF, ho8, hk8⟩, by simp [intOf]; omega⟩
      · have HW := Lib.hid (show written (2, s, N) = 0 from rfl)
        have hMN : 0 ≤ N := by omega
        go_wp2
        go_loopw [8, 3] (fun i v wz => ∃ (k : Nat) (A8 : Option Addr) (c8 : Nat) (bs8 : List UInt8), i = .int .i64 k ∧ v = .slice A8 bs8.length c8 ∧ k ≤ 0 ∧ bs8.length ≤ bs7.length + 8 * k ∧ Hid (bs8 = bs7 ++ flat ((xs.drop s).take k)) ∧ Hid (Own wz w1.heap.size 5 1 (.slice A8 bs8.length c8) bs8.length (bs8.map B)) ∧ Hid (Keep3 w1.heap.size w1 wz) ∧ Hid (wz.heap[wr.heap.size]? = some (.cells #[.int .i64 2, .int .i64 s, .int .i64 N] 70 (0, 0)))) (fun i v wz => 0 - (intOf i).toNat)
        case atStart => exact ⟨0, A7, c7, bs7, rfl, rfl, Nat.zero_le _, Nat.le_refl _, by show _ = _; simp [flat], HO7.out, HK7.out, HG7.out⟩
        case round =>
          clear hc0 hc2
          obtain ⟨k, A8, c8, bs8, rfl, rfl, hk, hbl8, hb8, ho8, hk8, hg8⟩ := hrel
          by_cases hlt8 : k < 0
          · exact absurd hlt8 (by omega)
          · have hfin : bs8 = (gs.take (j + 1)).flatMap (encG xs) := by
              rw [HGT.out, hb8.out, HBS7.out, List.append_assoc, show k = 0 by omega]
              simp [encG, HW.out]
            have HF := Lib.hid hfin
            clear hfin
            go_wp2
            exact ⟨⟨j + 1, A8, c8, bs8, rfl, rfl, by omega, HF, ho8, hk8⟩, by simp [intOf]; omega⟩
    · have hx : bs5 = encode xs := by
        rw [hb5.out, show j = gs.length by omega, List.take_length, HGS.out]
        rfl
      have HX := Lib.hid hx
      have HBB := Lib.hid (HB1.out.trans (hk5.out.below.mono HB1.out.size))
      have HO := Lib.hid (ho5.out.mono (base' := w.heap.size) HB1.out.size)
      clear hx
      go_wp2
      go_ret
      refine ⟨_, rfl, ?_, HBB.out⟩
      rw [← HX.out]
      exact HO.out
end Go.Proofs.Ytfdkhopionknaaa
