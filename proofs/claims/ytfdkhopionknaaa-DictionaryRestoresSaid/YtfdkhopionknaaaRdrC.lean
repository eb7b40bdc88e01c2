/- The reader's group: literal sectors. -/
import Derived.Test.YtfdkhopionknaaaRdr
namespace Go.Proofs.Ytfdkhopionknaaa
open Go.RowKit
set_option linter.unusedVariables false
set_option linter.unusedSimpArgs false
attribute [local go_sem ↓] run_load_sec run_build_sec
attribute [local go_sem] isSec_secV unSec_secV

theorem secsN_snoc (j : Nat) : ∀ bs, secsN (j + 1) bs = secsN j bs ++ [secOf (bs.drop (8 * j))] := by
  induction j with
  | zero => intro bs; simp [secsN]
  | succ j ih =>
    intro bs
    have := ih (bs.drop 8)
    rw [List.drop_drop] at this
    rw [secsN, this, secsN, show 8 + 8 * j = 8 * (j + 1) by omega]
    rfl

set_option maxRecDepth 20000 in
set_option maxHeartbeats 3000000 in
theorem group_k0 (R : Nat) (bs : List UInt8) (m : Nat) (out : List Sec) (w : World) (h : RS0 R w bs m out) (hbs : bs.length ≤ 1099511627776) (hm : m ≤ 4096) (ho : out.length ≤ m) (n k : Nat) (hn : numG bs 0 0 = (n, k, 0)) (hf : ¬ (2 < n % 4 ∨ n / 4 = 0)) (hl : ¬ m < n / 4 + out.length) (hK : n % 4 = 0) :
    Calls Try.prog 47 #[.pointer (some ⟨R, 0, none⟩)] w fun e w' => Below R w w' ∧
      (((stepG m bs out).1 ≠ 0 ∧ e = failure (stepG m bs out).1) ∨
       ((stepG m bs out).1 = 0 ∧ e = .returned (.tuple #[]) ∧ RS R w' (stepG m bs out).2.1 m (stepG m bs out).2.2)) := by
  obtain ⟨A, c, O, oc, hR, hb, hown⟩ := h
  obtain ⟨h1, h2, h3⟩ := (numG_le bs 0 0 n k 0 hn).1 rfl
  have HN := Lib.hid hn
  have HR := Lib.hid hR
  have HO := Lib.hid hown
  have hRl := lt_of_heap hR
  clear hR hown
  go_enter Try.func47, Try.ntmps47
  go_wp2_with fail
  refine (rnumber_calls R A c bs m O out.length oc w HR.out hb hbs n k 0 hn).mono ?_
  rintro e w1 ⟨hg1, ⟨he, rfl, hR1⟩ | ⟨_, rfl, A1, c1, hR1, ho1⟩⟩
  · exact absurd rfl he
  obtain ⟨bs1, hbs1⟩ : ∃ x, x = bs.drop k := ⟨_, rfl⟩
  have hl1 : bs1.length = bs.length - k := by rw [hbs1, List.length_drop]
  rw [← hbs1, ← hl1] at ho1
  rw [← hl1] at hR1
  have hby1 : Bytes w1 A1 c1 bs1 := by obtain ⟨A', c', e, hr⟩ := ho1.rd; cases e; exact hr
  have hsa1 : Safe R w1 A1 := Safe.of_own ho1
  have HBS1 := Lib.hid hbs1
  clear hbs1
  obtain ⟨kd, hkd⟩ : ∃ x, n % 4 = x := ⟨_, rfl⟩
  obtain ⟨cn, hcn⟩ : ∃ x, n / 4 = x := ⟨_, rfl⟩
  have e1 : (n : Int).tmod 4 = (kd : Int) := by rw [← hkd, Int.tmod_eq_emod_of_nonneg (by omega)]; omega
  have e2 : (n : Int).tdiv 4 = (cn : Int) := by rw [← hcn, Int.tdiv_eq_ediv_of_nonneg (by omega)]; omega
  rw [hkd, hcn] at hf
  have hk2 : kd ≤ 2 := by omega
  have hc1 : 1 ≤ cn := by omega
  have b1 : ¬ (2 : Int) < (kd : Int) := by omega
  have b2 : ((cn : Int) == 0) = false := by simp; omega
  have b3 : decide ((2 : Int) < (kd : Int)) = false := by simp; omega
  have hcm : w1.cell? ⟨R, 1, none⟩ = some (.int .i64 m) := by rw [cell_of_row _ _ 1 _ _ _ hR1]; rfl
  have hco : w1.cell? ⟨R, 2, none⟩ = some (.slice O out.length oc) := by rw [cell_of_row _ _ 2 _ _ _ hR1]; rfl
  have hnf : ¬ (2 < n % 4 ∨ n / 4 = 0) := by rw [hkd, hcn]; exact hf
  have hsub : (m : Int) - (out.length : Int) = ((m - out.length : Nat) : Int) := by omega
  have HR1 := Lib.hid hR1
  have HO1 := Lib.hid ho1
  have HG1 := Lib.hid hg1
  clear hR1 ho1 hg1 hf
  go_wp2_with fail
  go_quiet (fail)
  rw [hcn] at hl
  have b4 : ¬ ((m - out.length : Nat) : Int) < (cn : Int) := by omega
  have hl' : ¬ m < n / 4 + out.length := by rw [hcn]; exact hl
  obtain rfl : kd = 0 := by omega
  have hst1 : bs1.length < 8 * cn → stepG m bs out = (10, [], []) := fun hlt => by
    rw [stepG_torn HN.out hnf hl' (by rw [hkd, hcn]; simp [needG]; omega)]
  have hst0 : 8 * cn ≤ bs1.length → stepG m bs out = (0, bs1.drop (8 * cn), out ++ secsN cn bs1) := fun hge => by
    rw [stepG_ok HN.out hnf hl' (by rw [hkd, hcn]; simp [needG]; omega), hkd, hcn, HBS1.out, List.drop_drop]
    simp [needG, grpG]
  have HST1 := Lib.hid hst1
  have HST0 := Lib.hid hst0
  have HOD := Lib.hid (show Own (w1.drewN nq) (R + 1) 38 8 (.slice O out.length oc) out.length ((flat out).map B) from (HO.out.kept HG1.out (.inr (fun e => by have := (HO.out.lt _ e).1; omega))).below (below_drews (Below.refl _ _) nq))
  have HBW := Lib.hid ((below_of_grown HG1.out (by omega)).trans (below_drews (Below.refl _ _) nq))
  clear hst1 hst0 hcm hco
  go_wp2
  go_loopw [48] (fun i wr => ∃ (j : Nat) (A4 : Option Addr) (c4 : Nat) (bs4 : List UInt8) (O4 : Option Addr) (oc4 : Nat) (out4 : List Sec), i = .int .i64 j ∧ j ≤ cn ∧ 8 * j ≤ bs1.length ∧ Hid (bs4 = bs1.drop (8 * j)) ∧ Hid (out4 = out ++ secsN j bs1) ∧
      Hid (wr.heap[R]? = some (.cells #[.slice A4 bs4.length c4, .int .i64 m, .slice O4 out4.length oc4] 78 (0, 0))) ∧ Hid (Bytes wr A4 c4 bs4) ∧ Hid (Safe R wr A4) ∧ Hid (Own wr (R + 1) 38 8 (.slice O4 out4.length oc4) out4.length ((flat out4).map B)) ∧ Hid (Below R w wr)) (fun i wr => cn - (intOf i).toNat)
  case atStart => exact ⟨0, A1, c1, bs1, O, oc, out, rfl, by omega, by omega, by show _ = _; simp, by show _ = _; simp [secsN], HR1.out, hby1.drews nq, hsa1.drews nq, HOD.out, HBW.out⟩
  case round =>
    obtain ⟨j, A4, c4, bs4, O4, oc4, out4, rfl, hj, hj8, HB4, HO4, HR4, HY4, HS4, HW4, HL4⟩ := hrel
    have hl4a : bs1.length ≤ bs4.length + 8 * j := by rw [HB4.out, List.length_drop]; omega
    have hl4b : bs4.length + 8 * j ≤ bs1.length := by rw [HB4.out, List.length_drop]; omega
    have hlo4 : out4.length ≤ out.length + j := by rw [HO4.out]; simp
    by_cases hlt : j < cn
    · have hco : wr.cell? ⟨R, 2, none⟩ = some (.slice O4 out4.length oc4) := by rw [cell_of_row _ _ 2 _ _ _ HR4.out]; rfl
      by_cases h8 : 8 ≤ bs4.length
      · obtain ⟨s, hs1⟩ : ∃ s, s = secOf bs4 := ⟨_, rfl⟩
        have hsec : Calls Try.prog 71 #[.pointer (some ⟨R, 0, none⟩)] wr.drew fun e w' => e = .returned (secV s) ∧ Hid (wr.drew.grownBy w' (some R)) ∧ ∃ A2 c2,
            Hid (w'.heap[R]? = some (.cells #[.slice A2 (bs4.length - 8) c2, .int .i64 m, .slice O4 out4.length oc4] 78 (0, 0))) ∧ Hid (Bytes w' A2 c2 (bs4.drop 8)) ∧ Hid (∀ a', A2 = some a' → ∃ a, A4 = some a ∧ a'.block = a.block) := by
          refine (rsector_calls R A4 c4 bs4 m O4 out4.length oc4 wr.drew HR4.out (by exact HY4.out.drews 1)).mono ?_
          rintro e w' ⟨hg, ⟨h, _⟩ | ⟨_, rfl, A2, c2, x1, x2, x3⟩⟩
          · omega
          · exact ⟨by rw [hs1], hg, A2, c2, x1, x2, x3⟩
        have HOD4 := Lib.hid (show Own wr.drew (R + 1) 38 8 (.slice O4 out4.length oc4) out4.length ((flat out4).map B) from HW4.out.drew)
        have hW0 : R + 1 ≤ wr.drew.heap.size := lt_of_heap HR4.out
        obtain ⟨out7, hout7⟩ : ∃ x, x = out4 ++ [s] := ⟨_, rfl⟩
        have hl7 : out7.length = out4.length + 1 := by rw [hout7]; simp
        have HS7 := Lib.hid (show out7 = out ++ secsN (j + 1) bs1 by rw [hout7, HO4.out, secsN_snoc, List.append_assoc, hs1, HB4.out])
        have HOUT7 := Lib.hid hout7
        clear hout7 hs1
        go_wp2_with fail
        go_region_law (first | ((go_simp; go_at_call 71; refine hsec.mono ?_; rintro e w5 ⟨rfl, HG5, A5, c5, HR5, HB5, HA5⟩; have HC5 := keep_out HR5; have HC5' := keep_outB HR5 ((Below.refl _ _).alloc (Nat.le_refl _) (.cells s.cells.toArray 38)); have HO6' := Lib.hid (own_through HOD4.out HG5.out (Below.refl _ (w5.alloc (.cells s.cells.toArray 38)))); have HR6 := Lib.hid (through_R HR5.out (Below.refl _ (w5.alloc (.cells s.cells.toArray 38)))); have HBS6 := Lib.hid (Nat.le_trans hW0 (size_through HG5.out (Below.refl _ (w5.alloc (.cells s.cells.toArray 38))))); have hrd6 := Secs.one w5 s)) | ((refine step_appendD (t := 22) (e := 38) (size := 8) (bytes := 8) E22 rfl (.tmp 54) (.tmp 59) rfl (R + 1) (v := .slice O4 out4.length oc4) (n := out4.length) (xs := (flat out4).map B) (by rfl) HO6'.out (Y := some ⟨w5.heap.size, 0, none⟩) (m := 1) (c := 1) (news := (flat [s]).map B) (by rfl) hrd6 (by rfl) (oneCell_B _) (by omega) (by omega) HBS6.out ?_; intro v7 w7 HO7 HG7; obtain ⟨O7, oc7, rfl, _⟩ := HO7.rd; have HR7 := Lib.hid ((HG7.block R (lt_of_heap HR6.out) (fun e => by have := (HO6'.out.lt _ e.symm).1; omega)).trans HR6.out); have HC7 := keep_out HR7; have FZ7 := frozen_R (i := 2) HR7)))
        all_goals (
          rw [← List.map_append, ← flat_append, ← HOUT7.out, ← hl7] at HO7
          rw [← hl7] at HG7
          rw [← hl7]
          have hl8 : (bs4.drop 8).length = bs4.length - 8 := List.length_drop
          have hf := rs_final (m := m) (W := wr.drew) (HS4.out.drews 1) HR4.out HG5.out HA5.out (by rw [hl8]; exact HR5.out) HB5.out ((Below.refl _ _).alloc (Nat.le_refl _) (.cells s.cells.toArray 38)) HO6'.out HO7 HG7
          obtain ⟨⟨A9, c9, O9, oc9, x1, x2, x3, x4⟩, x5⟩ := hf
          have HF := Lib.hid (HL4.out.trans (Below.trans (below_drews (Below.refl _ _) 1) x5))
          have X1 := Lib.hid x1
          have X2 := Lib.hid x2
          have X3 := Lib.hid x3
          have X4 := Lib.hid x4
          have HB9 := Lib.hid (show bs4.drop 8 = bs1.drop (8 * (j + 1)) by rw [HB4.out, List.drop_drop]; rfl)
          clear x1 x2 x3 x4 x5 HO7 HG7 hl7
          go_wp2
          exact ⟨⟨j + 1, A9, c9, _, O9, oc9, out7, rfl, by omega, by omega, HB9, HS7, X1, X2, X3, X4, HF⟩, by simp [intOf]; omega⟩)
      · have HST := Lib.hid (HST1.out (by omega))
        have hsec : Calls Try.prog 71 #[.pointer (some ⟨R, 0, none⟩)] wr.drew fun e w' => e = .panicked [{ v := .iface 72 (.agg #[.int .i64 ((10 : Nat) : Int)]), recovered := false }] ∧ Hid (wr.drew.grownBy w' (some R)) := by
          refine (rsector_calls R A4 c4 bs4 m O4 out4.length oc4 wr.drew HR4.out (by exact HY4.out.drews 1)).mono ?_
          rintro e w' ⟨hg, ⟨h, rfl, _⟩ | ⟨h, _⟩⟩
          · exact ⟨rfl, hg⟩
          · omega
        have hW0 : R ≤ wr.drew.heap.size := Nat.le_of_lt (lt_of_heap HR4.out)
        go_wp2_with fail
        refine wp_region_held_drew (S := fun wx => wx = wr.drew) (by kernel_rfl) rfl (fun hHeld => ?_)
        refine wpAnyH_take (i := 0) (v := ?_) rfl (by kernel_rfl) (by kernel_rfl) (by kernel_rfl) (fun _ _ _ h => h) (Or.inl ⟨by rfl, ?_⟩) hHeld ?_
        rotate_left
        · (intro wx hwx; subst hwx; go_simp; first | done | with_reducible rfl)
        try simp only [Act.put, List.setIfInBounds_toArray, List.set_cons_zero, List.set_cons_succ]
        refine wpAnyH_take (i := 1) (v := ?_) rfl (by kernel_rfl) (by kernel_rfl) (by kernel_rfl) (fun _ _ _ h => h) (Or.inl ⟨by rfl, ?_⟩) hHeld ?_
        rotate_left
        · (intro wx hwx; subst hwx; go_simp; first | done | with_reducible rfl)
        try simp only [Act.put, List.setIfInBounds_toArray, List.set_cons_zero, List.set_cons_succ]
        refine wpAnyH_take (i := 2) (v := ?_) rfl (by kernel_rfl) (by kernel_rfl) (by kernel_rfl) (fun _ _ _ h => h) (Or.inl ⟨by rfl, ?_⟩) hHeld ?_
        rotate_left
        · (intro wx hwx; subst hwx; go_simp; first | done | with_reducible rfl)
        try simp only [Act.put, List.setIfInBounds_toArray, List.set_cons_zero, List.set_cons_succ]
        refine wpAnyH_take (i := 3) (v := ?_) rfl (by kernel_rfl) (by kernel_rfl) (by kernel_rfl) (fun _ _ _ h => h) (Or.inl ⟨by rfl, ?_⟩) hHeld ?_
        rotate_left
        · (intro wx hwx; subst hwx; go_simp; first | done | with_reducible rfl)
        try simp only [Act.put, List.setIfInBounds_toArray, List.set_cons_zero, List.set_cons_succ]
        refine wpAnyH_take (i := 4) (v := ?_) rfl (by kernel_rfl) (by kernel_rfl) (by kernel_rfl) (fun _ _ _ h => h) (Or.inl ⟨by rfl, ?_⟩) hHeld ?_
        rotate_left
        · (intro wx hwx; subst hwx; go_simp; first | done | with_reducible rfl)
        try simp only [Act.put, List.setIfInBounds_toArray, List.set_cons_zero, List.set_cons_succ]
        refine wpAnyH_take (i := 5) (v := ?_) rfl (by kernel_rfl) (by kernel_rfl) (by kernel_rfl) (fun _ _ _ h => h) (Or.inl ⟨by rfl, ?_⟩) hHeld ?_
        rotate_left
        · (intro wx hwx; subst hwx; go_simp; first | done | with_reducible rfl)
        try simp only [Act.put, List.setIfInBounds_toArray, List.set_cons_zero, List.set_cons_succ]
        refine wpAnyH_take (i := 6) (v := ?_) rfl (by kernel_rfl) (by kernel_rfl) (by kernel_rfl) (fun _ _ _ h => h) (Or.inl ⟨by rfl, ?_⟩) hHeld ?_
        rotate_left
        · (intro wx hwx; subst hwx; go_simp; first | done | with_reducible rfl)
        try simp only [Act.put, List.setIfInBounds_toArray, List.set_cons_zero, List.set_cons_succ]
        refine wpAnyH_take (i := 7) (v := ?_) rfl (by kernel_rfl) (by kernel_rfl) (by kernel_rfl) (fun _ _ _ h => h) (Or.inl ⟨by rfl, ?_⟩) hHeld ?_
        rotate_left
        · (intro wx hwx; subst hwx; go_simp; first | done | with_reducible rfl)
        try simp only [Act.put, List.setIfInBounds_toArray, List.set_cons_zero, List.set_cons_succ]
        refine wpAnyH_ready (rs := [8]) (by kernel_rfl) (by simp) (AllReadyH.cons rfl (fun K hK => ?_) AllReadyH.nil)
        rw [if_pos (by rfl)]
        go_simp
        go_at_call 71
        refine hsec.mono ?_
        rintro e w5 ⟨rfl, HG5⟩
        exact ⟨rfl, (HL4.out.trans (below_drews (Below.refl _ _) 1)).trans (below_of_grown HG5.out hW0), .inl (by rw [HST.out]; exact ⟨by decide, rfl⟩)⟩
    · have hjc : j = cn := by omega
      have HST := Lib.hid (HST0.out (by omega))
      have HRS := Lib.hid (show RS R wr (bs1.drop (8 * cn)) m (out ++ secsN cn bs1) from by rw [← hjc, ← HB4.out, ← HO4.out]; exact ⟨A4, c4, O4, oc4, HR4.out, HY4.out, HS4.out, HW4.out⟩)
      go_wp2
      refine bodyPost_end (results_none rfl _ _ _) rfl ⟨HL4.out, .inr ?_⟩
      rw [HST.out]
      exact ⟨rfl, rfl, HRS.out⟩
end Go.Proofs.Ytfdkhopionknaaa
