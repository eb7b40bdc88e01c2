/- The reader's group: a repeated sector that is cut off. -/
import Derived.Test.YtfdkhopionknaaaRdr
namespace Go.Proofs.Ytfdkhopionknaaa
open Go.RowKit
set_option linter.unusedVariables false
set_option linter.unusedSimpArgs false
attribute [local go_sem ↓] run_load_sec run_build_sec
attribute [local go_sem] isSec_secV unSec_secV

set_option maxRecDepth 20000 in
set_option maxHeartbeats 3000000 in
theorem group_k1t (R : Nat) (bs : List UInt8) (m : Nat) (out : List Sec) (w : World) (h : RS0 R w bs m out) (hbs : bs.length ≤ 1099511627776) (hm : m ≤ 4096) (ho : out.length ≤ m) (n k : Nat) (hn : numG bs 0 0 = (n, k, 0)) (hf : ¬ (2 < n % 4 ∨ n / 4 = 0)) (hl : ¬ m < n / 4 + out.length) (hK : n % 4 = 1) (h8 : ¬ 8 ≤ bs.length - k) :
    Calls Try.prog 47 #[.pointer (some ⟨R, 0, none⟩)] w fun e w' => Below R w w' ∧
      (((stepG m bs out).1 ≠ 0 ∧ e = failure (stepG m bs out).1) ∨
       ((stepG m bs out).1 = 0 ∧ e = .returned (.tuple #[]) ∧ RS R w' (stepG m bs out).2.1 m (stepG m bs out).2.2)) := by
  obtain ⟨A, c, O, oc, hR, hb, hown⟩ := h
  obtain ⟨h1, h2, h3⟩ := (numG_le bs 0 0 n k 0 hn).1 rfl
  have HN := Lib.hid hn
  have HR := Lib.hid hR
  have HO := Lib.hid hown
  have hRl := lt_of_heap hR
  clear hR hown
  go_enter Try.func47, Try.ntmps47
  go_wp2_with fail
  refine (rnumber_calls R A c bs m O out.length oc w HR.out hb hbs n k 0 hn).mono ?_
  rintro e w1 ⟨hg1, ⟨he, rfl, hR1⟩ | ⟨_, rfl, A1, c1, hR1, ho1⟩⟩
  · exact absurd rfl he
  obtain ⟨bs1, hbs1⟩ : ∃ x, x = bs.drop k := ⟨_, rfl⟩
  have hl1 : bs1.length = bs.length - k := by rw [hbs1, List.length_drop]
  rw [← hbs1, ← hl1] at ho1
  rw [← hl1] at hR1
  have hby1 : Bytes w1 A1 c1 bs1 := by obtain ⟨A', c', e, hr⟩ := ho1.rd; cases e; exact hr
  have hsa1 : Safe R w1 A1 := Safe.of_own ho1
  have HBS1 := Lib.hid hbs1
  clear hbs1
  obtain ⟨kd, hkd⟩ : ∃ x, n % 4 = x := ⟨_, rfl⟩
  obtain ⟨cn, hcn⟩ : ∃ x, n / 4 = x := ⟨_, rfl⟩
  have e1 : (n : Int).tmod 4 = (kd : Int) := by rw [← hkd, Int.tmod_eq_emod_of_nonneg (by omega)]; omega
  have e2 : (n : Int).tdiv 4 = (cn : Int) := by rw [← hcn, Int.tdiv_eq_ediv_of_nonneg (by omega)]; omega
  rw [hkd, hcn] at hf
  have hk2 : kd ≤ 2 := by omega
  have hc1 : 1 ≤ cn := by omega
  have b1 : ¬ (2 : Int) < (kd : Int) := by omega
  have b2 : ((cn : Int) == 0) = false := by simp; omega
  have b3 : decide ((2 : Int) < (kd : Int)) = false := by simp; omega
  have hcm : w1.cell? ⟨R, 1, none⟩ = some (.int .i64 m) := by rw [cell_of_row _ _ 1 _ _ _ hR1]; rfl
  have hco : w1.cell? ⟨R, 2, none⟩ = some (.slice O out.length oc) := by rw [cell_of_row _ _ 2 _ _ _ hR1]; rfl
  have hnf : ¬ (2 < n % 4 ∨ n / 4 = 0) := by rw [hkd, hcn]; exact hf
  have hsub : (m : Int) - (out.length : Int) = ((m - out.length : Nat) : Int) := by omega
  have HR1 := Lib.hid hR1
  have HO1 := Lib.hid ho1
  have HG1 := Lib.hid hg1
  clear hR1 ho1 hg1 hf
  go_wp2_with fail
  go_quiet (fail)
  rw [hcn] at hl
  have b4 : ¬ ((m - out.length : Nat) : Int) < (cn : Int) := by omega
  have hl' : ¬ m < n / 4 + out.length := by rw [hcn]; exact hl
  obtain rfl : kd = 1 := by omega
  rw [← hl1] at h8
  have hst : stepG m bs out = (10, [], []) := by
    rw [stepG_torn HN.out hnf hl' (by rw [hkd]; simp [needG]; omega)]
  have HST := Lib.hid hst
  have HBW := Lib.hid ((below_of_grown HG1.out (by omega)).trans (below_drews (Below.refl _ _) (nq + 1)))
  clear hst
  have hsec : Calls Try.prog 71 #[.pointer (some ⟨R, 0, none⟩)] (w1.drewN nq).drew fun e w' => e = .panicked [{ v := .iface 72 (.agg #[.int .i64 ((10 : Nat) : Int)]), recovered := false }] ∧ Hid ((w1.drewN nq).drew.grownBy w' (some R)) := by
    refine (rsector_calls R A1 c1 bs1 m O out.length oc (w1.drewN nq).drew HR1.out (by exact hby1.drews (nq + 1))).mono ?_
    rintro e w' ⟨hg, ⟨h, rfl, _⟩ | ⟨h, _⟩⟩
    · exact ⟨rfl, hg⟩
    · omega
  have hW0 : R ≤ (w1.drewN nq).drew.heap.size := by show R ≤ w1.heap.size; have := HG1.out.size; omega
  go_wp2_with fail
  refine wp_region_held_drew (S := fun wx => wx = (w1.drewN nq).drew) (by kernel_rfl) rfl (fun hHeld => ?_)
  refine wpAnyH_take (i := 0) (v := ?_) rfl (by kernel_rfl) (by kernel_rfl) (by kernel_rfl) (fun _ _ _ h => h) (Or.inl ⟨by rfl, ?_⟩) hHeld ?_
  rotate_left
  · (intro wx hwx; subst hwx; go_simp; first | done | with_reducible rfl)
  try simp only [Act.put, List.setIfInBounds_toArray, List.set_cons_zero, List.set_cons_succ]
  refine wpAnyH_take (i := 1) (v := ?_) rfl (by kernel_rfl) (by kernel_rfl) (by kernel_rfl) (fun _ _ _ h => h) (Or.inl ⟨by rfl, ?_⟩) hHeld ?_
  rotate_left
  · (intro wx hwx; subst hwx; go_simp; first | done | with_reducible rfl)
  try simp only [Act.put, List.setIfInBounds_toArray, List.set_cons_zero, List.set_cons_succ]
  refine wpAnyH_take (i := 2) (v := ?_) rfl (by kernel_rfl) (by kernel_rfl) (by kernel_rfl) (fun _ _ _ h => h) (Or.inl ⟨by rfl, ?_⟩) hHeld ?_
  rotate_left
  · (intro wx hwx; subst hwx; go_simp; first | done | with_reducible rfl)
  try simp only [Act.put, List.setIfInBounds_toArray, List.set_cons_zero, List.set_cons_succ]
  refine wpAnyH_take (i := 3) (v := ?_) rfl (by kernel_rfl) (by kernel_rfl) (by kernel_rfl) (fun _ _ _ h => h) (Or.inl ⟨by rfl, ?_⟩) hHeld ?_
  rotate_left
  · (intro wx hwx; subst hwx; go_simp; first | done | with_reducible rfl)
  try simp only [Act.put, List.setIfInBounds_toArray, List.set_cons_zero, List.set_cons_succ]
  refine wpAnyH_take (i := 4) (v := ?_) rfl (by kernel_rfl) (by kernel_rfl) (by kernel_rfl) (fun _ _ _ h => h) (Or.inl ⟨by rfl, ?_⟩) hHeld ?_
  rotate_left
  · (intro wx hwx; subst hwx; go_simp; first | done | with_reducible rfl)
  try simp only [Act.put, List.setIfInBounds_toArray, List.set_cons_zero, List.set_cons_succ]
  refine wpAnyH_take (i := 5) (v := ?_) rfl (by kernel_rfl) (by kernel_rfl) (by kernel_rfl) (fun _ _ _ h => h) (Or.inl ⟨by rfl, ?_⟩) hHeld ?_
  rotate_left
  · (intro wx hwx; subst hwx; go_simp; first | done | with_reducible rfl)
  try simp only [Act.put, List.setIfInBounds_toArray, List.set_cons_zero, List.set_cons_succ]
  refine wpAnyH_take (i := 6) (v := ?_) rfl (by kernel_rfl) (by kernel_rfl) (by kernel_rfl) (fun _ _ _ h => h) (Or.inl ⟨by rfl, ?_⟩) hHeld ?_
  rotate_left
  · (intro wx hwx; subst hwx; go_simp; first | done | with_reducible rfl)
  try simp only [Act.put, List.setIfInBounds_toArray, List.set_cons_zero, List.set_cons_succ]
  refine wpAnyH_take (i := 7) (v := ?_) rfl (by kernel_rfl) (by kernel_rfl) (by kernel_rfl) (fun _ _ _ h => h) (Or.inl ⟨by rfl, ?_⟩) hHeld ?_
  rotate_left
  · (intro wx hwx; subst hwx; go_simp; first | done | with_reducible rfl)
  try simp only [Act.put, List.setIfInBounds_toArray, List.set_cons_zero, List.set_cons_succ]
  refine wpAnyH_take (i := 10) (v := ?_) rfl (by kernel_rfl) (by kernel_rfl) (by kernel_rfl) (fun _ _ _ h => h) (Or.inl ⟨by rfl, ?_⟩) hHeld ?_
  rotate_left
  · (intro wx hwx; subst hwx; go_simp; first | done | with_reducible rfl)
  try simp only [Act.put, List.setIfInBounds_toArray, List.set_cons_zero, List.set_cons_succ]
  refine wpAnyH_ready (rs := [8]) (by kernel_rfl) (by simp) (AllReadyH.cons rfl (fun K hK => ?_) AllReadyH.nil)
  rw [if_pos (by rfl)]
  go_simp
  go_at_call 71
  refine hsec.mono ?_
  rintro e w5 ⟨rfl, HG5⟩
  exact ⟨rfl, HBW.out.trans (below_of_grown HG5.out hW0), .inl (by rw [HST.out]; exact ⟨by decide, rfl⟩)⟩
end Go.Proofs.Ytfdkhopionknaaa
