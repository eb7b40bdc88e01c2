/- The reader's group: repeated sectors. -/
import Derived.Test.YtfdkhopionknaaaRdr
namespace Go.Proofs.Ytfdkhopionknaaa
open Go.RowKit
set_option linter.unusedVariables false
set_option linter.unusedSimpArgs false
attribute [local go_sem ↓] run_load_sec run_build_sec
attribute [local go_sem] isSec_secV unSec_secV

set_option maxRecDepth 20000 in
set_option maxHeartbeats 3000000 in
theorem group_k1 (R : Nat) (bs : List UInt8) (m : Nat) (out : List Sec) (w : World) (h : RS0 R w bs m out) (hbs : bs.length ≤ 1099511627776) (hm : m ≤ 4096) (ho : out.length ≤ m) (n k : Nat) (hn : numG bs 0 0 = (n, k, 0)) (hf : ¬ (2 < n % 4 ∨ n / 4 = 0)) (hl : ¬ m < n / 4 + out.length) (hK : n % 4 = 1) (h8 : 8 ≤ bs.length - k) :
    Calls Try.prog 47 #[.pointer (some ⟨R, 0, none⟩)] w fun e w' => Below R w w' ∧
      (((stepG m bs out).1 ≠ 0 ∧ e = failure (stepG m bs out).1) ∨
       ((stepG m bs out).1 = 0 ∧ e = .returned (.tuple #[]) ∧ RS R w' (stepG m bs out).2.1 m (stepG m bs out).2.2)) := by
  obtain ⟨A, c, O, oc, hR, hb, hown⟩ := h
  obtain ⟨h1, h2, h3⟩ := (numG_le bs 0 0 n k 0 hn).1 rfl
  have HN := Lib.hid hn
  have HR := Lib.hid hR
  have HO := Lib.hid hown
  have hRl := lt_of_heap hR
  clear hR hown
  go_enter Try.func47, Try.ntmps47
  go_wp2_with fail
  refine (rnumber_calls R A c bs m O out.length oc w HR.out hb hbs n k 0 hn).mono ?_
  rintro e w1 ⟨hg1, ⟨he, rfl, hR1⟩ | ⟨_, rfl, A1, c1, hR1, ho1⟩⟩
  · exact absurd rfl he
  obtain ⟨bs1, hbs1⟩ : ∃ x, x = bs.drop k := ⟨_, rfl⟩
  have hl1 : bs1.length = bs.length - k := by rw [hbs1, List.length_drop]
  rw [← hbs1, ← hl1] at ho1
  rw [← hl1] at hR1
  have hby1 : Bytes w1 A1 c1 bs1 := by obtain ⟨A', c', e, hr⟩ := ho1.rd; cases e; exact hr
  have hsa1 : Safe R w1 A1 := Safe.of_own ho1
  have HBS1 := Lib.hid hbs1
  clear hbs1
  obtain ⟨kd, hkd⟩ : ∃ x, n % 4 = x := ⟨_, rfl⟩
  obtain ⟨cn, hcn⟩ : ∃ x, n / 4 = x := ⟨_, rfl⟩
  have e1 : (n : Int).tmod 4 = (kd : Int) := by rw [← hkd, Int.tmod_eq_emod_of_nonneg (by omega)]; omega
  have e2 : (n : Int).tdiv 4 = (cn : Int) := by rw [← hcn, Int.tdiv_eq_ediv_of_nonneg (by omega)]; omega
  rw [hkd, hcn] at hf
  have hk2 : kd ≤ 2 := by omega
  have hc1 : 1 ≤ cn := by omega
  have b1 : ¬ (2 : Int) < (kd : Int) := by omega
  have b2 : ((cn : Int) == 0) = false := by simp; omega
  have b3 : decide ((2 : Int) < (kd : Int)) = false := by simp; omega
  have hcm : w1.cell? ⟨R, 1, none⟩ = some (.int .i64 m) := by rw [cell_of_row _ _ 1 _ _ _ hR1]; rfl
  have hco : w1.cell? ⟨R, 2, none⟩ = some (.slice O out.length oc) := by rw [cell_of_row _ _ 2 _ _ _ hR1]; rfl
  have hnf : ¬ (2 < n % 4 ∨ n / 4 = 0) := by rw [hkd, hcn]; exact hf
  have hsub : (m : Int) - (out.length : Int) = ((m - out.length : Nat) : Int) := by omega
  have HR1 := Lib.hid hR1
  have HO1 := Lib.hid ho1
  have HG1 := Lib.hid hg1
  clear hR1 ho1 hg1 hf
  go_wp2_with fail
  go_quiet (fail)
  rw [hcn] at hl
  have b4 : ¬ ((m - out.length : Nat) : Int) < (cn : Int) := by omega
  have hl' : ¬ m < n / 4 + out.length := by rw [hcn]; exact hl
  obtain rfl : kd = 1 := by omega
  rw [← hl1] at h8
  obtain ⟨s, hs1⟩ : ∃ s, s = secOf bs1 := ⟨_, rfl⟩
  have hsec : Calls Try.prog 71 #[.pointer (some ⟨R, 0, none⟩)] (w1.drewN nq).drew fun e w' => e = .returned (secV s) ∧ Hid ((w1.drewN nq).drew.grownBy w' (some R)) ∧ ∃ A2 c2,
      Hid (w'.heap[R]? = some (.cells #[.slice A2 (bs1.length - 8) c2, .int .i64 m, .slice O out.length oc] 78 (0, 0))) ∧ Hid (Bytes w' A2 c2 (bs1.drop 8)) ∧ Hid (∀ a', A2 = some a' → ∃ a, A1 = some a ∧ a'.block = a.block) := by
    refine (rsector_calls R A1 c1 bs1 m O out.length oc (w1.drewN nq).drew HR1.out (by exact hby1.drews (nq + 1))).mono ?_
    rintro e w' ⟨hg, ⟨h, _⟩ | ⟨_, rfl, A2, c2, x1, x2, x3⟩⟩
    · omega
    · exact ⟨by rw [hs1], hg, A2, c2, x1, x2, x3⟩
  have hoD : Own (w1.drewN nq).drew (R + 1) 38 8 (.slice O out.length oc) out.length ((flat out).map B) := (HO.out.kept HG1.out (.inr (fun e => by have := (HO.out.lt _ e).1; omega))).below (below_drews (Below.refl _ _) (nq + 1))
  have HOD := Lib.hid hoD
  have hW0 : R + 1 ≤ (w1.drewN nq).drew.heap.size := by show R + 1 ≤ w1.heap.size; have := HG1.out.size; omega
  have HS1 := Lib.hid hs1
  clear hoD
  clear hs1
  obtain ⟨out7, hout7⟩ : ∃ x, x = out ++ List.replicate cn s := ⟨_, rfl⟩
  have hl7 : out7.length = out.length + cn := by rw [hout7]; simp
  have hst : stepG m bs out = (0, bs1.drop 8, out7) := by
    rw [stepG_ok HN.out hnf hl' (by rw [hkd]; simp [needG]; omega), hkd, hcn, hout7, HBS1.out, List.drop_drop, HS1.out, HBS1.out]
    simp [needG, grpG]
  have HST := Lib.hid hst
  have HOUT7 := Lib.hid hout7
  clear hst hout7
  go_wp2_with fail
  go_region_law (first | ((go_simp; go_at_call 71; refine hsec.mono ?_; rintro e w5 ⟨rfl, HG5, A5, c5, HR5, HB5, HA5⟩; have HC5 := keep_out HR5; have HC5' := keep_outB HR5 ((Below.refl _ _).alloc (Nat.le_refl _) (.cells s.cells.toArray 38)))) | ((go_simp; go_at_call 72; refine (Repeat_calls (some ⟨w5.heap.size, 0, none⟩) 1 s cn (w5.alloc (.cells s.cells.toArray 38)) (Secs.one w5 s) (by omega) hc1).mono ?_; rintro e w6 ⟨v6, rfl, HO6, HB6⟩; obtain ⟨Y6, c6, rfl, hrd6⟩ := HO6.rd; have HO6' := Lib.hid (own_through HOD.out HG5.out HB6); have HR6 := Lib.hid ((through_R HR5.out HB6)); have HC6 := keep_out HR6; have HBS6 := Lib.hid (Nat.le_trans hW0 (size_through HG5.out HB6)))) | ((refine step_appendD (t := 22) (e := 38) (size := 8) (bytes := 8) E22 rfl (.tmp 70) (.tmp 77) rfl (R + 1) (v := .slice O out.length oc) (n := out.length) (xs := (flat out).map B) (by rfl) HO6'.out (Y := Y6) (m := cn) (c := c6) (news := (flat (List.replicate cn s)).map B) (by rfl) hrd6 (by rw [List.length_map, flat_length, List.length_replicate, Nat.mul_comm]) (oneCell_B _) (by omega) (by omega) HBS6.out ?_; intro v7 w7 HO7 HG7; obtain ⟨O7, oc7, rfl, _⟩ := HO7.rd; have HR7 := Lib.hid ((HG7.block R (lt_of_heap HR6.out) (fun e => by have := (HO6'.out.lt _ e.symm).1; omega)).trans HR6.out); have HC7 := keep_out HR7; have FZ7 := frozen_R (i := 2) HR7)))
  all_goals (
    rw [← List.map_append, ← flat_append, ← HOUT7.out, ← hl7] at HO7
    rw [← hl7] at HG7
    rw [← hl7]
    have hl8 : (bs1.drop 8).length = bs1.length - 8 := List.length_drop
    have hf := rs_final (m := m) (W := (w1.drewN nq).drew) (hsa1.drews (nq + 1)) HR1.out HG5.out HA5.out (by rw [hl8]; exact HR5.out) HB5.out (((Below.refl _ _).alloc (Nat.le_refl _) (.cells s.cells.toArray 38)).trans (HB6.mono (by simp))) HO6'.out HO7 HG7
    have HF := Lib.hid hf
    clear hf HO7 HG7
    go_wp2
    refine bodyPost_end (results_none rfl _ _ _) rfl ⟨(below_of_grown HG1.out (by omega)).trans (Below.trans (below_drews (Below.refl _ _) (nq + 1)) HF.out.2), .inr ?_⟩
    rw [HST.out]
    exact ⟨rfl, rfl, HF.out.1⟩)
end Go.Proofs.Ytfdkhopionknaaa
