/- The reader's group: the failures, and the runs of zero sectors. -/
import Derived.Test.YtfdkhopionknaaaRdr
namespace Go.Proofs.Ytfdkhopionknaaa
open Go.RowKit
set_option linter.unusedVariables false
set_option linter.unusedSimpArgs false
attribute [local go_sem ↓] run_load_sec run_build_sec
attribute [local go_sem] isSec_secV unSec_secV

set_option maxRecDepth 20000 in
set_option maxHeartbeats 3000000 in
theorem group_er (R : Nat) (bs : List UInt8) (m : Nat) (out : List Sec) (w : World) (h : RS0 R w bs m out) (hbs : bs.length ≤ 1099511627776) (hm : m ≤ 4096) (ho : out.length ≤ m) (n k er : Nat) (hn : numG bs 0 0 = (n, k, er)) (he : er ≠ 0) :
    Calls Try.prog 47 #[.pointer (some ⟨R, 0, none⟩)] w fun e w' => Below R w w' ∧
      (((stepG m bs out).1 ≠ 0 ∧ e = failure (stepG m bs out).1) ∨
       ((stepG m bs out).1 = 0 ∧ e = .returned (.tuple #[]) ∧ RS R w' (stepG m bs out).2.1 m (stepG m bs out).2.2)) := by
  obtain ⟨A, c, O, oc, hR, hb, hown⟩ := h
  have HN := Lib.hid hn
  have HR := Lib.hid hR
  have HO := Lib.hid hown
  have hRl := lt_of_heap hR
  clear hR hown
  go_enter Try.func47, Try.ntmps47
  go_wp2_with fail
  refine (rnumber_calls R A c bs m O out.length oc w HR.out hb hbs n k er hn).mono ?_
  rintro e w1 ⟨hg1, ⟨_, rfl, hR1⟩ | ⟨h0, _⟩⟩
  · dsimp only [failure]
    go_wp2
    refine ⟨rfl, below_of_grown hg1 (by omega), .inl ?_⟩
    rw [stepG_er HN.out he]
    exact ⟨he, rfl⟩
  · exact absurd h0 he

set_option maxRecDepth 20000 in
set_option maxHeartbeats 3000000 in
theorem group_form (R : Nat) (bs : List UInt8) (m : Nat) (out : List Sec) (w : World) (h : RS0 R w bs m out) (hbs : bs.length ≤ 1099511627776) (hm : m ≤ 4096) (ho : out.length ≤ m) (n k : Nat) (hn : numG bs 0 0 = (n, k, 0)) (hf : 2 < n % 4 ∨ n / 4 = 0) :
    Calls Try.prog 47 #[.pointer (some ⟨R, 0, none⟩)] w fun e w' => Below R w w' ∧
      (((stepG m bs out).1 ≠ 0 ∧ e = failure (stepG m bs out).1) ∨
       ((stepG m bs out).1 = 0 ∧ e = .returned (.tuple #[]) ∧ RS R w' (stepG m bs out).2.1 m (stepG m bs out).2.2)) := by
  obtain ⟨A, c, O, oc, hR, hb, hown⟩ := h
  obtain ⟨h1, h2, h3⟩ := (numG_le bs 0 0 n k 0 hn).1 rfl
  have HN := Lib.hid hn
  have HR := Lib.hid hR
  have HO := Lib.hid hown
  have hRl := lt_of_heap hR
  clear hR hown
  go_enter Try.func47, Try.ntmps47
  go_wp2_with fail
  refine (rnumber_calls R A c bs m O out.length oc w HR.out hb hbs n k 0 hn).mono ?_
  rintro e w1 ⟨hg1, ⟨he, rfl, hR1⟩ | ⟨_, rfl, A1, c1, hR1, ho1⟩⟩
  · exact absurd rfl he
  obtain ⟨bs1, hbs1⟩ : ∃ x, x = bs.drop k := ⟨_, rfl⟩
  have hl1 : bs1.length = bs.length - k := by rw [hbs1, List.length_drop]
  rw [← hbs1, ← hl1] at ho1
  rw [← hl1] at hR1
  have hby1 : Bytes w1 A1 c1 bs1 := by obtain ⟨A', c', e, hr⟩ := ho1.rd; cases e; exact hr
  have hsa1 : Safe R w1 A1 := Safe.of_own ho1
  have HBS1 := Lib.hid hbs1
  clear hbs1
  obtain ⟨kd, hkd⟩ : ∃ x, n % 4 = x := ⟨_, rfl⟩
  obtain ⟨cn, hcn⟩ : ∃ x, n / 4 = x := ⟨_, rfl⟩
  have e1 : (n : Int).tmod 4 = (kd : Int) := by rw [← hkd, Int.tmod_eq_emod_of_nonneg (by omega)]; omega
  have e2 : (n : Int).tdiv 4 = (cn : Int) := by rw [← hcn, Int.tdiv_eq_ediv_of_nonneg (by omega)]; omega
  have hstep : stepG m bs out = (3, [], []) := stepG_form HN.out hf
  rw [hkd, hcn] at hf
  have HS := Lib.hid hstep
  have HG := Lib.hid (below_of_grown hg1 (by omega))
  clear hstep ho1 hR1 hg1
  by_cases hk3 : 2 < kd
  · have b1 : (2 : Int) < (kd : Int) := by omega
    go_wp2
    refine ⟨rfl, HG.out, .inl ?_⟩
    rw [HS.out]
    exact ⟨by decide, rfl⟩
  · have hc0 : cn = 0 := by omega
    have b1 : ¬ (2 : Int) < (kd : Int) := by omega
    subst hc0
    go_wp2
    refine ⟨rfl, HG.out, .inl ?_⟩
    rw [HS.out]
    exact ⟨by decide, rfl⟩

set_option maxRecDepth 20000 in
set_option maxHeartbeats 3000000 in
theorem group_long (R : Nat) (bs : List UInt8) (m : Nat) (out : List Sec) (w : World) (h : RS0 R w bs m out) (hbs : bs.length ≤ 1099511627776) (hm : m ≤ 4096) (ho : out.length ≤ m) (n k : Nat) (hn : numG bs 0 0 = (n, k, 0)) (hf : ¬ (2 < n % 4 ∨ n / 4 = 0)) (hl : m < n / 4 + out.length) :
    Calls Try.prog 47 #[.pointer (some ⟨R, 0, none⟩)] w fun e w' => Below R w w' ∧
      (((stepG m bs out).1 ≠ 0 ∧ e = failure (stepG m bs out).1) ∨
       ((stepG m bs out).1 = 0 ∧ e = .returned (.tuple #[]) ∧ RS R w' (stepG m bs out).2.1 m (stepG m bs out).2.2)) := by
  obtain ⟨A, c, O, oc, hR, hb, hown⟩ := h
  obtain ⟨h1, h2, h3⟩ := (numG_le bs 0 0 n k 0 hn).1 rfl
  have HN := Lib.hid hn
  have HR := Lib.hid hR
  have HO := Lib.hid hown
  have hRl := lt_of_heap hR
  clear hR hown
  go_enter Try.func47, Try.ntmps47
  go_wp2_with fail
  refine (rnumber_calls R A c bs m O out.length oc w HR.out hb hbs n k 0 hn).mono ?_
  rintro e w1 ⟨hg1, ⟨he, rfl, hR1⟩ | ⟨_, rfl, A1, c1, hR1, ho1⟩⟩
  · exact absurd rfl he
  obtain ⟨bs1, hbs1⟩ : ∃ x, x = bs.drop k := ⟨_, rfl⟩
  have hl1 : bs1.length = bs.length - k := by rw [hbs1, List.length_drop]
  rw [← hbs1, ← hl1] at ho1
  rw [← hl1] at hR1
  have hby1 : Bytes w1 A1 c1 bs1 := by obtain ⟨A', c', e, hr⟩ := ho1.rd; cases e; exact hr
  have hsa1 : Safe R w1 A1 := Safe.of_own ho1
  have HBS1 := Lib.hid hbs1
  clear hbs1
  obtain ⟨kd, hkd⟩ : ∃ x, n % 4 = x := ⟨_, rfl⟩
  obtain ⟨cn, hcn⟩ : ∃ x, n / 4 = x := ⟨_, rfl⟩
  have e1 : (n : Int).tmod 4 = (kd : Int) := by rw [← hkd, Int.tmod_eq_emod_of_nonneg (by omega)]; omega
  have e2 : (n : Int).tdiv 4 = (cn : Int) := by rw [← hcn, Int.tdiv_eq_ediv_of_nonneg (by omega)]; omega
  rw [hkd, hcn] at hf
  have hk2 : kd ≤ 2 := by omega
  have hc1 : 1 ≤ cn := by omega
  have b1 : ¬ (2 : Int) < (kd : Int) := by omega
  have b2 : ((cn : Int) == 0) = false := by simp; omega
  have b3 : decide ((2 : Int) < (kd : Int)) = false := by simp; omega
  have hcm : w1.cell? ⟨R, 1, none⟩ = some (.int .i64 m) := by rw [cell_of_row _ _ 1 _ _ _ hR1]; rfl
  have hco : w1.cell? ⟨R, 2, none⟩ = some (.slice O out.length oc) := by rw [cell_of_row _ _ 2 _ _ _ hR1]; rfl
  have hnf : ¬ (2 < n % 4 ∨ n / 4 = 0) := by rw [hkd, hcn]; exact hf
  have hsub : (m : Int) - (out.length : Int) = ((m - out.length : Nat) : Int) := by omega
  have HR1 := Lib.hid hR1
  have HO1 := Lib.hid ho1
  have HG1 := Lib.hid hg1
  clear hR1 ho1 hg1 hf
  go_wp2_with fail
  go_quiet (fail)
  rw [hcn] at hl
  have b4 : ((m - out.length : Nat) : Int) < (cn : Int) := by omega
  have hstep : stepG m bs out = (5, [], []) := stepG_long HN.out hnf (by rw [hcn]; exact hl)
  have HS := Lib.hid hstep
  clear hstep
  go_wp2
  refine ⟨rfl, below_drews (below_of_grown HG1.out (by omega)) _, .inl ?_⟩
  rw [HS.out]
  exact ⟨by decide, rfl⟩

set_option maxRecDepth 20000 in
set_option maxHeartbeats 3000000 in
theorem group_k2 (R : Nat) (bs : List UInt8) (m : Nat) (out : List Sec) (w : World) (h : RS0 R w bs m out) (hbs : bs.length ≤ 1099511627776) (hm : m ≤ 4096) (ho : out.length ≤ m) (n k : Nat) (hn : numG bs 0 0 = (n, k, 0)) (hf : ¬ (2 < n % 4 ∨ n / 4 = 0)) (hl : ¬ m < n / 4 + out.length) (hK : n % 4 = 2) :
    Calls Try.prog 47 #[.pointer (some ⟨R, 0, none⟩)] w fun e w' => Below R w w' ∧
      (((stepG m bs out).1 ≠ 0 ∧ e = failure (stepG m bs out).1) ∨
       ((stepG m bs out).1 = 0 ∧ e = .returned (.tuple #[]) ∧ RS R w' (stepG m bs out).2.1 m (stepG m bs out).2.2)) := by
  obtain ⟨A, c, O, oc, hR, hb, hown⟩ := h
  obtain ⟨h1, h2, h3⟩ := (numG_le bs 0 0 n k 0 hn).1 rfl
  have HN := Lib.hid hn
  have HR := Lib.hid hR
  have HO := Lib.hid hown
  have hRl := lt_of_heap hR
  clear hR hown
  go_enter Try.func47, Try.ntmps47
  go_wp2_with fail
  refine (rnumber_calls R A c bs m O out.length oc w HR.out hb hbs n k 0 hn).mono ?_
  rintro e w1 ⟨hg1, ⟨he, rfl, hR1⟩ | ⟨_, rfl, A1, c1, hR1, ho1⟩⟩
  · exact absurd rfl he
  obtain ⟨bs1, hbs1⟩ : ∃ x, x = bs.drop k := ⟨_, rfl⟩
  have hl1 : bs1.length = bs.length - k := by rw [hbs1, List.length_drop]
  rw [← hbs1, ← hl1] at ho1
  rw [← hl1] at hR1
  have hby1 : Bytes w1 A1 c1 bs1 := by obtain ⟨A', c', e, hr⟩ := ho1.rd; cases e; exact hr
  have hsa1 : Safe R w1 A1 := Safe.of_own ho1
  have HBS1 := Lib.hid hbs1
  clear hbs1
  obtain ⟨kd, hkd⟩ : ∃ x, n % 4 = x := ⟨_, rfl⟩
  obtain ⟨cn, hcn⟩ : ∃ x, n / 4 = x := ⟨_, rfl⟩
  have e1 : (n : Int).tmod 4 = (kd : Int) := by rw [← hkd, Int.tmod_eq_emod_of_nonneg (by omega)]; omega
  have e2 : (n : Int).tdiv 4 = (cn : Int) := by rw [← hcn, Int.tdiv_eq_ediv_of_nonneg (by omega)]; omega
  rw [hkd, hcn] at hf
  have hk2 : kd ≤ 2 := by omega
  have hc1 : 1 ≤ cn := by omega
  have b1 : ¬ (2 : Int) < (kd : Int) := by omega
  have b2 : ((cn : Int) == 0) = false := by simp; omega
  have b3 : decide ((2 : Int) < (kd : Int)) = false := by simp; omega
  have hcm : w1.cell? ⟨R, 1, none⟩ = some (.int .i64 m) := by rw [cell_of_row _ _ 1 _ _ _ hR1]; rfl
  have hco : w1.cell? ⟨R, 2, none⟩ = some (.slice O out.length oc) := by rw [cell_of_row _ _ 2 _ _ _ hR1]; rfl
  have hnf : ¬ (2 < n % 4 ∨ n / 4 = 0) := by rw [hkd, hcn]; exact hf
  have hsub : (m : Int) - (out.length : Int) = ((m - out.length : Nat) : Int) := by omega
  have HR1 := Lib.hid hR1
  have HO1 := Lib.hid ho1
  have HG1 := Lib.hid hg1
  clear hR1 ho1 hg1 hf
  go_wp2_with fail
  go_quiet (fail)
  rw [hcn] at hl
  have b4 : ¬ ((m - out.length : Nat) : Int) < (cn : Int) := by omega
  have hl' : ¬ m < n / 4 + out.length := by rw [hcn]; exact hl
  obtain rfl : kd = 2 := by omega
  go_wp2_with (at_builtin; refine Stop.at ?_)
  refine Stop.go ?_
  have hoD : Own (w1.drewN nq) (R + 1) 38 8 (.slice O out.length oc) out.length ((flat out).map B) := (HO.out.kept HG1.out (.inr (fun e => by have := (HO.out.lt _ e).1; omega))).below (below_drews (Below.refl _ _) nq)
  obtain ⟨v2, w2, hrun, ho2, hgr2⟩ := run_append_zero22 (ty := 22) hoD (k := cn) hc1 (by omega) (by show _ ≤ w1.heap.size; have := HG1.out.size; omega)
  obtain ⟨O2, oc2, rfl, _⟩ := ho2.rd
  obtain ⟨hR2, hs2, hb2, hbl2⟩ := rs_grew hoD hgr2 (hsa1.drews nq) (hby1.drews nq) (by show R < w1.heap.size; have := HG1.out.size; omega)
  obtain ⟨out2, hout2⟩ : ∃ x, x = out ++ List.replicate cn Sec.zero := ⟨_, rfl⟩
  have hl2 : out2.length = out.length + cn := by rw [hout2]; simp
  rw [← hout2, ← hl2] at ho2
  rw [← hl2] at hrun hgr2
  have HRUN := Lib.hid hrun
  have HOUT2 := Lib.hid hout2
  have HO2 := Lib.hid ho2
  have HR2 := Lib.hid (hR2.trans HR1.out)
  have HS2 := Lib.hid hs2
  have HB2 := Lib.hid hb2
  have HBL := Lib.hid hbl2
  clear hrun hout2 ho2 hgr2 hR2 hs2 hb2 hbl2 hoD hl2 hcm hco
  refine Lib.wpList_append_run _ rfl (.tmp 40) (.tmp 41) 22 3 rfl _ _ rfl rfl _ _ HRUN.out ?_
  go_wp2_with ((with_reducible refine Stop.store 22 ?hst ?_); (case hst => rfl))
  refine Stop.go ?_
  refine step_store_one rfl 22 (.tmp 44) (.tmp 42) rfl rfl HR2.out (by simp) rfl (by kernel_rfl) rfl rfl ?_
  intro w3 hR3 hg3 hz3
  have HR3 := Lib.hid hR3
  have HG3 := Lib.hid hg3
  clear hR3 hg3
  go_wp2
  have hst : stepG m bs out = (0, bs1, out2) := by
    rw [stepG_ok HN.out hnf hl' (by rw [hkd]; simp [needG]), hkd, hcn, HOUT2.out, HBS1.out]
    simp [needG, grpG]
  rw [hst]
  have hbw : Below R w w3 := ((below_of_grown HG1.out (by omega)).trans (below_drews (Below.refl _ _) nq)).trans ((HBL.out.mono (by omega)).trans (below_of_grown HG3.out (by have := HBL.out.size; have := HG1.out.size; have : (w1.drewN nq).heap.size = w1.heap.size := rfl; omega)))
  exact bodyPost_end (results_none rfl _ _ _) rfl ⟨hbw, .inr ⟨rfl, rfl, rs_done HS2.out HB2.out HO2.out HR2.out HR3.out HG3.out⟩⟩
end Go.Proofs.Ytfdkhopionknaaa
