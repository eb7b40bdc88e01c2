/- How many sectors are equal from an index on: both texts. -/
import Derived.Test.YtfdkhopionknaaaSec
import Derived.Test.YtfdkhopionknaaaPlain
namespace Go.Proofs.Ytfdkhopionknaaa
open Go.RowKit
set_option linter.unusedVariables false
set_option linter.unusedSimpArgs false
attribute [local go_sem ↓] run_load_sec run_eql_sec run_neq_sec
attribute [local go_sem] SecP_drewN secP_drewN isSec_secV unSec_secV isSec_zero unSec_zero

theorem run_round {xs : List Sec} {at_ k : Nat} {s1 s0 : Sec} (h1 : xs[at_ + k]? = some s1) (hk : Hid (runAt (xs.drop at_) = k + runFrom s0 (xs.drop (at_ + k)))) :
    (s1 = s0 → Hid (runAt (xs.drop at_) = (k + 1) + runFrom s0 (xs.drop (at_ + (k + 1))))) ∧ (s1 ≠ s0 → runAt (xs.drop at_) = k) := by
  have h := hk.out
  rw [drop_get h1] at h
  refine ⟨fun e => ?_, fun e => ?_⟩
  · subst e
    rw [runFrom_yes] at h
    show _ = _
    rw [h, ← Nat.add_assoc at_]; omega
  · rwa [runFrom_no _ e] at h

set_option maxRecDepth 20000 in
set_option maxHeartbeats 1000000 in
theorem run_calls (A : Option Addr) (c at_ : Nat) (xs : List Sec) (w : World) (h : Secs w A c xs) (hlen : xs.length ≤ 1099511627776) (hat : at_ < xs.length) :
    Calls Try.prog 50 #[.slice A xs.length c, .int .i64 at_] w fun e w' => e = .returned (.int .i64 (runAt (xs.drop at_))) ∧ ∃ n, w' = w.drewN n := by
  obtain ⟨a, rfl⟩ := h.some_of hat
  obtain ⟨s0, hs0⟩ : ∃ s, xs[at_]? = some s := ⟨_, List.getElem?_eq_getElem hat⟩
  have hc0 := h.at hs0
  have hr0 : Hid (runAt (xs.drop at_) = 1 + runFrom s0 (xs.drop (at_ + 1))) := by
    show _ = _
    rw [drop_get hs0, runAt]; omega
  clear hs0
  obtain ⟨R, hR⟩ : ∃ R, runAt (xs.drop at_) = R := ⟨_, rfl⟩
  have HR := Lib.hid hR
  rw [hR]
  clear hR
  go_enter Try.func50, Try.ntmps50
  go_wp2
  go_loopw [5] (fun n w' => ∃ k : Nat, n = .int .i64 k ∧ 1 ≤ k ∧ at_ + k ≤ xs.length ∧ Hid (runAt (xs.drop at_) = k + runFrom s0 (xs.drop (at_ + k))) ∧ ∃ q, w' = w.drewN q) (fun n w' => xs.length - (intOf n).toNat)
  case atStart => exact ⟨1, rfl, by omega, by omega, hr0, 0, rfl⟩
  case round =>
    obtain ⟨k, rfl, hk1, hk2, hk, q, rfl⟩ := hrel
    have hw1 : IntKind.i64.wrap ((at_ : Int) + (k : Int)) = (at_ : Int) + k := IntWalk.i64_in _ (by omega)
    by_cases hlt : at_ + k < xs.length
    · obtain ⟨s1, hs1⟩ : ∃ s, xs[at_ + k]? = some s := ⟨_, List.getElem?_eq_getElem hlt⟩
      have hc1 := h.at hs1
      have hrr := run_round hs1 hk
      have HRR := Lib.hid hrr
      have HS1 := Lib.hid hs1
      clear hs1 hrr
      have hd : decide ((at_ : Int) + (k : Int) < (xs.length : Int)) = true := by simp; omega
      have hi0 : (0 : Int) ≤ (at_ : Int) + k := by omega
      have hi1 : (at_ : Int) + k < xs.length := by omega
      have hto : ((at_ : Int) + (k : Int)).toNat = at_ + k := by omega
      go_wp2
      refine wp_region_quiet_lit (by kernel_rfl) (by kernel_rfl) ?_
      repeat (go_big_quiet_step (fail))
      go_big_quiet_want
      refine quiet_sec rfl rfl hc1 ?_
      go_big_quiet_on
      simp only [Act.put, List.setIfInBounds_toArray, List.set_cons_succ, List.set_cons_zero]
      repeat (go_big_quiet_step (fail))
      go_big_quiet_want
      refine quiet_sec rfl rfl hc0 ?_
      go_big_quiet_on
      simp only [Act.put, List.setIfInBounds_toArray, List.set_cons_succ, List.set_cons_zero]
      repeat (go_big_quiet_step (fail))
      refine wpQuiet_nil ?_
      intro _ hw'
      obtain ⟨nq, hw''⟩ := hw'
      subst hw''
      clear hw1 hi0 hi1 hto hd
      by_cases he : s1 = s0
      · have hrr := HRR.out.1 he
        rw [decide_eq_true he]
        clear he HRR
        go_wp2
        exact ⟨⟨k + 1, rfl, by omega, by omega, hrr, q + nq, rfl⟩, by simp [intOf]; omega⟩
      · have hrr := HRR.out.2 he
        have HX := Lib.hid hrr
        rw [decide_eq_false he]
        clear he HRR hrr
        go_wp2
        go_ret
        exact ⟨by rw [← HR.out, HX.out]; rfl, q + nq, World.drewN_drewN _ _ _⟩
    · have hd : decide ((at_ : Int) + (k : Int) < (xs.length : Int)) = false := by simp; omega
      have hX : runAt (xs.drop at_) = k := by
        have e : xs.drop (at_ + k) = [] := List.drop_eq_nil_of_le (by omega)
        have := hk.out
        rwa [e, runFrom_nil, Nat.add_zero] at this
      have HX := Lib.hid hX
      clear hX
      go_wp2
      go_quiet (fail)
      go_wp2
      go_ret
      exact ⟨by rw [← HR.out, HX.out]; rfl, q + nq, World.drewN_drewN _ _ _⟩
set_option maxRecDepth 20000 in
set_option maxHeartbeats 1000000 in
theorem refequal_calls (A : Option Addr) (c at_ : Nat) (xs : List Sec) (w : World) (h : Secs w A c xs) (hlen : xs.length ≤ 1099511627776) (hat : at_ < xs.length) :
    Calls Try.prog 51 #[.slice A xs.length c, .int .i64 at_] w fun e w' => e = .returned (.int .i64 (runAt (xs.drop at_))) ∧ ∃ n, w' = w.drewN n := by
  obtain ⟨a, rfl⟩ := h.some_of hat
  obtain ⟨s0, hs0⟩ : ∃ s, xs[at_]? = some s := ⟨_, List.getElem?_eq_getElem hat⟩
  have hc0 := h.at hs0
  have hr0 : Hid (runAt (xs.drop at_) = 1 + runFrom s0 (xs.drop (at_ + 1))) := by
    show _ = _
    rw [drop_get hs0, runAt]; omega
  clear hs0
  obtain ⟨R, hR⟩ : ∃ R, runAt (xs.drop at_) = R := ⟨_, rfl⟩
  have HR := Lib.hid hR
  rw [hR]
  clear hR
  go_enter Try.func51, Try.ntmps51
  go_wp2
  go_loopw [5] (fun n w' => ∃ k : Nat, n = .int .i64 k ∧ 1 ≤ k ∧ at_ + k ≤ xs.length ∧ Hid (runAt (xs.drop at_) = k + runFrom s0 (xs.drop (at_ + k))) ∧ ∃ q, w' = w.drewN q) (fun n w' => xs.length - (intOf n).toNat)
  case atStart => exact ⟨1, rfl, by omega, by omega, hr0, 0, rfl⟩
  case round =>
    obtain ⟨k, rfl, hk1, hk2, hk, q, rfl⟩ := hrel
    have hw1 : IntKind.i64.wrap ((at_ : Int) + (k : Int)) = (at_ : Int) + k := IntWalk.i64_in _ (by omega)
    by_cases hlt : at_ + k < xs.length
    · obtain ⟨s1, hs1⟩ : ∃ s, xs[at_ + k]? = some s := ⟨_, List.getElem?_eq_getElem hlt⟩
      have hc1 := h.at hs1
      have hrr := run_round hs1 hk
      have HRR := Lib.hid hrr
      have HS1 := Lib.hid hs1
      clear hs1 hrr
      have hd : decide ((at_ : Int) + (k : Int) < (xs.length : Int)) = true := by simp; omega
      have hi0 : (0 : Int) ≤ (at_ : Int) + k := by omega
      have hi1 : (at_ : Int) + k < xs.length := by omega
      have hto : ((at_ : Int) + (k : Int)).toNat = at_ + k := by omega
      go_wp2
      refine wp_region_quiet_lit (by kernel_rfl) (by kernel_rfl) ?_
      repeat (go_big_quiet_step (fail))
      go_big_quiet_want
      refine quiet_sec rfl rfl hc1 ?_
      go_big_quiet_on
      simp only [Act.put, List.setIfInBounds_toArray, List.set_cons_succ, List.set_cons_zero]
      repeat (go_big_quiet_step (fail))
      go_big_quiet_want
      refine quiet_sec rfl rfl hc0 ?_
      go_big_quiet_on
      simp only [Act.put, List.setIfInBounds_toArray, List.set_cons_succ, List.set_cons_zero]
      repeat (go_big_quiet_step (fail))
      refine wpQuiet_nil ?_
      intro _ hw'
      obtain ⟨nq, hw''⟩ := hw'
      subst hw''
      clear hw1 hi0 hi1 hto hd
      by_cases he : s1 = s0
      · have hrr := HRR.out.1 he
        rw [decide_eq_true he]
        clear he HRR
        go_wp2
        exact ⟨⟨k + 1, rfl, by omega, by omega, hrr, q + nq, rfl⟩, by simp [intOf]; omega⟩
      · have hrr := HRR.out.2 he
        have HX := Lib.hid hrr
        rw [decide_eq_false he]
        clear he HRR hrr
        go_wp2
        go_ret
        exact ⟨by rw [← HR.out, HX.out]; rfl, q + nq, World.drewN_drewN _ _ _⟩
    · have hd : decide ((at_ : Int) + (k : Int) < (xs.length : Int)) = false := by simp; omega
      have hX : runAt (xs.drop at_) = k := by
        have e : xs.drop (at_ + k) = [] := List.drop_eq_nil_of_le (by omega)
        have := hk.out
        rwa [e, runFrom_nil, Nat.add_zero] at this
      have HX := Lib.hid hX
      clear hX
      go_wp2
      go_quiet (fail)
      go_wp2
      go_ret
      exact ⟨by rw [← HR.out, HX.out]; rfl, q + nq, World.drewN_drewN _ _ _⟩
end Go.Proofs.Ytfdkhopionknaaa
