/- SameSectors; Size. -/
import Derived.Test.YtfdkhopionknaaaRun
import Derived.Test.YtfdkhopionknaaaEncP
namespace Go.Proofs.Ytfdkhopionknaaa
open Go.RowKit
set_option linter.unusedVariables false
set_option linter.unusedSimpArgs false
attribute [local go_sem ↓] run_load_sec run_eql_sec run_neq_sec
attribute [local go_sem] SecP_drewN secP_drewN isSec_secV unSec_secV isSec_zero unSec_zero

set_option maxRecDepth 20000 in
set_option maxHeartbeats 1000000 in
theorem sameSecs_calls (A A' : Option Addr) (c c' : Nat) (xs ys : List Sec) (w : World) (h : Secs w A c xs) (h' : Secs w A' c' ys) (hlen : xs.length ≤ 1099511627776) (hlen' : ys.length ≤ 1099511627776) :
    Calls Try.prog 25 #[.slice A xs.length c, .slice A' ys.length c'] w fun e w' => e = .returned (.bool (decide (xs = ys))) ∧ ∃ n, w' = w.drewN n := by
  by_cases hl : xs.length = ys.length
  · have hb : ((xs.length : Int) != (ys.length : Int)) = false := by simp; omega
    go_enter Try.func25, Try.ntmps25
    go_wp2
    go_loopw [5] (fun n w' => ∃ k : Nat, n = .int .i64 k ∧ k ≤ xs.length ∧ Hid (xs.take k = ys.take k) ∧ ∃ q, w' = w.drewN q) (fun n w' => xs.length - (intOf n).toNat)
    case atStart => exact ⟨0, rfl, by omega, rfl, 0, rfl⟩
    case round =>
      obtain ⟨k, rfl, hk, hke, q, rfl⟩ := hrel
      by_cases hlt : k < xs.length
      · obtain ⟨s0, hs0⟩ : ∃ s, xs[k]? = some s := ⟨_, List.getElem?_eq_getElem hlt⟩
        obtain ⟨s1, hs1⟩ : ∃ s, ys[k]? = some s := ⟨_, List.getElem?_eq_getElem (by omega)⟩
        obtain ⟨a, rfl⟩ := h.some_of hlt
        obtain ⟨a', rfl⟩ := h'.some_of (show k < ys.length by omega)
        have hc0 := h.at hs0
        have hc1 := h'.at hs1
        have HS0 := Lib.hid hs0
        have HS1 := Lib.hid hs1
        have b1 : (k : Int) < (ys.length : Int) := by omega
        have b2 : k < ys.length := by omega
        clear hs0 hs1
        go_wp2_with fail
        refine wp_region_quiet_lit (by kernel_rfl) (by kernel_rfl) ?_
        repeat (go_big_quiet_step (fail))
        go_big_quiet_want
        refine quiet_sec rfl rfl hc0 ?_
        go_big_quiet_on
        simp only [Act.put, List.setIfInBounds_toArray, List.set_cons_succ, List.set_cons_zero]
        repeat (go_big_quiet_step (fail))
        go_big_quiet_want
        refine quiet_sec rfl rfl hc1 ?_
        go_big_quiet_on
        simp only [Act.put, List.setIfInBounds_toArray, List.set_cons_succ, List.set_cons_zero]
        repeat (go_big_quiet_step (fail))
        refine wpQuiet_nil ?_
        intro _ hw'
        obtain ⟨nq, hw''⟩ := hw'
        subst hw''
        by_cases he : s0 = s1
        · have hke' : Hid (xs.take (k + 1) = ys.take (k + 1)) := by
            show _ = _
            rw [List.take_add_one, List.take_add_one, HS0.out, HS1.out, hke.out, he]
          rw [decide_eq_true he]
          clear he
          go_wp2
          exact ⟨⟨k + 1, rfl, by omega, hke', q + nq, rfl⟩, by simp [intOf]; omega⟩
        · have hx : xs ≠ ys := by
            intro e
            have h0 := HS0.out
            rw [e, HS1.out] at h0
            exact he (Option.some.inj h0).symm
          have HX := Lib.hid (decide_eq_false hx)
          rw [decide_eq_false he]
          clear he hx
          go_wp2
          go_ret
          exact ⟨by rw [HX.out]; rfl, q + nq, World.drewN_drewN _ _ _⟩
      · have hx : xs = ys := by
          have := hke.out
          rwa [List.take_of_length_le (by omega), List.take_of_length_le (by omega)] at this
        have HX := Lib.hid (decide_eq_true hx)
        clear hx
        go_wp2
        go_ret
        exact ⟨by rw [HX.out]; rfl, q, rfl⟩
  · have hb : ((xs.length : Int) != (ys.length : Int)) = true := by simp; omega
    have hx : xs ≠ ys := fun e => hl (congrArg List.length e)
    have HX := Lib.hid (decide_eq_false hx)
    clear hx
    go_enter Try.func25, Try.ntmps25
    go_wp2
    go_ret
    exact ⟨by rw [HX.out]; rfl, 0, rfl⟩

set_option maxRecDepth 20000 in
theorem Size_calls (A : Option Addr) (c : Nat) (xs : List Sec) (w : World) (h : Secs w A c xs) (hlen : xs.length ≤ 65536) :
    Calls Try.prog 22 #[.slice A xs.length c] w fun e w' => e = .returned (.int .i64 (encode xs).length) ∧ Below w.heap.size w w' := by
  go_enter Try.func22, Try.ntmps22
  go_wp2_with fail
  refine (Encode_calls A c xs w h hlen).mono ?_
  rintro e w1 hf
  obtain ⟨A2, c2, rfl, ho2, hr2, hb2⟩ := hf.parts
  go_wp2
  go_ret
  exact ⟨rfl, hb2⟩
end Go.Proofs.Ytfdkhopionknaaa
