/- DictionaryReturns: the walk. -/
import Derived.Test.YtfdkhopionknaaaDicZ
import Derived.Test.YtfdkhopionknaaaDicSm
namespace Go.Proofs.Ytfdkhopionknaaa
open Go.RowKit
set_option linter.unusedVariables false
set_option linter.unusedSimpArgs false

set_option maxRecDepth 20000 in
set_option maxHeartbeats 4000000 in
theorem dreturns_calls (A1 A2 : Option Addr) (c1 c2 : Nat) (dict b : List UInt8) (w : World) (h1 : Bytes w A1 c1 dict) (h2 : Bytes w A2 c2 b) :
    Calls Try.prog 13 #[.slice A1 dict.length c1, .slice A2 b.length c2] w fun e w' => e = .returned (.bool true) ∧ Below w.heap.size w w' := by
  have H1 := Lib.hid h1
  have H2 := Lib.hid h2
  clear h1 h2
  by_cases hs : dict.length ≤ 400 ∧ b.length ≤ 400
  · have hR : decide (∀ t ∈ [(A1, dict.length, c1), (A2, b.length, c2)], t.2.1 ≤ 400) = true := by simp; omega
    have HR := Lib.hid hR
    have hs1 := hs.1
    have hs2 := hs.2
    obtain ⟨r, hr⟩ : ∃ r, encodeD dict b = r := ⟨_, rfl⟩
    have hrl : r.length ≤ 2 * b.length := by
      have := encD_len (dict ++ b) dict.length [] (by simp)
      rw [← hr]
      unfold encodeD
      simp only [List.length_nil, List.length_append] at this
      omega
    have HD := Lib.hid (show decodeD dict r ((b.length : Nat) : Int) = (0, b) by rw [← hr]; exact decode_encodeD dict b b.length (Nat.le_refl _))
    have HD2 := Lib.hid (show ∀ k : Nat, b.length = k + 1 → decodeD dict r ((k : Nat) : Int) = (5, []) from fun k hk => by rw [← hr]; exact decode_shortD dict b k (by omega))
    have HRR := Lib.hid hr
    have hrl2 : r.length ≤ 800 := by omega
    clear hR hr hs hrl
    go_enter Try.func13, Try.ntmps13
    go_wp2_with fail
    refine (small_lit [(A1, dict.length, c1), (A2, b.length, c2)] w true (by simp) HR.out).mono ?_
    rintro e w1 ⟨rfl, hb1⟩
    go_wp2_with fail
    refine (dEnc_lit A1 A2 c1 c2 dict b r w1 HRR.out (H1.out.below hb1.out) (H2.out.below hb1.out) (by omega)).mono ?_
    rintro e w2 ⟨A3, c3, rfl, hA3, hb2⟩
    have HB2 := Lib.hid (below_then hb1.out hb2.out)
    go_wp2_with fail
    refine (dDec_lit A1 A3 c1 c3 dict r b.length _ w2 HD.out (H1.out.below HB2.out) hA3.out (by omega) (by omega) (by omega)).mono ?_
    rintro e w3 ⟨A4, c4, rfl, hA4, hb3⟩
    have HB3 := Lib.hid (below_then HB2.out hb3.out)
    go_wp2_with fail
    refine (equal_calls A4 A2 c4 c2 b b w3 hA4.out (H2.out.below HB3.out)).mono ?_
    rintro e w4 ⟨rfl, rfl⟩
    rw [decide_eq_true rfl]
    by_cases h0 : b.length = 0
    · have b3 : ((b.length : Int) == 0) = true := by rw [beq_iff_eq]; omega
      go_wp2_with fail
      refine (awake6_calls w4).mono ?_
      rintro e w5 ⟨rfl, hb5⟩
      have HB5 := Lib.hid (below_then HB3.out hb5)
      clear hb5
      go_wp2
      go_ret
      exact ⟨rfl, HB5.out⟩
    · have b3 : ((b.length : Int) == 0) = false := by rw [beq_eq_false_iff_ne]; omega
      obtain ⟨k, hk⟩ : ∃ k, b.length = k + 1 := ⟨b.length - 1, by omega⟩
      have vk : IntKind.i64.wrap ((b.length : Int) - 1) = (k : Int) := by rw [IntKind.wrap_i64]; omega
      have HD3 := Lib.hid (HD2.out k hk)
      have hk4 : k ≤ 400 := by omega
      have HA3 := Lib.hid hA3
      clear hk
      go_wp2_with fail
      refine (dEnc_lit A1 A2 c1 c2 dict b r w4 HRR.out (H1.out.below HB3.out) (H2.out.below HB3.out) (by omega)).mono ?_
      rintro e w5 ⟨A5, c5, rfl, hA5, hb5⟩
      have HB5 := Lib.hid (below_then HB3.out hb5.out)
      go_wp2_with fail
      refine (dDec_lit A1 A5 c1 c5 dict r k _ w5 HD3.out (H1.out.below HB5.out) hA5.out (by omega) (by omega) (by omega)).mono ?_
      rintro e w6 ⟨A6, c6, rfl, hA6, hb6⟩
      have HB6 := Lib.hid (below_then HB5.out hb6.out)
      go_wp2_with fail
      refine (awake6_calls w6).mono ?_
      rintro e w7 ⟨rfl, hb7⟩
      have HB7 := Lib.hid (below_then HB6.out hb7)
      clear hb7
      go_wp2
      go_ret
      exact ⟨rfl, HB7.out⟩
  · have hR : decide (∀ t ∈ [(A1, dict.length, c1), (A2, b.length, c2)], t.2.1 ≤ 400) = false := by simp; omega
    have HR := Lib.hid hR
    clear hR hs
    go_enter Try.func13, Try.ntmps13
    go_wp2_with fail
    refine (small_lit [(A1, dict.length, c1), (A2, b.length, c2)] w false (by simp) HR.out).mono ?_
    rintro e w1 ⟨rfl, hb1⟩
    go_wp2_with fail
    refine (awake6_calls w1).mono ?_
    rintro e w2 ⟨rfl, hb2⟩
    have HB2 := Lib.hid (below_then hb1.out hb2)
    clear hb1 hb2
    go_wp2
    go_ret
    exact ⟨rfl, HB2.out⟩
end Go.Proofs.Ytfdkhopionknaaa
