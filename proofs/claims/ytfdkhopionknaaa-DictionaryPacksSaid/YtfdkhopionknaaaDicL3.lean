/- DictionaryPacks: the walk. -/
import Derived.Test.YtfdkhopionknaaaDicV
import Derived.Test.YtfdkhopionknaaaDicL1
namespace Go.Proofs.Ytfdkhopionknaaa
open Go.RowKit
set_option linter.unusedVariables false
set_option linter.unusedSimpArgs false

theorem refpack_lit (A1 A2 : Option Addr) (c1 c2 : Nat) (dict r : List UInt8) (xs : List Sec) (w : World) (he : packD dict xs = r) (h1 : Bytes w A1 c1 dict) (h2 : Secs w A2 c2 xs) (hd : dict.length ≤ 10000) (hx : xs.length ≤ 1000) :
    Calls Try.prog 36 #[.slice A1 dict.length c1, .slice A2 xs.length c2] w fun e w' => ∃ A c, e = .returned (.slice A r.length c) ∧ Hid (Bytes w' A c r) ∧ Hid (Below w.heap.size w w') := by
  refine (refPack_calls A1 A2 c1 c2 dict xs w h1 h2 hd hx).mono ?_
  intro e w' hf
  rw [he] at hf
  obtain ⟨A, c, rfl, ho, hb⟩ := Fresh_own hf
  exact ⟨A, c, rfl, own_bytes ho, hb⟩

set_option maxRecDepth 20000 in
set_option maxHeartbeats 4000000 in
theorem dpacks_calls (A1 A2 : Option Addr) (c1 c2 : Nat) (dict : List UInt8) (xs : List Sec) (w : World) (h1 : Bytes w A1 c1 dict) (h2 : Secs w A2 c2 xs) :
    Calls Try.prog 12 #[.slice A1 dict.length c1, .slice A2 xs.length c2] w fun e w' => e = .returned (.bool true) ∧ Below w.heap.size w w' := by
  have H1 := Lib.hid h1
  have H2 := Lib.hid h2
  clear h1 h2
  by_cases hs : dict.length ≤ 400
  · have hR : decide (∀ t ∈ [(A1, dict.length, c1)], t.2.1 ≤ 400) = true := by simp; omega
    have HR := Lib.hid hR
    by_cases hx : xs.length ≤ 40
    · have bx : ¬ (40 : Int) < (xs.length : Int) := by omega
      have dx : decide ((40 : Int) < (xs.length : Int)) = false := decide_eq_false bx
      obtain ⟨r, hr⟩ : ∃ r, packD dict xs = r := ⟨_, rfl⟩
      have HRR := Lib.hid hr
      clear hR hr
      go_enter Try.func12, Try.ntmps12
      go_wp2_with fail
      refine (small_lit [(A1, dict.length, c1)] w true (by simp) HR.out).mono ?_
      rintro e w1 ⟨rfl, hb1⟩
      go_wp2_with fail
      refine (awake6_calls w1).mono ?_
      rintro e w2 ⟨rfl, hb2⟩
      have HB2 := Lib.hid (below_then hb1.out hb2)
      clear hb1 hb2
      go_wp2_with fail
      refine (pack_lit A1 A2 c1 c2 dict r xs w2 HRR.out (H1.out.below HB2.out) (H2.out.below HB2.out) (by omega) (by omega)).mono ?_
      rintro e w3 ⟨A3, c3, rfl, hA3, hb3⟩
      have HB3 := Lib.hid (below_then HB2.out hb3.out)
      go_wp2_with fail
      refine (refpack_lit A1 A2 c1 c2 dict r xs w3 HRR.out (H1.out.below HB3.out) (H2.out.below HB3.out) (by omega) (by omega)).mono ?_
      rintro e w4 ⟨A4, c4, rfl, hA4, hb4⟩
      have HB4 := Lib.hid (below_then HB3.out hb4.out)
      go_wp2_with fail
      refine (equal_calls A3 A4 c3 c4 r r w4 (hA3.out.below hb4.out) hA4.out).mono ?_
      rintro e w5 ⟨rfl, rfl⟩
      rw [decide_eq_true rfl]
      go_wp2
      go_ret
      exact ⟨rfl, HB4.out⟩
    · have bx : (40 : Int) < (xs.length : Int) := by omega
      clear hR
      go_enter Try.func12, Try.ntmps12
      go_wp2_with fail
      refine (small_lit [(A1, dict.length, c1)] w true (by simp) HR.out).mono ?_
      rintro e w1 ⟨rfl, hb1⟩
      go_wp2_with fail
      refine (awake6_calls w1).mono ?_
      rintro e w2 ⟨rfl, hb2⟩
      have HB2 := Lib.hid (below_then hb1.out hb2)
      clear hb1 hb2
      go_wp2
      go_ret
      exact ⟨rfl, HB2.out⟩
  · have hR : decide (∀ t ∈ [(A1, dict.length, c1)], t.2.1 ≤ 400) = false := by simp; omega
    have HR := Lib.hid hR
    clear hR hs
    go_enter Try.func12, Try.ntmps12
    go_wp2_with fail
    refine (small_lit [(A1, dict.length, c1)] w false (by simp) HR.out).mono ?_
    rintro e w1 ⟨rfl, hb1⟩
    go_wp2_with fail
    refine (awake6_calls w1).mono ?_
    rintro e w2 ⟨rfl, hb2⟩
    have HB2 := Lib.hid (below_then hb1.out hb2)
    clear hb1 hb2
    go_wp2
    go_ret
    exact ⟨rfl, HB2.out⟩
end Go.Proofs.Ytfdkhopionknaaa
