/- DictionaryDecodes: the walk. -/
import Derived.Test.YtfdkhopionknaaaDicU
import Derived.Test.YtfdkhopionknaaaDicL1
namespace Go.Proofs.Ytfdkhopionknaaa
open Go.RowKit
set_option linter.unusedVariables false
set_option linter.unusedSimpArgs false

theorem refdDec_lit (A1 A2 : Option Addr) (c1 c2 : Nat) (dict bs : List UInt8) (most : Int) (r : Nat × List UInt8) (w : World) (he : decodeD dict bs most = r) (h1 : Bytes w A1 c1 dict) (h2 : Bytes w A2 c2 bs) (hd : dict.length ≤ 100000) (hb : bs.length ≤ 1000000) (hm : most ≤ 1000000) :
    Calls Try.prog 34 #[.slice A1 dict.length c1, .slice A2 bs.length c2, .int .i64 most] w fun e w' => ∃ A c, e = .returned (.tuple #[.slice A r.2.length c, .int .i64 r.1]) ∧ Hid (Bytes w' A c r.2) ∧ Hid (Below w.heap.size w w') := by
  refine (refdDecode_calls A1 A2 c1 c2 dict bs most w h1 h2 hd hb hm).mono ?_
  intro e w' hf
  rw [he] at hf
  obtain ⟨A, c, rfl, ho, hb⟩ := hf
  exact ⟨A, c, rfl, own_bytes ho, hb⟩

set_option maxRecDepth 20000 in
set_option maxHeartbeats 4000000 in
theorem ddecodes_calls (A1 A2 : Option Addr) (c1 c2 : Nat) (dict b : List UInt8) (most : Int) (w : World) (h1 : Bytes w A1 c1 dict) (h2 : Bytes w A2 c2 b) :
    Calls Try.prog 11 #[.slice A1 dict.length c1, .slice A2 b.length c2, .int .i64 most] w fun e w' => e = .returned (.bool true) ∧ Below w.heap.size w w' := by
  have H1 := Lib.hid h1
  have H2 := Lib.hid h2
  clear h1 h2
  by_cases hs : dict.length ≤ 400 ∧ b.length ≤ 400
  · have hR : decide (∀ t ∈ [(A1, dict.length, c1), (A2, b.length, c2)], t.2.1 ≤ 400) = true := by simp; omega
    have HR := Lib.hid hR
    have hs1 := hs.1
    have hs2 := hs.2
    by_cases hm : most ≤ 3000
    · have bm : ¬ (3000 : Int) < most := by omega
      have dm : decide ((3000 : Int) < most) = false := decide_eq_false bm
      obtain ⟨⟨r1, r2⟩, hr⟩ : ∃ r, decodeD dict b most = r := ⟨_, rfl⟩
      have HRR := Lib.hid hr
      clear hR hr hs
      go_enter Try.func11, Try.ntmps11
      go_wp2_with fail
      refine (small_lit [(A1, dict.length, c1), (A2, b.length, c2)] w true (by simp) HR.out).mono ?_
      rintro e w1 ⟨rfl, hb1⟩
      go_wp2_with fail
      refine (dDec_lit A1 A2 c1 c2 dict b most _ w1 HRR.out (H1.out.below hb1.out) (H2.out.below hb1.out) (by omega) (by omega) (by omega)).mono ?_
      rintro e w3 ⟨A3, c3, rfl, hA3, hb3⟩
      have HB3 := Lib.hid (below_then hb1.out hb3.out)
      go_wp2_with fail
      refine (refdDec_lit A1 A2 c1 c2 dict b most _ w3 HRR.out (H1.out.below HB3.out) (H2.out.below HB3.out) (by omega) (by omega) (by omega)).mono ?_
      rintro e w4 ⟨A4, c4, rfl, hA4, hb4⟩
      have HB4 := Lib.hid (below_then HB3.out hb4.out)
      have HA3 := Lib.hid (hA3.out.below hb4.out)
      go_wp2_with fail
      refine (awake6_calls w4).mono ?_
      rintro e w5 ⟨rfl, hb5⟩
      have HB5 := Lib.hid (below_then HB4.out hb5)
      have HA35 := Lib.hid (HA3.out.below hb5)
      have HA45 := Lib.hid (hA4.out.below hb5)
      clear hb5
      go_wp2_with fail
      refine (equal_calls A3 A4 c3 c4 r2 r2 w5 HA35.out HA45.out).mono ?_
      rintro e w6 ⟨rfl, rfl⟩
      rw [decide_eq_true rfl]
      go_wp2
      go_ret
      exact ⟨rfl, HB5.out⟩
    · have bm : (3000 : Int) < most := by omega
      clear hR hs
      go_enter Try.func11, Try.ntmps11
      go_wp2_with fail
      refine (small_lit [(A1, dict.length, c1), (A2, b.length, c2)] w true (by simp) HR.out).mono ?_
      rintro e w1 ⟨rfl, hb1⟩
      go_wp2_with fail
      refine (awake6_calls w1).mono ?_
      rintro e w2 ⟨rfl, hb2⟩
      have HB2 := Lib.hid (below_then hb1.out hb2)
      clear hb1 hb2
      go_wp2
      go_ret
      exact ⟨rfl, HB2.out⟩
  · have hR : decide (∀ t ∈ [(A1, dict.length, c1), (A2, b.length, c2)], t.2.1 ≤ 400) = false := by simp; omega
    have HR := Lib.hid hR
    clear hR hs
    go_enter Try.func11, Try.ntmps11
    go_wp2_with fail
    refine (small_lit [(A1, dict.length, c1), (A2, b.length, c2)] w false (by simp) HR.out).mono ?_
    rintro e w1 ⟨rfl, hb1⟩
    go_wp2_with fail
    refine (awake6_calls w1).mono ?_
    rintro e w2 ⟨rfl, hb2⟩
    have HB2 := Lib.hid (below_then hb1.out hb2)
    clear hb1 hb2
    go_wp2
    go_ret
    exact ⟨rfl, HB2.out⟩
end Go.Proofs.Ytfdkhopionknaaa
