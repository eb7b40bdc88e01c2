/- RunlengthEncodes: the walk. -/
import Derived.Test.YtfdkhopionknaaaAwake
import Derived.Test.YtfdkhopionknaaaEncR
namespace Go.Proofs.Ytfdkhopionknaaa
open Go.RowKit
set_option linter.unusedVariables false
set_option linter.unusedSimpArgs false

set_option maxRecDepth 20000 in
set_option maxHeartbeats 4000000 in
theorem encodes_calls (A : Option Addr) (c : Nat) (xs : List Sec) (w : World) (h : Secs w A c xs) :
    Calls Try.prog 3 #[.slice A xs.length c] w fun e w' => e = .returned (.bool true) ∧ Below w.heap.size w w' := by
  by_cases hbig : 300 < xs.length
  · have b1 : (300 : Int) < (xs.length : Int) := by omega
    go_enter Try.func3, Try.ntmps3
    go_wp2_with fail
    refine (awake_calls w).mono ?_
    rintro e w1 ⟨rfl, hb1⟩
    go_wp2
    go_ret
    exact ⟨rfl, hb1⟩
  · have b1 : ¬ (300 : Int) < (xs.length : Int) := by omega
    obtain ⟨bs, hbs⟩ : ∃ bs, encode xs = bs := ⟨_, rfl⟩
    have hl := encode_len xs
    rw [hbs] at hl
    have HBS := Lib.hid hbs
    have HH := Lib.hid h
    clear hbs h
    go_enter Try.func3, Try.ntmps3
    go_wp2_with fail
    refine (encode_lit A c xs bs w HBS.out HH.out (by omega)).mono ?_
    rintro e w1 ⟨A1, c1, rfl, hy1, hb1⟩
    have HH1 := Lib.hid (HH.out.below hb1.out)
    go_wp2_with fail
    refine (refEncode_calls A c xs w1 HH1.out (by omega)).mono ?_
    rintro e w2 hf
    rw [HBS.out] at hf
    obtain ⟨A2, c2, rfl, _, hy2', hb2'⟩ := hf.parts
    have hy2 := Lib.hid hy2'
    have hb2 := Lib.hid hb2'
    clear hf hy2' hb2'
    have HH2 := Lib.hid (HH1.out.below hb2.out)
    have HY2 := Lib.hid (hy1.out.below hb2.out)
    have HB2 := Lib.hid (below_then hb1.out hb2.out)
    go_wp2_with fail
    refine (equal_calls A1 A2 c1 c2 bs bs w2 HY2.out hy2.out).mono ?_
    rintro e w3 ⟨rfl, rfl⟩
    rw [decide_eq_true rfl]
    go_wp2_with fail
    refine (Size_calls A c xs w3 HH2.out (by omega)).mono ?_
    rintro e w4 ⟨rfl, hb4⟩
    rw [HBS.out]
    have HB4 := Lib.hid (below_then HB2.out hb4)
    clear hb4
    go_wp2_with fail
    refine (awake_calls _).mono ?_
    rintro e w5 ⟨rfl, hb5⟩
    have HB5 := Lib.hid (below_then HB4.out hb5)
    clear hb5
    go_wp2
    go_ret
    exact ⟨rfl, HB5.out⟩
end Go.Proofs.Ytfdkhopionknaaa
