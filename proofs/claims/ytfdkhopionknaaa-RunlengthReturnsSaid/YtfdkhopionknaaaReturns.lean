/- RunlengthReturns: the walk. -/
import Derived.Test.YtfdkhopionknaaaAwake
import Derived.Test.YtfdkhopionknaaaBack
namespace Go.Proofs.Ytfdkhopionknaaa
open Go.RowKit
set_option linter.unusedVariables false
set_option linter.unusedSimpArgs false

set_option maxRecDepth 20000 in
set_option maxHeartbeats 4000000 in
theorem returns_calls (A : Option Addr) (c : Nat) (xs : List Sec) (w : World) (h : Secs w A c xs) :
    Calls Try.prog 5 #[.slice A xs.length c] w fun e w' => e = .returned (.bool true) ∧ Below w.heap.size w w' := by
  by_cases hbig : 300 < xs.length
  · have b1 : (300 : Int) < (xs.length : Int) := by omega
    go_enter Try.func5, Try.ntmps5
    go_wp2_with fail
    refine (awake_calls w).mono ?_
    rintro e w1 ⟨rfl, hb1⟩
    go_wp2
    go_ret
    exact ⟨rfl, hb1⟩
  · have b1 : ¬ (300 : Int) < (xs.length : Int) := by omega
    obtain ⟨bs, hbs⟩ : ∃ bs, encode xs = bs := ⟨_, rfl⟩
    have hl := encode_len xs
    rw [hbs] at hl
    have HD := Lib.hid (show decode bs (xs.length : Int) = (0, xs) by rw [← hbs]; exact decode_encode xs _ (by omega) (Int.le_refl _))
    have HD2 := Lib.hid (show xs.length ≠ 0 → ∀ k : Nat, xs.length = k + 1 → decode bs (k : Int) = (5, []) from fun h0 k hk => by rw [← hbs]; exact decode_short xs _ (by omega) (by omega) (by omega))
    have HN := Lib.hid (show xs.length = 0 → bs.length = 0 from fun h0 => by omega)
    have HBS := Lib.hid hbs
    have HH := Lib.hid h
    clear hbs h
    go_enter Try.func5, Try.ntmps5
    go_wp2_with fail
    refine (encode_lit A c xs bs w HBS.out HH.out (by omega)).mono ?_
    rintro e w1 ⟨A1, c1, rfl, hy1, hb1⟩
    have HH1 := Lib.hid (HH.out.below hb1.out)
    go_wp2_with fail
    refine (decode_lit A1 c1 bs xs.length w1 _ HD.out hy1.out (by omega)).mono ?_
    rintro e w2 ⟨A2, c2, rfl, hs2, hb2⟩
    have HH2 := Lib.hid (HH1.out.below hb2.out)
    have HY2 := Lib.hid (hy1.out.below hb2.out)
    have HB2 := Lib.hid (below_then hb1.out hb2.out)
    go_wp2_with fail
    refine (sameSecs_calls A2 A c2 c xs xs w2 hs2.out HH2.out (by omega) (by omega)).mono ?_
    rintro e w3 ⟨rfl, q, rfl⟩
    rw [decide_eq_true rfl]
    have HB3 := Lib.hid (below_drews HB2.out q)
    by_cases h0 : xs.length = 0
    · have b3 : ((xs.length : Int) == 0) = true := by rw [beq_iff_eq]; omega
      have hb0 := HN.out h0
      have b4 : ((bs.length : Int) == 0) = true := by rw [beq_iff_eq]; omega
      go_wp2_with fail
      refine (awake_calls _).mono ?_
      rintro e w4 ⟨rfl, hb4⟩
      have HB4 := Lib.hid (below_then HB3.out hb4)
      clear hb4
      go_wp2
      go_ret
      exact ⟨rfl, HB4.out⟩
    · have b3 : ((xs.length : Int) == 0) = false := by rw [beq_eq_false_iff_ne]; omega
      obtain ⟨k, hk⟩ : ∃ k, xs.length = k + 1 := ⟨xs.length - 1, by omega⟩
      have hsub : (xs.length : Int) - 1 = (k : Int) := by omega
      have HDK := Lib.hid (HD2.out h0 k hk)
      clear hk
      go_wp2_with fail
      refine (decode_lit A1 c1 bs k (w2.drewN q) _ HDK.out (HY2.out.drews q) (by omega)).mono ?_
      rintro e w4 ⟨A4, c4, rfl, hs4, hb4⟩
      have HB4 := Lib.hid (below_then HB3.out hb4.out)
      go_wp2_with fail
      refine (awake_calls _).mono ?_
      rintro e w5 ⟨rfl, hb5⟩
      have HB5 := Lib.hid (below_then HB4.out hb5)
      clear hb5
      go_wp2
      go_ret
      exact ⟨rfl, HB5.out⟩
end Go.Proofs.Ytfdkhopionknaaa
