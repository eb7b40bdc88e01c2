/- RunlengthRepeats: the walk. -/
import Derived.Test.YtfdkhopionknaaaAwake
import Derived.Test.YtfdkhopionknaaaFacts
namespace Go.Proofs.Ytfdkhopionknaaa
open Go.RowKit
set_option linter.unusedVariables false
set_option linter.unusedSimpArgs false

set_option maxRecDepth 20000 in
set_option maxHeartbeats 4000000 in
theorem repeats_calls (A : Option Addr) (c : Nat) (bs : List UInt8) (m : Nat) (w : World) (h : Bytes w A c bs) (hm : m ≤ 255) :
    Calls Try.prog 6 #[.slice A bs.length c, .int .u8 m] w fun e w' => e = .returned (.bool true) ∧ Below w.heap.size w w' := by
  have hwm : IntKind.i64.wrap (m : Int) = (m : Int) := by rw [IntKind.wrap_i64]; omega
  by_cases hbig : 2000 < bs.length
  · have b1 : (2000 : Int) < (bs.length : Int) := by omega
    go_enter Try.func6, Try.ntmps6
    go_wp2_with fail
    refine (awake_calls w).mono ?_
    rintro e w1 ⟨rfl, hb1⟩
    go_wp2
    go_ret
    exact ⟨rfl, hb1⟩
  · have b1 : ¬ (2000 : Int) < (bs.length : Int) := by omega
    obtain ⟨⟨er, l⟩, hd⟩ : ∃ r, decode bs (m : Int) = r := ⟨_, rfl⟩
    obtain ⟨hd1, hd2⟩ := decode_facts hd
    have HH := Lib.hid h
    clear h
    go_enter Try.func6, Try.ntmps6
    go_wp2_with fail
    refine (decode_lit A c bs m w (er, l) hd HH.out (by omega)).mono ?_
    rintro e w1 ⟨A1, c1, rfl, hs1, hb1⟩
    by_cases he : er = 0
    · subst he
      obtain ⟨hen, hlm⟩ := hd2 rfl
      rw [mostN_nat m (by omega)] at hlm
      have b2 : ¬ (m : Int) < (l.length : Int) := by omega
      have d2 : decide ((m : Int) < (l.length : Int)) = false := decide_eq_false b2
      have HL0 := Lib.hid (show bs.length = 0 → l = [] from fun h0 => by
        rw [List.eq_nil_of_length_eq_zero h0, decode_nil] at hd
        cases hd; rfl)
      have HEN := Lib.hid hen
      have HH1 := Lib.hid (HH.out.below hb1.out)
      clear hen hd hd1 hd2
      go_wp2_with fail
      refine (encode_lit A1 c1 l bs w1 HEN.out hs1.out (by omega)).mono ?_
      rintro e w2 ⟨A2, c2, rfl, hy2, hb2⟩
      have HH2 := Lib.hid (HH1.out.below hb2.out)
      have HS2 := Lib.hid (hs1.out.below hb2.out)
      have HB2 := Lib.hid (below_then hb1.out hb2.out)
      go_wp2_with fail
      refine (equal_calls A2 A c2 c bs bs w2 hy2.out HH2.out).mono ?_
      rintro e w3 ⟨rfl, rfl⟩
      rw [decide_eq_true rfl]
      by_cases h0 : bs.length = 0
      · have b3 : ((bs.length : Int) == 0) = true := by rw [beq_iff_eq]; omega
        have hl0 : l.length = 0 := by rw [HL0.out h0]; rfl
        have b4 : ((l.length : Int) == 0) = true := by rw [beq_iff_eq]; omega
        go_wp2_with fail
        refine (awake_calls w3).mono ?_
        rintro e w4 ⟨rfl, hb4⟩
        have HB4 := Lib.hid (below_then HB2.out hb4)
        clear hb4
        go_wp2
        go_ret
        exact ⟨rfl, HB4.out⟩
      · have b3 : ((bs.length : Int) == 0) = false := by rw [beq_eq_false_iff_ne]; omega
        obtain ⟨k, hk⟩ : ∃ k, bs.length = k + 1 := ⟨bs.length - 1, by omega⟩
        have hsub : (bs.length : Int) - 1 = (k : Int) := by omega
        obtain ⟨A4, c4, bs4, hbs4, hsl, hy4⟩ := bslice_hi HH2.out k (by omega)
        have hl4 : bs4.length = k := by rw [hbs4.out, List.length_take]; omega
        have hl4' : bs4.length ≤ 2000 := by omega
        obtain ⟨⟨er2, x2⟩, hd2⟩ : ∃ r, decode bs4 (m : Int) = r := ⟨_, rfl⟩
        obtain ⟨hf1, hf2⟩ := decode_facts hd2
        have hx2 : x2.length ≤ 65536 := by
          by_cases h2 : er2 = 0
          · have := (hf2 h2).2; have := mostN_le (m : Int); omega
          · rw [hf1 h2]; simp
        have hno : er2 = 0 → x2 ≠ l := by
          intro h2 e
          have h3 := (hf2 h2).1
          rw [e, HEN.out] at h3
          have := congrArg List.length h3
          omega
        have HNO := Lib.hid hno
        have HD2 := Lib.hid hd2
        clear hno hd2 hf1 hf2 hk hl4
        go_wp2_with fail
        refine (decode_lit A4 c4 bs4 m w3 (er2, x2) HD2.out hy4 (by omega)).mono ?_
        rintro e w4 ⟨A5, c5, rfl, hs5, hb5⟩
        by_cases h2 : er2 = 0
        · subst h2
          have hx := HNO.out rfl
          go_wp2_with fail
          refine (sameSecs_calls A5 A1 c5 c1 x2 l w4 hs5.out (HS2.out.below hb5.out) (by omega) (by omega)).mono ?_
          rintro e w5 ⟨rfl, q, rfl⟩
          rw [decide_eq_false hx]
          have HB5 := Lib.hid (below_drews (below_then HB2.out hb5.out) q)
          go_wp2_with fail
          refine (awake_calls (w4.drewN q)).mono ?_
          rintro e w6 ⟨rfl, hb6⟩
          have HB6 := Lib.hid (below_then HB5.out hb6)
          clear hb6
          go_wp2
          go_ret
          exact ⟨rfl, HB6.out⟩
        · have hne : ((er2 : Int) != 0) = true := by simp; omega
          have hne' : (er2 : Int) ≠ 0 := by omega
          go_wp2_with fail
          refine (awake_calls w4).mono ?_
          rintro e w6 ⟨rfl, hb6⟩
          have HB6 := Lib.hid (below_then (below_then HB2.out hb5.out) hb6)
          clear hb6
          go_wp2
          go_ret
          exact ⟨rfl, HB6.out⟩
    · have hl := hd1 he
      subst hl
      have hne : (er : Int) ≠ 0 := by omega
      have b2 : ((er : Int) != 0) = true := by simp; omega
      go_wp2_with fail
      refine (awake_calls w1).mono ?_
      rintro e w2 ⟨rfl, hb2⟩
      go_wp2
      go_ret
      exact ⟨rfl, below_then hb1.out hb2⟩
end Go.Proofs.Ytfdkhopionknaaa
