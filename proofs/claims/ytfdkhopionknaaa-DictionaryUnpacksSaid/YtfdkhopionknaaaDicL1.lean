/- DictionaryEncodes: the walk. -/
import Derived.Test.YtfdkhopionknaaaDicT
import Derived.Test.YtfdkhopionknaaaDicW
namespace Go.Proofs.Ytfdkhopionknaaa
open Go.RowKit
set_option linter.unusedVariables false
set_option linter.unusedSimpArgs false

/-- The arguments of small, laid just ahead. -/
theorem small_lit (ts : List (Option Addr × Nat × Nat)) (w : World) (R : Bool) (hl : ts.length ≤ 1000) (hR : decide (∀ t ∈ ts, t.2.1 ≤ 400) = R) :
    Calls Try.prog 29 #[.slice (some ⟨w.heap.size, 0, none⟩) ts.length ts.length] (w.alloc (.cells (ts.map trip).toArray 24)) fun e w' => e = .returned (.bool R) ∧ Hid (Below w.heap.size w w') := by
  refine (small_calls _ _ ts _ (rd_block (heap_alloc_new w _) (by unfold maxLen; omega)) hl).mono ?_
  rintro e w' ⟨rfl, rfl⟩
  rw [hR]
  exact ⟨rfl, (Below.refl _ _).alloc (Nat.le_refl _) _⟩
theorem refdEnc_lit (A1 A2 : Option Addr) (c1 c2 : Nat) (dict b r : List UInt8) (w : World) (he : encodeD dict b = r) (h1 : Bytes w A1 c1 dict) (h2 : Bytes w A2 c2 b) (hlen : dict.length + b.length ≤ 100000) :
    Calls Try.prog 32 #[.slice A1 dict.length c1, .slice A2 b.length c2] w fun e w' => ∃ A c, e = .returned (.slice A r.length c) ∧ Hid (Bytes w' A c r) ∧ Hid (Below w.heap.size w w') := by
  refine (refdEncode_calls A1 A2 c1 c2 dict b w h1 h2 hlen).mono ?_
  intro e w' hf
  rw [he] at hf
  obtain ⟨A, c, rfl, ho, hb⟩ := Fresh_own hf
  exact ⟨A, c, rfl, own_bytes ho, hb⟩

set_option maxRecDepth 20000 in
set_option maxHeartbeats 4000000 in
theorem dencodes_calls (A1 A2 : Option Addr) (c1 c2 : Nat) (dict b : List UInt8) (w : World) (h1 : Bytes w A1 c1 dict) (h2 : Bytes w A2 c2 b) :
    Calls Try.prog 10 #[.slice A1 dict.length c1, .slice A2 b.length c2] w fun e w' => e = .returned (.bool true) ∧ Below w.heap.size w w' := by
  have H1 := Lib.hid h1
  have H2 := Lib.hid h2
  clear h1 h2
  by_cases hs : dict.length ≤ 400 ∧ b.length ≤ 400
  · have hR : decide (∀ t ∈ [(A1, dict.length, c1), (A2, b.length, c2)], t.2.1 ≤ 400) = true := by simp; omega
    have HR := Lib.hid hR
    have hs1 := hs.1
    have hs2 := hs.2
    obtain ⟨r, hr⟩ : ∃ r, encodeD dict b = r := ⟨_, rfl⟩
    have HRR := Lib.hid hr
    clear hR hr hs
    go_enter Try.func10, Try.ntmps10
    go_wp2_with fail
    refine (small_lit [(A1, dict.length, c1), (A2, b.length, c2)] w true (by simp) HR.out).mono ?_
    rintro e w1 ⟨rfl, hb1⟩
    go_wp2_with fail
    refine (awake6_calls w1).mono ?_
    rintro e w2 ⟨rfl, hb2⟩
    have HB2 := Lib.hid (below_then hb1.out hb2)
    clear hb1 hb2
    go_wp2_with fail
    refine (dEnc_lit A1 A2 c1 c2 dict b r w2 HRR.out (H1.out.below HB2.out) (H2.out.below HB2.out) (by omega)).mono ?_
    rintro e w3 ⟨A3, c3, rfl, hA3, hb3⟩
    have HB3 := Lib.hid (below_then HB2.out hb3.out)
    go_wp2_with fail
    refine (refdEnc_lit A1 A2 c1 c2 dict b r w3 HRR.out (H1.out.below HB3.out) (H2.out.below HB3.out) (by omega)).mono ?_
    rintro e w4 ⟨A4, c4, rfl, hA4, hb4⟩
    have HB4 := Lib.hid (below_then HB3.out hb4.out)
    go_wp2_with fail
    refine (equal_calls A3 A4 c3 c4 r r w4 (hA3.out.below hb4.out) hA4.out).mono ?_
    rintro e w5 ⟨rfl, rfl⟩
    rw [decide_eq_true rfl]
    go_wp2
    go_ret
    exact ⟨rfl, HB4.out⟩
  · have hR : decide (∀ t ∈ [(A1, dict.length, c1), (A2, b.length, c2)], t.2.1 ≤ 400) = false := by simp; omega
    have HR := Lib.hid hR
    clear hR hs
    go_enter Try.func10, Try.ntmps10
    go_wp2_with fail
    refine (small_lit [(A1, dict.length, c1), (A2, b.length, c2)] w false (by simp) HR.out).mono ?_
    rintro e w1 ⟨rfl, hb1⟩
    go_wp2_with fail
    refine (awake6_calls w1).mono ?_
    rintro e w2 ⟨rfl, hb2⟩
    have HB2 := Lib.hid (below_then hb1.out hb2)
    clear hb1 hb2
    go_wp2
    go_ret
    exact ⟨rfl, HB2.out⟩
end Go.Proofs.Ytfdkhopionknaaa
