/- DictionaryKnows: the walk. -/
import Derived.Test.YtfdkhopionknaaaDicZ
import Derived.Test.YtfdkhopionknaaaDicSm
namespace Go.Proofs.Ytfdkhopionknaaa
open Go.RowKit
set_option linter.unusedVariables false
set_option linter.unusedSimpArgs false

set_option maxRecDepth 20000 in
set_option maxHeartbeats 4000000 in
theorem dknows_calls (A1 A2 : Option Addr) (c1 c2 : Nat) (dict b : List UInt8) (w : World) (h1 : Bytes w A1 c1 dict) (h2 : Bytes w A2 c2 b) :
    Calls Try.prog 14 #[.slice A1 dict.length c1, .slice A2 b.length c2] w fun e w' => e = .returned (.bool true) ∧ Below w.heap.size w w' := by
  have H1 := Lib.hid h1
  have H2 := Lib.hid h2
  clear h1 h2
  by_cases hs : dict.length ≤ 400
  · have hR : decide (∀ t ∈ [(A1, dict.length, c1)], t.2.1 ≤ 400) = true := by simp; omega
    have HR := Lib.hid hR
    clear hR
    by_cases h4 : b.length < 4
    · have d1 : (b.length : Int) < 4 := by omega
      go_enter Try.func14, Try.ntmps14
      go_wp2_with fail
      refine (small_lit [(A1, dict.length, c1)] w true (by simp) HR.out).mono ?_
      rintro e w1 ⟨rfl, hb1⟩
      go_wp2_with fail
      refine (awake6_calls w1).mono ?_
      rintro e w2 ⟨rfl, hb2⟩
      have HB2 := Lib.hid (below_then hb1.out hb2)
      clear hb1 hb2
      go_wp2
      go_ret
      exact ⟨rfl, HB2.out⟩
    · have d1 : ¬ (b.length : Int) < 4 := by omega
      have d1' : decide ((b.length : Int) < 4) = false := decide_eq_false d1
      by_cases h131 : 131 < b.length
      · have d2 : (131 : Int) < (b.length : Int) := by omega
        go_enter Try.func14, Try.ntmps14
        go_wp2_with fail
        refine (small_lit [(A1, dict.length, c1)] w true (by simp) HR.out).mono ?_
        rintro e w1 ⟨rfl, hb1⟩
        go_wp2_with fail
        refine (awake6_calls w1).mono ?_
        rintro e w2 ⟨rfl, hb2⟩
        have HB2 := Lib.hid (below_then hb1.out hb2)
        clear hb1 hb2
        go_wp2
        go_ret
        exact ⟨rfl, HB2.out⟩
      · have d2 : ¬ (131 : Int) < (b.length : Int) := by omega
        have d2' : decide ((131 : Int) < (b.length : Int)) = false := decide_eq_false d2
        obtain ⟨D, hD, hk⟩ := enc_known dict b (by omega) (by omega)
        obtain ⟨r, hr⟩ : ∃ r, r = UInt8.ofNat (124 + b.length) :: putN D := ⟨_, rfl⟩
        have hp1 := putN_pos D
        have hp3 := putN_3 D (by omega)
        have hrl : r.length = (putN D).length + 1 := by rw [hr]; rfl
        have hr2 : 2 ≤ r.length := by omega
        have hr4 : r.length ≤ 4 := by omega
        obtain ⟨K, hK⟩ : ∃ K, 124 + b.length = K := ⟨_, rfl⟩
        have hK255 : K < 256 := by omega
        have hr0 : r[0]? = some (UInt8.ofNat K) := by rw [hr, hK]; rfl
        have hKn : (UInt8.ofNat K).toNat = K := by simp; omega
        have v1 : IntKind.i64.wrap (128 + (b.length : Int)) = 128 + (b.length : Int) := by rw [IntKind.wrap_i64]; omega
        have v2 : IntKind.i64.wrap (128 + (b.length : Int) - 4) = (K : Int) := by rw [IntKind.wrap_i64]; omega
        have HRR := Lib.hid (show encodeD (dict ++ b) b = r by rw [hk, hr])
        have HR0 := Lib.hid hr0
        have HKN := Lib.hid hKn
        have g2 : (2 : Int) ≤ (r.length : Int) := by omega
        have g4 : (r.length : Int) ≤ 4 := by omega
        clear hk hr hp1 hp3 hrl hK hr0 hKn
        go_enter Try.func14, Try.ntmps14
        go_wp2_with fail
        refine (small_lit [(A1, dict.length, c1)] w true (by simp) HR.out).mono ?_
        rintro e w1 ⟨rfl, hb1⟩
        have hba : Below w1.heap.size w1 (w1.alloc (.cells #[] 5)) := (Below.refl _ _).alloc (Nat.le_refl _) _
        go_wp2_with (at_builtin; refine Stop.at ?_)
        refine Stop.go ?_
        refine step_append E24 rfl (.tmp 22) (.tmp 23) rfl w1.heap.size (n := 0) (xs := []) rfl (Own.empty w1 (Nat.le_refl _)) rfl ((H1.out.below hb1.out).below hba) (by simp) (oneCell_B _) (by omega) (by decide) hba.size ?_
        intro v2 w2 ho2 hg2
        obtain ⟨T2, tc2, rfl⟩ := own_slice ho2
        have hb2 : Below w1.heap.size w1 w2 := hba.trans (hg2.below (Own.empty w1 (Nat.le_refl _)) hba.size)
        rw [Nat.zero_add, List.nil_append] at ho2
        rw [Nat.zero_add]
        have HO2 := Lib.hid ho2
        have HB2 := Lib.hid hb2
        have hzb : (dict.length + b.length) * 1 ≤ 140737488355328 := by omega
        clear ho2 hg2 hb2 hba
        go_wp2_with (at_builtin; refine Stop.at ?_)
        refine Stop.go ?_
        refine step_append E24 rfl (.tmp 24) (.tmp 25) rfl w1.heap.size rfl HO2.out rfl ((H2.out.below hb1.out).below HB2.out) (by simp) (oneCell_B _) hzb (by decide) HB2.out.size ?_
        intro v3 w3 ho3 hg3
        obtain ⟨T3, tc3, rfl⟩ := own_slice ho3
        obtain ⟨all, hall⟩ : ∃ x, x = dict ++ b := ⟨_, rfl⟩
        have hla : all.length = dict.length + b.length := by rw [hall, List.length_append]
        rw [← List.map_append, ← hall, ← hla] at ho3
        rw [← hla] at hg3 ⊢
        have HB3 := Lib.hid (below_then hb1.out (HB2.out.trans (hg3.below HO2.out HB2.out.size)))
        have HY3 := Lib.hid (own_bytes ho3)
        have HRR2 := Lib.hid (show encodeD all b = r by rw [hall]; exact HRR.out)
        have hla2 : all.length ≤ 1000 := by omega
        clear ho3 hg3 hall hla
        go_wp2_with fail
        refine (dEnc_lit T3 A2 tc3 c2 all b r w3 HRR2.out HY3.out (H2.out.below HB3.out) (by omega)).mono ?_
        rintro e w4 ⟨A4, c4, rfl, hA4, hb4⟩
        have HB4 := Lib.hid (below_then HB3.out hb4.out)
        go_wp2_with fail
        refine (awake6_calls w4).mono ?_
        rintro e w5 ⟨rfl, hb5⟩
        have HB5 := Lib.hid (below_then HB4.out hb5)
        have HA5 := Lib.hid (hA4.out.below hb5)
        obtain ⟨a4, rfl⟩ := hA4.out.some_of (k := 0) (by omega)
        have hcell : w5.cell? a4 = some (.int .u8 K) := by
          have := HA5.out.row a4 rfl 0 (B (UInt8.ofNat K)) (by rw [List.getElem?_map, HR0.out]; rfl)
          rw [show a4.add 0 = a4 from by unfold Addr.add; simp] at this
          rw [this, B, HKN.out]
        have hlt0 : (0 : Int) < (r.length : Int) := by omega
        clear hb5 hA4
        go_wp2
        go_ret
        exact ⟨rfl, HB5.out⟩
  · have hR : decide (∀ t ∈ [(A1, dict.length, c1)], t.2.1 ≤ 400) = false := by simp; omega
    have HR := Lib.hid hR
    clear hR hs
    go_enter Try.func14, Try.ntmps14
    go_wp2_with fail
    refine (small_lit [(A1, dict.length, c1)] w false (by simp) HR.out).mono ?_
    rintro e w1 ⟨rfl, hb1⟩
    go_wp2_with fail
    refine (awake6_calls w1).mono ?_
    rintro e w2 ⟨rfl, hb2⟩
    have HB2 := Lib.hid (below_then hb1.out hb2)
    clear hb1 hb2
    go_wp2
    go_ret
    exact ⟨rfl, HB2.out⟩
end Go.Proofs.Ytfdkhopionknaaa
