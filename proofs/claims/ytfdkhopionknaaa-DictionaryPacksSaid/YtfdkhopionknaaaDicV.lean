/- Layer 6, the reference: Raw (62), Pack (36). -/
import Derived.Test.YtfdkhopionknaaaDicT
import Derived.Test.YtfdkhopionknaaaDicG
import Derived.Test.YtfdkhopionknaaaEncR
namespace Go.Proofs.Ytfdkhopionknaaa
open Go.RowKit
set_option linter.unusedVariables false
set_option linter.unusedSimpArgs false

set_option maxRecDepth 20000 in
set_option maxHeartbeats 2000000 in
theorem Raw_calls (A : Option Addr) (c : Nat) (xs : List Sec) (w : World) (h : Secs w A c xs) (hl : xs.length ≤ 65536) :
    Calls Try.prog 62 #[.slice A xs.length c] w (Fresh w (flat xs)) := by
  go_enter Try.func62, Try.ntmps62
  go_wp2
  go_loopw [4, 3] (fun i v wr => ∃ (k : Nat) (T : Option Addr) (tc : Nat) (out : List UInt8), i = .int .i64 k ∧ v = .slice T out.length tc ∧ k ≤ xs.length ∧ out.length ≤ 8 * k ∧ Hid (out = flat (xs.take k)) ∧ Hid (Own wr w.heap.size 5 1 (.slice T out.length tc) out.length (out.map B)) ∧ Hid (Below w.heap.size w wr)) (fun i v wr => xs.length - (intOf i).toNat)
  case atStart => exact ⟨0, none, 0, [], rfl, rfl, Nat.zero_le _, Nat.le_refl _, rfl, Own.nil _ _ _ _, Below.refl _ _⟩
  case round =>
    obtain ⟨k, T, tc, out, rfl, rfl, hk, hk1, hout, hown, hb⟩ := hrel
    by_cases hlt : k < xs.length
    · have d1 : (k : Int) < (xs.length : Int) := by omega
      obtain ⟨s, hs⟩ : ∃ s, xs[k]? = some s := ⟨_, List.getElem?_eq_getElem hlt⟩
      obtain ⟨a, rfl⟩ := h.some_of hlt
      have hat := (h.below hb.out).at hs
      have HSN := Lib.hid (flat_snoc hs)
      obtain ⟨ak, hak⟩ : ∃ x, a.add (k * 8) = x := ⟨_, rfl⟩
      have hsl : ∀ w', (Instr.sliceAt 38 (.pointer (some (a.add (k * 8)))) none none none).run Try.prog w' = .ok (.slice (some (a.add (k * 8))) 8 8) w' := fun w' => by
        have h5 : (sizeOf 5).run Try.prog w' = .ok 1 w' := E24.run_size w'
        simp [Instr.sliceAt, Instr.sureAddr, run_underlying Try.underlying38, Instr.sliceBounds, h5, Addr.add_add']
      have hrd : Rd wr (some (a.add (k * 8))) 8 8 (s.bytes.map B) := ⟨Nat.le_refl _, by decide, (fun e => by cases e), fun b hb j u hj => by
        cases hb
        exact hat j u hj⟩
      have HRD := Lib.hid hrd
      have hsz6 : w.heap.size ≤ wr.heap.size := hb.out.size
      clear hs hat hrd hak
      go_wp2_with (at_builtin; refine Stop.at ?_)
      refine Stop.go ?_
      refine step_append E24 rfl (.tmp 11) (.tmp 15) rfl w.heap.size rfl hown.out rfl HRD.out rfl (oneCell_B _) (by omega) (by decide) hsz6 ?_
      intro v7 w7 ho7 hg7
      obtain ⟨T7, tc7, rfl⟩ := own_slice ho7
      obtain ⟨out7, hout7⟩ : ∃ y, y = out ++ s.bytes := ⟨_, rfl⟩
      have hl7 : out7.length = out.length + 8 := by rw [hout7, List.length_append]; rfl
      rw [← List.map_append, ← hout7, ← hl7] at ho7
      have HS7 := Lib.hid (show out7 = flat (xs.take (k + 1)) by rw [hout7, hout.out, HSN.out])
      have HB7 := Lib.hid (hb.out.trans (hg7.below hown.out hsz6))
      have HO7 := Lib.hid ho7
      have hk7 : out7.length ≤ 8 * (k + 1) := by omega
      rw [← hl7]
      clear hg7 ho7 hout7 hl7 hsl
      go_wp2
      exact ⟨⟨k + 1, T7, tc7, out7, rfl, rfl, by omega, hk7, HS7, HO7, HB7⟩, by simp [intOf]; omega⟩
    · have d1 : ¬ (k : Int) < (xs.length : Int) := by omega
      have HX := Lib.hid (show out = flat xs by rw [hout.out, List.take_of_length_le (by omega)])
      go_wp2
      go_ret
      refine ⟨_, rfl, ?_, hb.out⟩
      rw [← HX.out]
      exact hown.out
/-- []byte{k}, ahead of a call. -/
theorem own_one_then {w w' : World} {b : UInt8} {base : Nat} (hb : base ≤ w.heap.size) (h : Below (w.alloc (.cells #[B b] 5)).heap.size (w.alloc (.cells #[B b] 5)) w') : Own w' base 5 1 (.slice (some ⟨w.heap.size, 0, none⟩) 1 1) 1 ([b].map B) := (own_one w b hb).below h

set_option maxRecDepth 20000 in
set_option maxHeartbeats 8000000 in
theorem refPack_calls (A1 A2 : Option Addr) (c1 c2 : Nat) (dict : List UInt8) (xs : List Sec) (w : World) (h1 : Bytes w A1 c1 dict) (h2 : Secs w A2 c2 xs) (hd : dict.length ≤ 10000) (hx : xs.length ≤ 1000) :
    Calls Try.prog 36 #[.slice A1 dict.length c1, .slice A2 xs.length c2] w (Fresh w (packD dict xs)) := by
  have H1 := Lib.hid h1
  have H2 := Lib.hid h2
  have hfl : (flat xs).length ≤ 8000 := by rw [flat_length]; omega
  have hel := encode_len xs
  obtain ⟨f0, hf0⟩ : ∃ y, y = flat xs := ⟨_, rfl⟩
  obtain ⟨f1, hf1⟩ : ∃ y, y = encode xs := ⟨_, rfl⟩
  obtain ⟨f2, hf2⟩ : ∃ y, y = encodeD dict f0 := ⟨_, rfl⟩
  have hf2l : f2.length ≤ 16000 := by
    have := encD_len (dict ++ f0) dict.length [] (by simp)
    rw [hf2]
    unfold encodeD
    simp only [List.length_nil, List.length_append] at this
    rw [hf0] at this ⊢
    omega
  have HF0 := Lib.hid hf0.symm
  have HF1 := Lib.hid hf1.symm
  have HF2 := Lib.hid (show encodeD dict f0 = f2 from hf2.symm)
  rw [← hf0] at hfl
  rw [← hf1] at hel
  clear h1 h2 hf0 hf1 hf2
  have hb0 : Below w.heap.size w (w.alloc (.cells #[B 0] 5)) := (Below.refl _ _).alloc (Nat.le_refl _) _
  go_enter Try.func36, Try.ntmps36
  go_wp2_with fail
  refine (Raw_calls A2 c2 xs (w.alloc (.cells #[B 0] 5)) (H2.out.below hb0) (by omega)).mono ?_
  rw [HF0.out]
  intro e w1 hfr
  obtain ⟨X0, x0, rfl, ho1, hb1⟩ := Fresh_own hfr
  have HY1 := Lib.hid (own_bytes ho1)
  have HB1 := Lib.hid (hb0.trans (hb1.mono hb0.size))
  have HE1 := Lib.hid (own_one_then (base := w.heap.size) (Nat.le_refl _) hb1)
  clear hfr ho1 hb1 hb0
  go_wp2_with (at_builtin; refine Stop.at ?_)
  refine Stop.go ?_
  refine step_append E24 rfl (.tmp 8) (.tmp 10) rfl w.heap.size (n := 1) (xs := [0].map B) rfl HE1.out rfl HY1.out (by simp) (oneCell_B _) (by omega) (by decide) HB1.out.size ?_
  intro v2 w2 ho2 hg2
  obtain ⟨T2, tc2, rfl⟩ := own_slice ho2
  have HO2 := Lib.hid (show Own w2 w.heap.size 5 1 (.slice T2 (1 + f0.length) tc2) (1 + f0.length) ((0 :: f0).map B) from ho2)
  have HB2 := Lib.hid (HB1.out.trans (hg2.below HE1.out HB1.out.size))
  clear ho2 hg2
  go_wp2_with fail
  refine (refEncode_calls A2 c2 xs w2 (H2.out.below HB2.out) (by omega)).mono ?_
  rw [HF1.out]
  intro e w3 hfr
  obtain ⟨X1, x1, rfl, ho3, hb3⟩ := Fresh_own hfr
  have HY3 := Lib.hid (own_bytes ho3)
  have HB3 := Lib.hid (HB2.out.trans (hb3.mono HB2.out.size))
  have HO3 := Lib.hid (HO2.out.below hb3)
  clear hfr ho3 hb3
  have vv1 : IntKind.i64.wrap ((f1.length : Int) + 1) = (f1.length : Int) + 1 := by rw [IntKind.wrap_i64]; omega
  by_cases q : f1.length < f0.length
  · have g1 : (f1.length : Int) + 1 < ((1 + f0.length : Nat) : Int) := by omega
    have g1' : (f1.length : Int) + 1 < 1 + (f0.length : Int) := by omega
    go_wp2_with (at_builtin; refine Stop.at ?_)
    refine Stop.go ?_
    have hba4 : Below w3.heap.size w3 (w3.alloc (.cells #[B 1] 5)) := (Below.refl _ _).alloc (Nat.le_refl _) _
    refine step_append E24 rfl (.tmp 20) (.tmp 21) rfl w.heap.size (n := 1) (xs := [1].map B) rfl (own_one w3 1 HB3.out.size) rfl (show Rd _ X1 f1.length x1 (f1.map B) from HY3.out.below hba4) (by simp) (oneCell_B _) (by omega) (by decide) (Nat.le_trans HB3.out.size hba4.size) ?_
    intro v4 w4 ho4 hg4
    obtain ⟨T4, tc4, rfl⟩ := own_slice ho4
    have HO4 := Lib.hid (show Own w4 w.heap.size 5 1 (.slice T4 (1 + f1.length) tc4) (1 + f1.length) ((1 :: f1).map B) from ho4)
    have HB4 := Lib.hid ((HB3.out.trans (hba4.mono HB3.out.size)).trans (hg4.below (own_one w3 1 HB3.out.size) (Nat.le_trans HB3.out.size hba4.size)))
    have hwb4 := Lib.hid (hba4.trans (hg4.below (own_one w3 1 (Nat.le_refl _)) hba4.size))
    clear ho4 hg4 hba4
    go_wp2_with fail
    refine (Raw_calls A2 c2 xs w4 (H2.out.below HB4.out) (by omega)).mono ?_
    rw [HF0.out]
    intro e w5 hfr
    obtain ⟨X5, x5, rfl, ho5, hb5⟩ := Fresh_own hfr
    have HY5 := Lib.hid (own_bytes ho5)
    have HB5 := Lib.hid (HB4.out.trans (hb5.mono HB4.out.size))
    have HO5 := Lib.hid (HO4.out.below hb5)
    clear hfr ho5 hb5
    go_wp2_with fail
    refine (refdEncode_calls A1 X5 c1 x5 dict f0 w5 (H1.out.below HB5.out) HY5.out (by omega)).mono ?_
    rw [HF2.out]
    intro e w6 hfr
    obtain ⟨X6, x6, rfl, ho6, hb6⟩ := Fresh_own hfr
    have HY6 := Lib.hid (own_bytes ho6)
    have HB6 := Lib.hid (HB5.out.trans (hb6.mono HB5.out.size))
    have HO6 := Lib.hid (HO5.out.below hb6)
    clear hfr ho6 hb6
    have vv2 : IntKind.i64.wrap ((f2.length : Int) + 1) = (f2.length : Int) + 1 := by rw [IntKind.wrap_i64]; omega
    by_cases q2 : f2.length < f1.length
    · have g2 : (f2.length : Int) + 1 < ((1 + f1.length : Nat) : Int) := by omega
      have g2' : (f2.length : Int) + 1 < 1 + (f1.length : Int) := by omega
      go_wp2_with (at_builtin; refine Stop.at ?_)
      refine Stop.go ?_
      have hba7 : Below w6.heap.size w6 (w6.alloc (.cells #[B 2] 5)) := (Below.refl _ _).alloc (Nat.le_refl _) _
      refine step_append E24 rfl (.tmp 33) (.tmp 34) rfl w.heap.size (n := 1) (xs := [2].map B) rfl (own_one w6 2 HB6.out.size) rfl (show Rd _ X6 f2.length x6 (f2.map B) from HY6.out.below hba7) (by simp) (oneCell_B _) (by omega) (by decide) (Nat.le_trans HB6.out.size hba7.size) ?_
      intro v7 w7 ho7 hg7
      obtain ⟨T7, tc7, rfl⟩ := own_slice ho7
      have HO7 := Lib.hid (show Own w7 w.heap.size 5 1 (.slice T7 (1 + f2.length) tc7) (1 + f2.length) ((2 :: f2).map B) from ho7)
      have HB7 := Lib.hid ((HB6.out.trans (hba7.mono HB6.out.size)).trans (hg7.below (own_one w6 2 HB6.out.size) (Nat.le_trans HB6.out.size hba7.size)))
      have hwb7 := Lib.hid (hba7.trans (hg7.below (own_one w6 2 (Nat.le_refl _)) hba7.size))
      clear ho7 hg7 hba7
      have HP := Lib.hid (show packD dict xs = 2 :: f2 from by unfold packD; rw [HF0.out, HF1.out, HF2.out]; simp [q, q2])
      go_wp2
      go_ret
      rw [HP.out]
      have hl : (2 :: f2).length = 1 + f2.length := by rw [List.length_cons]; omega
      exact ⟨_, rfl, by rw [hl]; exact HO7.out, HB7.out⟩
    · have g2 : ¬ (f2.length : Int) + 1 < ((1 + f1.length : Nat) : Int) := by omega
      have g2' : ¬ (f2.length : Int) + 1 < 1 + (f1.length : Int) := by omega
      have HP := Lib.hid (show packD dict xs = 1 :: f1 from by unfold packD; rw [HF0.out, HF1.out, HF2.out]; simp [q, q2])
      go_wp2
      go_ret
      rw [HP.out]
      have hl : (1 :: f1).length = 1 + f1.length := by rw [List.length_cons]; omega
      exact ⟨_, rfl, by rw [hl]; exact HO6.out, HB6.out⟩
  · have g1 : ¬ (f1.length : Int) + 1 < ((1 + f0.length : Nat) : Int) := by omega
    have g1' : ¬ (f1.length : Int) + 1 < 1 + (f0.length : Int) := by omega
    go_wp2_with fail
    refine (Raw_calls A2 c2 xs w3 (H2.out.below HB3.out) (by omega)).mono ?_
    rw [HF0.out]
    intro e w5 hfr
    obtain ⟨X5, x5, rfl, ho5, hb5⟩ := Fresh_own hfr
    have HY5 := Lib.hid (own_bytes ho5)
    have HB5 := Lib.hid (HB3.out.trans (hb5.mono HB3.out.size))
    have HO5 := Lib.hid (HO3.out.below hb5)
    clear hfr ho5 hb5
    go_wp2_with fail
    refine (refdEncode_calls A1 X5 c1 x5 dict f0 w5 (H1.out.below HB5.out) HY5.out (by omega)).mono ?_
    rw [HF2.out]
    intro e w6 hfr
    obtain ⟨X6, x6, rfl, ho6, hb6⟩ := Fresh_own hfr
    have HY6 := Lib.hid (own_bytes ho6)
    have HB6 := Lib.hid (HB5.out.trans (hb6.mono HB5.out.size))
    have HO6 := Lib.hid (HO5.out.below hb6)
    clear hfr ho6 hb6
    have vv2 : IntKind.i64.wrap ((f2.length : Int) + 1) = (f2.length : Int) + 1 := by rw [IntKind.wrap_i64]; omega
    by_cases q2 : f2.length < f0.length
    · have g2 : (f2.length : Int) + 1 < ((1 + f0.length : Nat) : Int) := by omega
      have g2' : (f2.length : Int) + 1 < 1 + (f0.length : Int) := by omega
      go_wp2_with (at_builtin; refine Stop.at ?_)
      refine Stop.go ?_
      have hba7 : Below w6.heap.size w6 (w6.alloc (.cells #[B 2] 5)) := (Below.refl _ _).alloc (Nat.le_refl _) _
      refine step_append E24 rfl (.tmp 33) (.tmp 34) rfl w.heap.size (n := 1) (xs := [2].map B) rfl (own_one w6 2 HB6.out.size) rfl (show Rd _ X6 f2.length x6 (f2.map B) from HY6.out.below hba7) (by simp) (oneCell_B _) (by omega) (by decide) (Nat.le_trans HB6.out.size hba7.size) ?_
      intro v7 w7 ho7 hg7
      obtain ⟨T7, tc7, rfl⟩ := own_slice ho7
      have HO7 := Lib.hid (show Own w7 w.heap.size 5 1 (.slice T7 (1 + f2.length) tc7) (1 + f2.length) ((2 :: f2).map B) from ho7)
      have HB7 := Lib.hid ((HB6.out.trans (hba7.mono HB6.out.size)).trans (hg7.below (own_one w6 2 HB6.out.size) (Nat.le_trans HB6.out.size hba7.size)))
      have hwb7 := Lib.hid (hba7.trans (hg7.below (own_one w6 2 (Nat.le_refl _)) hba7.size))
      clear ho7 hg7 hba7
      have HP := Lib.hid (show packD dict xs = 2 :: f2 from by unfold packD; rw [HF0.out, HF1.out, HF2.out]; simp [q, q2])
      go_wp2
      go_ret
      rw [HP.out]
      have hl : (2 :: f2).length = 1 + f2.length := by rw [List.length_cons]; omega
      exact ⟨_, rfl, by rw [hl]; exact HO7.out, HB7.out⟩
    · have g2 : ¬ (f2.length : Int) + 1 < ((1 + f0.length : Nat) : Int) := by omega
      have g2' : ¬ (f2.length : Int) + 1 < 1 + (f0.length : Int) := by omega
      have HP := Lib.hid (show packD dict xs = 0 :: f0 from by unfold packD; rw [HF0.out, HF1.out, HF2.out]; simp [q, q2])
      go_wp2
      go_ret
      rw [HP.out]
      have hl : (0 :: f0).length = 1 + f0.length := by rw [List.length_cons]; omega
      exact ⟨_, rfl, by rw [hl]; exact HO6.out, HB6.out⟩
end Go.Proofs.Ytfdkhopionknaaa
