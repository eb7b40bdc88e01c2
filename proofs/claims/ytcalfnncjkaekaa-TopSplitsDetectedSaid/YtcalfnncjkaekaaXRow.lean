/- TopSplitsDetected: for every input the law hands back true, and its arguments read as they did. -/
import Derived.Test.YtcalfnncjkaekaaRows
import Derived.Test.YtcalfnncjkaekaaX
import Derived.ProofKit
import Derived.Deep.Slices
import Derived.OpenShut
import Derived.Carry
namespace Go.Proofs.Ytcalfnncjkaekaa
open Go.ChangeShapes Go.WideShapes Go.ChangeAt Go.RowKit
set_option linter.unusedVariables false

theorem Try.own : ownKnob Try.prog.godebug = none := by kernel_rfl
theorem Try.laidOut : laidOutB Try.prog = true := by kernel_rfl
theorem und5r : Try.prog.underlying 5 = some (.int .u8) := by kernel_rfl
theorem und22r : Try.prog.underlying 22 = some (.array 2 5) := by kernel_rfl
theorem cells22r : Try.prog.cellsOf 22 = 2 := by kernel_rfl
theorem types22r : Try.prog.cellTypes Try.prog.depth 22 = some [5, 5] := by kernel_rfl
theorem cell_u8 {W : World} {r : Reach} {base : Nat} {v : Value} (h : Cell.okWide Try.prog W r base 5 v) : ∃ n : Nat, v = .int .u8 n ∧ n < 256 := by
  unfold Cell.okWide at h
  rw [und5r] at h
  have h' : Cell.ok Try.prog W r base 5 v := by
    cases v <;> exact h
  unfold Cell.ok at h'
  rw [und5r] at h'
  cases v with
  | int k n =>
    obtain ⟨rfl, h1⟩ := h'
    have hr : 0 ≤ n ∧ n < 256 := by
      simp [IntKind.has, IntKind.min, IntKind.max, IntKind.bits, IntKind.signed] at h1
      omega
    exact ⟨n.toNat, by rw [Int.toNat_of_nonneg hr.1], by omega⟩
  | _ => exact h'.elim
theorem open_u8 {W : World} {r : Reach} {base : Nat} {v : Value} (h : Value.okWide Try.prog W r base 5 v) : ∃ n : Nat, v = .int .u8 n ∧ n < 256 := by
  unfold Value.okWide at h
  rw [und5r] at h
  exact cell_u8 h
theorem open_two {W : World} {r : Reach} {base : Nat} {v : Value} (h : Value.okWide Try.prog W r base 22 v) : ∃ p q : Nat, v = .agg #[.int .u8 p, .int .u8 q] ∧ p < 256 ∧ q < 256 := by
  unfold Value.okWide at h
  rw [und22r] at h
  obtain ⟨cs, rfl, hsz, ts, hts, _, hall⟩ := h
  rw [cells22r] at hsz
  rw [types22r] at hts
  cases hts
  obtain ⟨l⟩ := cs
  match l, hsz with
  | [a, b], _ =>
    obtain ⟨u, hu, hc⟩ := hall 0 a rfl
    cases hu
    obtain ⟨p, rfl, hp⟩ := cell_u8 hc
    obtain ⟨u, hu, hc⟩ := hall 1 b rfl
    cases hu
    obtain ⟨q, rfl, hq⟩ := cell_u8 hc
    exact ⟨p, q, rfl, hp, hq⟩

set_option maxRecDepth 100000 in
theorem splits_lifted (os : Os) (started : os.Started) (H : Type) (enc : TypeId × Value → H) :
    ReturnsInHanded {} Try.checked os 3 .any (Rows.topSplitsDetectedSpec.pre6 enc Try.prog Try.f3 Rows.topSplitsDetectedRow.domain false) (Rows.topSplitsDetectedSpec.post enc Try.prog Try.f3 false true false false) := by
  refine returnsInHanded_of_change (C := Try.checked) Try.own started (by kernel_rfl) Try.func3
    (ChangeSpec.witness6 (enc := enc) (C := Try.checked) false ⟨#[], #[.int .u8 0, .int .u8 0, .agg #[.int .u8 0, .int .u8 0]], []⟩ 8 (by kernel_rfl) (by kernel_rfl) (by kernel_rfl) (by kernel_rfl)) ?_
  intro W base args ds gs before hval0 hW hcnd _
  have hval : ∀ (j : Nat) t v, Try.f3.params[j]? = some t → args[j]? = some v → Value.okWide Try.prog W .any base t v := hval0
  have hW' := hW
  obtain ⟨p, q, hA0, hV, rfl, hfz, hnd⟩ := hW
  have hA : DataW.TrodAll enc Try.prog W 0 (fun _ => true) true Try.f3.params.toList args.toList ds p := hA0
  rw [Try.params3] at hA hval
  obtain ⟨v0, v1, v2, d0, d1, d2, p0, p1, p2, rfl, rfl, rfl, h0, h1, h2⟩ := trodAll_three hA
  obtain ⟨rfl, rfl⟩ := trodVars_none hV
  obtain ⟨x, rfl, hx⟩ := open_u8 (hval 0 5 v0 rfl rfl)
  obtain ⟨y, rfl, hy⟩ := open_u8 (hval 1 5 v1 rfl rfl)
  obtain ⟨a, b, rfl, ha, hb⟩ := open_two (hval 2 22 v2 rfl rfl)
  clear hA0 hval0
  simp only [List.append_nil] at hW'
  have hlt : ∀ x ∈ p0 ++ p1 ++ p2, x.block < W.heap.size := fun x hx => by simpa using hW'.lt x (by simpa using hx)
  refine (splits3 x y a b W hx hy ha hb).mono fun e W' ⟨he, hbl⟩ => ?_
  subst he
  refine ⟨_, rfl, _, _, _, [], p0 ++ p1 ++ p2, [], hW', ?_, ?_, rfl, hbl.frame _, fun h => by cases h⟩
  · exact trodAll_mk1 (shut_bool Try.underlying4 true)
  · have g0 : DataW.Trod enc Try.prog W' 0 (fun b => decide (b < W.heap.size)) true 5 (.int .u8 x) d0 p0 :=
      Below.trod Try.laidOut (by kernel_rfl) (of_decide_eq_true (by kernel_rfl)) h0 hbl (fun x hx => hlt x (by simp [hx]))
    have g1 : DataW.Trod enc Try.prog W' 0 (fun b => decide (b < W.heap.size)) true 5 (.int .u8 y) d1 p1 :=
      Below.trod Try.laidOut (by kernel_rfl) (of_decide_eq_true (by kernel_rfl)) h1 hbl (fun x hx => hlt x (by simp [hx]))
    have g2 : DataW.Trod enc Try.prog W' 0 (fun b => decide (b < W.heap.size)) true 22 (.agg #[.int .u8 a, .int .u8 b]) d2 p2 :=
      Below.trod Try.laidOut (by kernel_rfl) (of_decide_eq_true (by kernel_rfl)) h2 hbl (fun x hx => hlt x (by simp [hx]))
    have := trodAll_mk3 g0 g1 g2
    first | exact this | (simp only [List.append_nil, ← List.append_assoc] at this; exact this)

theorem splits_holds : Rows.TopSplitsDetectedSaid :=
  OpenClaim.holds_of_wide 3 Try.f3 rfl rfl rfl rfl rfl rfl rfl ⟨rfl, rfl, rfl, rfl, rfl⟩ rfl rfl rfl rfl rfl (by kernel_rfl) Try.func3 (by kernel_rfl)
    (of_decide_eq_true (by kernel_rfl)) (by unfold Func.isWrapper; first | (rw [if_pos (by decide +kernel)]; kernel_rfl) | (rw [if_neg (by decide +kernel)]; exact ⟨rfl, rfl⟩))
    (fun os started H enc _ => splits_lifted os started H enc)
#print axioms splits_holds
end Go.Proofs.Ytcalfnncjkaekaa
