/- DictionaryTokens: for every input the law hands back true, and its arguments read as they did. -/
import Derived.Test.YtfdkhopionknaaaDicL6
import Derived.Test.YtfdkhopionknaaaOpen
namespace Go.Proofs.Ytfdkhopionknaaa
open Go.ChangeShapes Go.WideShapes Go.ChangeAt Go.RowKit
set_option linter.unusedVariables false

theorem und3r : Try.prog.underlying 3 = some (.int .i64) := by kernel_rfl
set_option maxRecDepth 100000 in
theorem dtokens_lifted (os : Os) (started : os.Started) (H : Type) (enc : TypeId × Value → H) :
    ReturnsInHanded {} Try.checked os 15 .any (Rows.dictionaryTokensSpec.pre6 enc Try.prog Try.f15 Rows.dictionaryTokensRow.domain false) (Rows.dictionaryTokensSpec.post enc Try.prog Try.f15 false true false false) := by
  refine returnsInHanded_of_change (C := Try.checked) Try.own started (by kernel_rfl) Try.func15
    (ChangeSpec.witness6 (enc := enc) (C := Try.checked) false ⟨#[], #[.slice none 0 0, .slice none 0 0, .slice none 0 0], []⟩ 8 (by kernel_rfl) (by kernel_rfl) (by kernel_rfl) (by kernel_rfl)) ?_
  intro W base args ds gs before hval0 hW hcnd _
  have hval : ∀ (j : Nat) t v, Try.f15.params[j]? = some t → args[j]? = some v → Value.okWide Try.prog W .any base t v := hval0
  have hW' := hW
  obtain ⟨p, q, hA0, hV, rfl, hfz, hnd⟩ := hW
  have hA : DataW.TrodAll enc Try.prog W 0 (fun _ => true) true Try.f15.params.toList args.toList ds p := hA0
  rw [Try.params15] at hA hval
  obtain ⟨v0, v1, v2, d0, d1, d2, p0, p1, p2, rfl, rfl, rfl, h0, h1, h2⟩ := trodAll_three hA
  obtain ⟨rfl, rfl⟩ := trodVars_none hV
  obtain ⟨A0, c0, b0, rfl, hy0⟩ := open_bytes (hval 0 24 v0 rfl rfl) h0
  obtain ⟨A1, c1, b1, rfl, hy1⟩ := open_bytes (hval 1 24 v1 rfl rfl) h1
  obtain ⟨A2, c2, b2, rfl, hy2⟩ := open_bytes (hval 2 24 v2 rfl rfl) h2
  clear hA0 hval0
  simp only [List.append_nil] at hW'
  have hlt : ∀ x ∈ p0 ++ p1 ++ p2, x.block < W.heap.size := fun x hx => by simpa using hW'.lt x (by simpa using hx)
  refine (dtokens_calls A0 A1 A2 c0 c1 c2 b0 b1 b2 W hy0 hy1 hy2).mono fun e W' ⟨he, hb⟩ => ?_
  subst he
  refine ⟨_, rfl, _, _, _, [], p0 ++ p1 ++ p2, [], hW', ?_, ?_, rfl, hb.frame _, fun h => by cases h⟩
  · exact trodAll_mk1 (shut_bool Try.underlying4 true)
  · have g0 : DataW.Trod enc Try.prog W' 0 (fun b => decide (b < W.heap.size)) true 24 (.slice A0 b0.length c0) d0 p0 :=
      Below.trod Try.laidOut (by kernel_rfl) (of_decide_eq_true (by kernel_rfl)) h0 hb (fun x hx => hlt x (by simp [hx]))
    have g1 : DataW.Trod enc Try.prog W' 0 (fun b => decide (b < W.heap.size)) true 24 (.slice A1 b1.length c1) d1 p1 :=
      Below.trod Try.laidOut (by kernel_rfl) (of_decide_eq_true (by kernel_rfl)) h1 hb (fun x hx => hlt x (by simp [hx]))
    have g2 : DataW.Trod enc Try.prog W' 0 (fun b => decide (b < W.heap.size)) true 24 (.slice A2 b2.length c2) d2 p2 :=
      Below.trod Try.laidOut (by kernel_rfl) (of_decide_eq_true (by kernel_rfl)) h2 hb (fun x hx => hlt x (by simp [hx]))
    have := trodAll_mk3 g0 g1 g2
    first | exact this | (simp only [List.append_nil] at this; exact this) | (simp only [List.append_nil, ← List.append_assoc] at this; exact this)

theorem dtokens_holds : Rows.DictionaryTokensSaid :=
  OpenClaim.holds_of_wide 15 Try.f15 rfl rfl rfl rfl rfl rfl rfl ⟨rfl, rfl, rfl, rfl, rfl⟩ rfl rfl rfl rfl rfl (by kernel_rfl) Try.func15 (by kernel_rfl)
    (of_decide_eq_true (by kernel_rfl)) (by unfold Func.isWrapper; first | (rw [if_pos (by decide +kernel)]; kernel_rfl) | (rw [if_neg (by decide +kernel)]; exact ⟨rfl, rfl⟩))
    (fun os started H enc _ => dtokens_lifted os started H enc)

end Go.Proofs.Ytfdkhopionknaaa
