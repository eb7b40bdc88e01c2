/- A region that draws its order, with a call, within a round of a range over a function. -/
import Derived.Test.YtcalfnncjkaekaaFn
namespace Go.Proofs.Ytcalfnncjkaekaa
open Go.RowKit
set_option linter.unusedVariables false
set_option linter.unusedSimpArgs false

theorem opIn_of_wp {l n : Nat} {P : Program} {o : Oper} {a : Act} {w : World} {K : Act → World → Prop} {Q : Exit → Act → World → Prop} (hn : 1 ≤ n) (hd : ∀ c, o.op ≠ .defer c) (h : o.wp P a w K Q) : o.wpIn (Fence.wide.inRound l) n P a w K Q := by
  refine ⟨about_none (.inr ⟨l, rfl⟩), ?_⟩
  rw [Oper.semAt_plain (Fence.wide.inRound l) a.eval o hd]
  unfold Oper.wp at h
  generalize (execOp a.eval o).run P w = r at h ⊢
  cases r with
  | ok x w' =>
    cases x <;> simp only [Oper.upon, Oper.uponIn] at h ⊢
    case value => exact h
    case skip => exact h
    case defer => exact h
    case enter => exact ⟨fun _ => hn, CallsIn.inRound l (callsIn_wide.2 h)⟩
    case row => exact ⟨fun _ => hn, fun c cs _ => let ⟨v, w'', r, s⟩ := h c cs; ⟨v, w'', r, stepsIn_wide.2 s⟩⟩
  | halt x w' => cases x <;> simp only [Oper.upon, Oper.uponIn] at h ⊢ <;> exact h
theorem wpOpIn_of_wpOp {l n : Nat} {P : Program} {ops : Array Oper} {i : Nat} {a : Act} {w : World} {K K' : Act → World → Prop} {Q : Exit → Act → World → Prop} (hn : 1 ≤ n) (hd : ∀ (j : Nat) (o : Oper), ops[j]? = some o → ∀ c, o.op ≠ .defer c) (hO : ¬ LetsOut Q) (hk : ∀ a w, K a w → K' a w) (h : wpOp P ops Q i K a w) : wpOpIn (Fence.wide.inRound l) n P ops Q i K' a w := by
  unfold wpOp at h
  unfold wpOpIn
  cases ho : ops[i]? with
  | none => simp only [ho] at h ⊢; exact hk _ _ h
  | some o =>
    simp only [ho] at h ⊢
    by_cases hw : Region.wanted o (yielded ops a.tmps) = true
    · simp only [hw, if_true] at h ⊢
      rcases h with h | ⟨_, h⟩
      · exact opIn_of_wp hn (hd i o ho) (Oper.wp_mono hk h)
      · exact absurd h hO
    · simp only [hw] at h ⊢
      exact ⟨about_none (.inr ⟨l, rfl⟩), hk _ _ h⟩
theorem anyIn_of_wpAny {l n : Nat} {P : Program} {md : Region.Mode} {ops : Array Oper} {Q : Exit → Act → World → Prop} (hn : 1 ≤ n) (hd : ∀ (j : Nat) (o : Oper), ops[j]? = some o → ∀ c, o.op ≠ .defer c) (hO : ¬ LetsOut Q) :
    ∀ (fuel : Nat) (listed : Array Bool) (a : Act) (w : World), wpAny P md ops Q fuel listed a w → wpAnyIn (Fence.wide.inRound l) n P md ops Q fuel listed a w
  | 0, _, _, _, h => h
  | fuel + 1, _, _, _, h => ⟨h.1, fun i hi => wpOpIn_of_wpOp hn hd hO (fun a' w' h' => anyIn_of_wpAny hn hd hO fuel _ a' w' h') (h.2 i hi)⟩
def noDefer (ops : Array Oper) : Bool := ops.all fun o => match o.op with | .defer _ => false | _ => true
theorem noDefer_spec {ops : Array Oper} (h : noDefer ops = true) (j : Nat) (o : Oper) (ho : ops[j]? = some o) (c : _) : o.op ≠ .defer c := by
  intro e
  unfold noDefer at h
  rw [Array.all_eq_true] at h
  obtain ⟨hj, rfl⟩ := Array.getElem?_eq_some_iff.1 ho
  have := h j hj
  rw [e] at this
  cases this
/-- The region's law within a round: only its ordinary end is told. -/
def Norm (R : Act → World → Prop) : Exit → Act → World → Prop := fun e a w => e = .normal ∧ R a w
theorem Norm.panic {R : Act → World → Prop} {d : Option Tmp} {v : Value} : ∀ (c : List PanicEntry) (a : Act) (w : World), Norm R (.panic c) (a.put d v) w → Norm R (.panic c) a w := fun c a w h => by cases h.1
theorem region_round {l n id : Nat} {P : Program} {ops : Array Oper} {Q : Exit → Act → World → Prop} {a : Act} {w : World} (S : World → Prop) (hm : P.follows .mixedOrders = true) (hn : 1 ≤ n) (hd : noDefer ops = true) (hS : S w.drew)
    (h : S w.drew → wpAnyH P .any ops (Norm (Q .normal)) S ops.size (Array.replicate ops.size false) a w.drew) : (Code.region id ops true).wpIn (Fence.wide.inRound l) n P Q a w := by
  refine wpIn_mono (Q := Norm (Q .normal)) (wpIn_region_any hm (anyIn_of_wpAny hn (fun j o ho => noDefer_spec hd j o ho) ?_ _ _ _ _ (wpAny_of_held _ _ _ _ (h hS)))) ?_
  · rintro ⟨a, w, h, _⟩; cases h
  · rintro e a w ⟨rfl, h⟩; exact h
end Go.Proofs.Ytcalfnncjkaekaa
