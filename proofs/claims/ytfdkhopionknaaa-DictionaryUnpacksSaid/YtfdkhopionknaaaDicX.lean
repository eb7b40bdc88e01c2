/- Layer 6: an array of three slices. -/
import Derived.Test.YtfdkhopionknaaaDicE
namespace Go.Proofs.Ytfdkhopionknaaa
open Go.RowKit
set_option linter.unusedVariables false
set_option linter.unusedSimpArgs false
theorem inf24s : (Try.prog.info? 24).map (·.size) = some 1 := by kernel_rfl
theorem size24 (w : World) : (sizeOf 24).run Try.prog w = .ok 1 w := by
  have := inf24s
  cases h : Try.prog.info? 24 with
  | none => simp [h] at this
  | some i =>
    have h4 : i.size = 1 := by simpa [h] using this
    simp [sizeOf, typeInfo, h, h4]
def Oper.isIndex (o : Oper) (t : TypeId) : Bool := match o.op with | .index t' _ _ => t == t' | .indexAddr t' _ _ => t == t' | _ => false
theorem Stop.index {P : Program} {ops : Array Oper} {Q : Exit → Act → World → Prop} {o : Oper} {rest : List Oper} {a : Act} {w : World} (t : TypeId) (_h : Oper.isIndex o t = true) (g : Stop (wpList P ops Q (o :: rest) a w)) : wpList P ops Q (o :: rest) a w := g
theorem step_val {P : Program} {ops : Array Oper} {rest : List Oper} {o : Oper} {a : Act} {w w' : World} {Q : Exit → Act → World → Prop} {v : Value} (hgd : o.guard = none) (hrun : (execOp a.eval o).run P w = .ok (.value v) w')
    (h : wpList P ops Q rest (a.put o.dst v) w') : wpList P ops Q (o :: rest) a w := by
  refine wpList_plain hgd fun K hK => ?_
  unfold Oper.wp
  rw [hrun]
  exact hK _ _ h
theorem run_index98 {w : World} {ev : Operand → Value} {o : Oper} {x y : Operand} {A0 A1 A2 : Option Addr} {n0 n1 n2 c0 c1 c2 : Nat} {v : Value} (k : Nat) (ho : o.op = .index 98 x y) (hx : ev x = .agg #[.slice A0 n0 c0, .slice A1 n1 c1, .slice A2 n2 c2]) (hy : ev y = .int .i64 (k : Int))
    (hv : [Value.slice A0 n0 c0, .slice A1 n1 c1, .slice A2 n2 c2][k]? = some v) : (execOp ev o).run Try.prog w = .ok (.value v) w := by
  unfold execOp
  simp only [ho, hx, hy]
  have h3 : k < 3 := (List.getElem?_eq_some_iff.1 hv).1
  have : (Instr.index 98 (.agg #[.slice A0 n0 c0, .slice A1 n1 c1, .slice A2 n2 c2]) (.int .i64 (k : Int))).run Try.prog w = .ok v w := by
    match k, h3 with
    | 0, _ => simp at hv; subst hv; simp [Instr.index, asIntOf, run_underlying Try.underlying98, size24, part, agg24, Result.andThen]
    | 1, _ => simp at hv; subst hv; simp [Instr.index, asIntOf, run_underlying Try.underlying98, size24, part, agg24, Result.andThen]
    | 2, _ => simp at hv; subst hv; simp [Instr.index, asIntOf, run_underlying Try.underlying98, size24, part, agg24, Result.andThen]
  simp [this]
theorem run_iaddr98 {w : World} {ev : Operand → Value} {o : Oper} {x y : Operand} {g : Nat} (k : Nat) (ho : o.op = .indexAddr 98 x y) (hx : ev x = .pointer (some ⟨g, 0, none⟩)) (hy : ev y = .int .i64 (k : Int)) (h3 : k < 3) :
    (execOp ev o).run Try.prog w = .ok (.value (.pointer (some ⟨g, k, none⟩))) w := by
  unfold execOp
  simp only [ho, hx, hy]
  have : (Instr.indexAt 98 (.pointer (some ⟨g, 0, none⟩)) (.int .i64 (k : Int))).run Try.prog w = .ok (.pointer (some ⟨g, k, none⟩)) w := by
    simp [Instr.indexAt, asIntOf, run_underlying Try.underlying98, size24, Instr.sureAddr, Result.andThen, h3, Addr.add_lit]
  simp [this]
end Go.Proofs.Ytfdkhopionknaaa
