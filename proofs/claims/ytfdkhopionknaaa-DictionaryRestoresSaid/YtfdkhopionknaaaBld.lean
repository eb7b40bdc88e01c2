/- []Sector{s}: a slice literal of one sector. -/
import Derived.Test.YtfdkhopionknaaaRep
namespace Go.Proofs.Ytfdkhopionknaaa
open Go.RowKit
set_option linter.unusedVariables false

theorem run_buildSlice_sec (w : World) (s : Sec) : (Instr.buildSlice 22 1 #[(0, secV s)]).run Try.prog w = .ok (.slice (some ⟨w.heap.size, 0, none⟩) 1 1) (w.alloc (.cells s.cells.toArray 38)) := by
  obtain ⟨i, hi, hz, hs, hb⟩ := info_parts inf38
  have hfill : Instr.fill (fun i => some (i * 8, 8)) ((Array.range (1 * 8)).map ((secV Sec.zero).cells[· % (secV Sec.zero).cells.size]!)) [(0, secV s)] = some s.cells.toArray := by
    have hm : (Array.range (1 * 8)).map ((secV Sec.zero).cells[· % (secV Sec.zero).cells.size]!) = Sec.zero.cells.toArray := Array.ext' (madeZero 1)
    rw [hm]
    have hv : (secV s).cells = s.cells.toArray := rfl
    have hz8 : s.cells.toArray.size = 8 := rfl
    simp only [Instr.fill, hv, hz8, Nat.zero_mul, Nat.zero_add]
    obtain ⟨s0, s1, s2, s3, s4, s5, s6, s7⟩ := s
    simp [Sec.cells, Sec.bytes, Sec.zero]
  rw [Nat.one_mul] at hfill
  have h1 : (sizeOf 38).run Try.prog w = .ok 8 w := size38 w
  have h2 : (zeroValue 38).run Try.prog w = .ok (secV Sec.zero) w := by simp [zeroValue, typeInfo, hi, hz]
  unfold Instr.buildSlice
  simp only [Sem.run_bind, run_underlying Try.underlying22, Result.andThen_ok, h1, Nat.one_mul]
  rw [if_neg (by decide), if_neg (by decide)]
  simp only [Sem.run_bind, Result.andThen_ok, h2, Sem.run_pure, hfill]
  simp [newRow]
/-- As a rule for the walk. -/
theorem run_build_sec (w : World) (ev : Operand → Value) (d : Option Tmp) (x : Operand) (ty : TypeId) (pos : String) (af : Array Edge) (g : Option (Nat × Bool)) (h : IsSec (ev x)) :
    (execOp ev ⟨d, .buildSlice 22 1 #[(0, x)], ty, pos, af, g⟩).run Try.prog w = .ok (.value (.slice (some ⟨w.heap.size, 0, none⟩) 1 1)) (w.alloc (.cells (unSec (ev x)).cells.toArray 38)) := by
  obtain ⟨s, hs⟩ := h
  rw [hs, unSec_secV]
  have := run_buildSlice_sec w s
  simp [execOp, hs, this]
end Go.Proofs.Ytfdkhopionknaaa
