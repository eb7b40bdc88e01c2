/- Layer 6: small, its arguments laid just ahead. -/
import Derived.Test.YtfdkhopionknaaaDicW
namespace Go.Proofs.Ytfdkhopionknaaa
open Go.RowKit
set_option linter.unusedVariables false

/-- The arguments of small, laid just ahead. -/
theorem small_lit (ts : List (Option Addr × Nat × Nat)) (w : World) (R : Bool) (hl : ts.length ≤ 1000) (hR : decide (∀ t ∈ ts, t.2.1 ≤ 400) = R) :
    Calls Try.prog 29 #[.slice (some ⟨w.heap.size, 0, none⟩) ts.length ts.length] (w.alloc (.cells (ts.map trip).toArray 24)) fun e w' => e = .returned (.bool R) ∧ Hid (Below w.heap.size w w') := by
  refine (small_calls _ _ ts _ (rd_block (heap_alloc_new w _) (by unfold maxLen; omega)) hl).mono ?_
  rintro e w' ⟨rfl, rfl⟩
  rw [hR]
  exact ⟨rfl, (Below.refl _ _).alloc (Nat.le_refl _) _⟩
end Go.Proofs.Ytfdkhopionknaaa
