/- Two sites in memory; check of sites (12); Fork (6); diverged (14). -/
import Derived.Test.YtcalfnncjkaekaaFh
namespace Go.Proofs.Ytcalfnncjkaekaa
open Go.RowKit
set_option linter.unusedVariables false
set_option linter.unusedSimpArgs false
set_option maxRecDepth 20000

/-- A block of two sites. -/
def TwoAt (w : World) (g : Nat) (s : St) (A : Option Addr) (n c : Nat) (s' : St) (A' : Option Addr) (n' c' : Nat) : Prop :=
  w.heap[g]? = some (.cells #[.int .i64 s.num, .int .i64 s.role, .int .i64 s.ep, .int .i64 s.ap, .slice A n c, .int .i64 s.src, .bool s.al, .bool s.co, .int .i64 s'.num, .int .i64 s'.role, .int .i64 s'.ep, .int .i64 s'.ap, .slice A' n' c', .int .i64 s'.src, .bool s'.al, .bool s'.co] 34 (0, 0))
theorem TwoAt.below {w w' : World} {g : Nat} {s s' : St} {A A' : Option Addr} {n c n' c' : Nat} (h : TwoAt w g s A n c s' A' n' c') (b : Below w.heap.size w w') : TwoAt w' g s A n c s' A' n' c' := (b.block g (lt_of_heap h)).trans h
theorem TwoAt.cells0 {w : World} {g : Nat} {s s' : St} {A A' : Option Addr} {n c n' c' : Nat} (h : TwoAt w g s A n c s' A' n' c') :
    w.cell? ⟨g, 0, none⟩ = some (.int .i64 s.num) ∧ w.cell? ⟨g, 1, none⟩ = some (.int .i64 s.role) ∧ w.cell? ⟨g, 2, none⟩ = some (.int .i64 s.ep) ∧ w.cell? ⟨g, 3, none⟩ = some (.int .i64 s.ap) ∧ w.cell? ⟨g, 4, none⟩ = some (.slice A n c) ∧ w.cell? ⟨g, 5, none⟩ = some (.int .i64 s.src) ∧ w.cell? ⟨g, 6, none⟩ = some (.bool s.al) ∧ w.cell? ⟨g, 7, none⟩ = some (.bool s.co) :=
  ⟨cell_k h rfl, cell_k h rfl, cell_k h rfl, cell_k h rfl, cell_k h rfl, cell_k h rfl, cell_k h rfl, cell_k h rfl⟩
theorem TwoAt.cells1 {w : World} {g : Nat} {s s' : St} {A A' : Option Addr} {n c n' c' : Nat} (h : TwoAt w g s A n c s' A' n' c') :
    w.cell? ⟨g, 8, none⟩ = some (.int .i64 s'.num) ∧ w.cell? ⟨g, 9, none⟩ = some (.int .i64 s'.role) ∧ w.cell? ⟨g, 10, none⟩ = some (.int .i64 s'.ep) ∧ w.cell? ⟨g, 11, none⟩ = some (.int .i64 s'.ap) ∧ w.cell? ⟨g, 12, none⟩ = some (.slice A' n' c') ∧ w.cell? ⟨g, 13, none⟩ = some (.int .i64 s'.src) ∧ w.cell? ⟨g, 14, none⟩ = some (.bool s'.al) ∧ w.cell? ⟨g, 15, none⟩ = some (.bool s'.co) :=
  ⟨cell_k h rfl, cell_k h rfl, cell_k h rfl, cell_k h rfl, cell_k h rfl, cell_k h rfl, cell_k h rfl, cell_k h rfl⟩

set_option maxHeartbeats 2000000 in
theorem check12 (g : Nat) (s s' : St) (A A' : Option Addr) (c c' : Nat) (L L' : List Sp) (w : World) (h : TwoAt w g s A L.length c s' A' L'.length c') (hr : Rd w A L.length c (fl L)) (hr' : Rd w A' L'.length c' (fl L')) (hg : Good s L) (hg' : Good s' L') :
    Calls Try.prog 12 #[.slice (some ⟨g, 0, none⟩) 2 2] w fun e w' => e = .returned (.int .i64 0) ∧ Below w.heap.size w w' := by
  have H := Lib.hid h
  have HR := Lib.hid hr
  have HG := Lib.hid hg
  have HR' := Lib.hid hr'
  have HG' := Lib.hid hg'
  clear h hr hr' hg hg'
  go_enter Try.func12, Try.ntmps12
  go_wp2_with fail
  go_loopw [11] (fun n w' => (n = .int .i64 0 ∨ n = .int .i64 1 ∨ n = .int .i64 2) ∧ Hid (Below w.heap.size w w')) (fun n w' => 2 - (intOf n).toNat)
  case atStart => exact ⟨.inl rfl, Below.refl _ _⟩
  case round =>
    obtain ⟨hn, hb⟩ := hrel
    have hsz := hb.out.size
    rcases hn with rfl | rfl | rfl
    · obtain ⟨x0, x1, x2, x3, x4, x5, x6, x7⟩ := (H.out.below hb.out).cells0
      obtain ⟨l1, l2⟩ := lt_of_cells x0
      go_wp2_with fail
      refine (check25 s A c L _ ((HR.out.below hb.out).below ?_) HG.out).mono ?_
      · go_grown
      rintro e w2 ⟨rfl, hb2⟩
      go_wp2
      refine ⟨⟨.inr (.inl rfl), ?_⟩, by simp [intOf]⟩
      refine hb.out.trans ((below_then ?_ hb2).mono hsz)
      go_grown
    · obtain ⟨x0, x1, x2, x3, x4, x5, x6, x7⟩ := (H.out.below hb.out).cells1
      obtain ⟨l1, l2⟩ := lt_of_cells x0
      go_wp2_with fail
      refine (check25 s' A' c' L' _ ((HR'.out.below hb.out).below ?_) HG'.out).mono ?_
      · go_grown
      rintro e w2 ⟨rfl, hb2⟩
      go_wp2
      refine ⟨⟨.inr (.inr rfl), ?_⟩, by simp [intOf]⟩
      refine hb.out.trans ((below_then ?_ hb2).mono hsz)
      go_grown
    · go_wp2
      go_returns
      exact ⟨rfl, hb.out⟩
end Go.Proofs.Ytcalfnncjkaekaa
