/- The types of this seat's program, spans and sites as values. -/
import Derived.Test.YtcalfnncjkaekaaProg
import Derived.Test.YtcalfnncjkaekaaMem
import Derived.KernelRfl
import Derived.WalkKit
import Derived.WalkSpells
import Derived.WalkLawsBesides
import Derived.Deep.QuietTactic
import Derived.BigQuiet
import Derived.Deep.LoopGhost
import Derived.Lib.Hide
import Derived.Handy
namespace Go.Proofs.Ytcalfnncjkaekaa
open Go.RowKit
set_option linter.unusedVariables false
set_option linter.unusedSimpArgs false

theorem inf65 : (Try.prog.info? 65).map (fun i => (i.zero, i.size, i.bytes)) = some (some (.agg #[.int .i64 0, .int .i64 0, .int .i64 0]), 3, 24) := by kernel_rfl
theorem E32 : Elem Try.prog 32 65 3 24 := by
  obtain ⟨i, hi, hz, hs, hb⟩ := info_parts inf65
  exact ⟨Try.underlying32, ⟨i, _, hi, hz, hs, hb, rfl⟩, by decide⟩
theorem inf34 : (Try.prog.info? 34).map (fun i => (i.zero, i.size, i.bytes)) = some (some (.agg #[.int .i64 0, .int .i64 0, .int .i64 0, .int .i64 0, .slice none 0 0, .int .i64 0, .bool false, .bool false]), 8, 72) := by kernel_rfl
theorem E23 : Elem Try.prog 23 34 8 72 := by
  obtain ⟨i, hi, hz, hs, hb⟩ := info_parts inf34
  exact ⟨Try.underlying23, ⟨i, _, hi, hz, hs, hb, rfl⟩, by decide⟩
theorem inf3 : (Try.prog.info? 3).map (fun i => (i.zero, i.size, i.bytes)) = some (some (.int .i64 0), 1, 8) := by kernel_rfl
theorem E46 : Elem Try.prog 46 3 1 8 := by
  obtain ⟨i, hi, hz, hs, hb⟩ := info_parts inf3
  exact ⟨Try.underlying46, ⟨i, _, hi, hz, hs, hb, rfl⟩, by decide⟩
theorem inf46 : (Try.prog.info? 46).map (fun i => (i.zero, i.size, i.bytes)) = some (some (.slice none 0 0), 1, 24) := by kernel_rfl
theorem E26 : Elem Try.prog 26 46 1 24 := by
  obtain ⟨i, hi, hz, hs, hb⟩ := info_parts inf46
  exact ⟨Try.underlying26, ⟨i, _, hi, hz, hs, hb, rfl⟩, by decide⟩

/-- A span: epoch, from, to. -/
structure Sp where
  e : Nat
  f : Nat
  t : Nat
  deriving DecidableEq
def Sp.cells (s : Sp) : List Value := [.int .i64 s.e, .int .i64 s.f, .int .i64 s.t]
def spV (s : Sp) : Value := .agg #[.int .i64 s.e, .int .i64 s.f, .int .i64 s.t]
def fl (L : List Sp) : List Value := L.flatMap Sp.cells
theorem fl_length (L : List Sp) : (fl L).length = L.length * 3 := by
  induction L with
  | nil => rfl
  | cons s L ih => simp only [fl, List.flatMap_cons, List.length_append, Sp.cells, List.length_cons, List.length_nil] at ih ⊢; omega
/-- A lineage in memory. -/
def Lin (w : World) (v : Value) (L : List Sp) : Prop := ∃ A c, v = .slice A L.length c ∧ Rd w A L.length c (fl L) ∧ (L = [] → A = none ∧ c = 0)

/-- A correct lineage behind an epoch and a cycle. -/
def gl : Nat → Nat → List Sp → Prop
  | _, _, [] => True
  | e, t, s :: l => s.f = t + 1 ∧ s.f ≤ s.t ∧ s.t ≤ 1073741824 ∧ e < s.e ∧ s.e ≤ 1073741824 ∧ gl s.e s.t l

/-- A site without its lineage. -/
structure St where
  num : Nat
  role : Nat
  ep : Nat
  ap : Nat
  src : Int
  al : Bool
  co : Bool
def St.cells (s : St) (v : Value) : List Value := [.int .i64 s.num, .int .i64 s.role, .int .i64 s.ep, .int .i64 s.ap, v, .int .i64 s.src, .bool s.al, .bool s.co]
def stV (s : St) (v : Value) : Value := .agg #[.int .i64 s.num, .int .i64 s.role, .int .i64 s.ep, .int .i64 s.ap, v, .int .i64 s.src, .bool s.al, .bool s.co]
end Go.Proofs.Ytcalfnncjkaekaa
