/- The types of this seat's program, for the walks. -/
import Derived.Test.YtfdkhopionknaaaProg
import Derived.Test.YtfdkhopionknaaaMem
import Derived.KernelRfl
import Derived.WalkKit
import Derived.WalkSpells
import Derived.WalkLawsBesides
import Derived.Deep.QuietTactic
import Derived.BigQuiet
import Derived.Deep.LoopGhost
import Derived.Lib.Hide
namespace Go.Proofs.Ytfdkhopionknaaa
open Go.RowKit

theorem inf5 : (Try.prog.info? 5).map (fun i => (i.zero, i.size, i.bytes)) = some (some (.int .u8 0), 1, 1) := by kernel_rfl
theorem E24 : Elem Try.prog 24 5 1 1 := by
  obtain ⟨i, hi, hz, hs, hb⟩ := info_parts inf5
  exact ⟨Try.underlying24, ⟨i, _, hi, hz, hs, hb, rfl⟩, by decide⟩
theorem inf38 : (Try.prog.info? 38).map (fun i => (i.zero, i.size, i.bytes)) = some (some (secV Sec.zero), 8, 8) := by kernel_rfl
theorem E22 : Elem Try.prog 22 38 8 8 := by
  obtain ⟨i, hi, hz, hs, hb⟩ := info_parts inf38
  exact ⟨Try.underlying22, ⟨i, _, hi, hz, hs, hb, rfl⟩, by decide⟩
theorem inf3 : (Try.prog.info? 3).map (fun i => (i.zero, i.size, i.bytes)) = some (some (.int .i64 0), 1, 8) := by kernel_rfl
theorem E100 : Elem Try.prog 100 3 1 8 := by
  obtain ⟨i, hi, hz, hs, hb⟩ := info_parts inf3
  exact ⟨Try.underlying100, ⟨i, _, hi, hz, hs, hb, rfl⟩, by decide⟩
theorem inf46 : (Try.prog.info? 46).map (fun i => (i.zero, i.size, i.bytes)) = some (some (.agg #[.int .i64 0, .int .i64 0]), 2, 16) := by kernel_rfl
theorem E42 : Elem Try.prog 42 46 2 16 := by
  obtain ⟨i, hi, hz, hs, hb⟩ := info_parts inf46
  exact ⟨Try.underlying42, ⟨i, _, hi, hz, hs, hb, rfl⟩, by decide⟩
theorem inf70 : (Try.prog.info? 70).map (fun i => (i.zero, i.size, i.bytes)) = some (some (.agg #[.int .i64 0, .int .i64 0, .int .i64 0]), 3, 24) := by kernel_rfl
theorem E67 : Elem Try.prog 67 70 3 24 := by
  obtain ⟨i, hi, hz, hs, hb⟩ := info_parts inf70
  exact ⟨Try.underlying67, ⟨i, _, hi, hz, hs, hb, rfl⟩, by decide⟩

theorem bslice_lo {w : World} {A : Option Addr} {c : Nat} {bs : List UInt8} (h : Bytes w A c bs) (k : Nat) (hk : k ≤ bs.length) :
    ∃ A' c' bs', Hid (bs' = bs.drop k) ∧ (∀ w', (Instr.sliceAt 24 (.slice A bs.length c) (some (.int .i64 k)) none none).run Try.prog w' = .ok (.slice A' bs'.length c') w') ∧ Bytes w A' c' bs' := by
  obtain ⟨A', c', h1, h2⟩ := slice_lo E24 h (by simp) k hk
  refine ⟨A', c', bs.drop k, rfl, ?_, ?_⟩
  · rw [List.length_drop]; exact h1
  · unfold Bytes; rw [List.length_drop]; simpa using h2
theorem bslice_hi {w : World} {A : Option Addr} {c : Nat} {bs : List UInt8} (h : Bytes w A c bs) (k : Nat) (hk : k ≤ bs.length) :
    ∃ A' c' bs', Hid (bs' = bs.take k) ∧ (∀ w', (Instr.sliceAt 24 (.slice A bs.length c) none (some (.int .i64 k)) none).run Try.prog w' = .ok (.slice A' bs'.length c') w') ∧ Bytes w A' c' bs' := by
  obtain ⟨A', c', h1, h2⟩ := slice_hi E24 h (by simp) k hk
  have e : (bs.take k).length = k := by rw [List.length_take]; omega
  refine ⟨A', c', bs.take k, rfl, ?_, ?_⟩
  · rw [e]; exact h1
  · unfold Bytes; rw [e]; simpa using h2
theorem bslice_lohi {w : World} {A : Option Addr} {c : Nat} {bs : List UInt8} (h : Bytes w A c bs) (l k : Nat) (hl : l ≤ k) (hk : k ≤ bs.length) :
    ∃ A' c' bs', Hid (bs' = (bs.drop l).take (k - l)) ∧ (∀ w', (Instr.sliceAt 24 (.slice A bs.length c) (some (.int .i64 l)) (some (.int .i64 k)) none).run Try.prog w' = .ok (.slice A' bs'.length c') w') ∧ Bytes w A' c' bs' := by
  obtain ⟨A', c', h1, h2⟩ := slice_lohi E24 h (by simp) l k hl hk
  have e : ((bs.drop l).take (k - l)).length = k - l := by rw [List.length_take, List.length_drop]; omega
  refine ⟨A', c', _, rfl, ?_, ?_⟩
  · rw [e]; exact h1
  · unfold Bytes; rw [e]; simpa using h2
end Go.Proofs.Ytfdkhopionknaaa
