/- The iterator over the pairs (13, 26), at two sites. -/
import Derived.RangeFuncNested
import Derived.RangeFuncBound
import Derived.RangeFuncCalls
import Derived.RangeFuncLeaves
import Derived.RangeFuncFrom
import Derived.Shelf.Abstract
import Derived.OwnWalkIn
import Derived.TacticsInMore
import Derived.LoopNIn
import Derived.LoopIn
import Derived.Test.YtcalfnncjkaekaaFm
namespace Go.Proofs.Ytcalfnncjkaekaa
open Go.RowKit
set_option linter.unusedVariables false
set_option linter.unusedSimpArgs false
attribute [local go_sem] Oper.semAt_some

def encs (_ : Unit) : Array Value := #[.int .i64 0, .int .i64 1]

theorem pairs13 (n : Nat) (w : World) :
    Calls Try.prog 13 #[.int .i64 n] w fun e w' => e = .returned (.func (.func 26) #[] #[.pointer (some ⟨w.heap.size, 0, none⟩)]) ∧ w' = w.alloc (.cells #[.int .i64 n] 3) := by
  go_enter Try.func13, Try.ntmps13
  go_wp2
  go_ret
  exact ⟨rfl, rfl⟩

set_option maxRecDepth 20000 in
set_option maxHeartbeats 1000000 in
theorem pairs_stops (n : Nat) (hn : 3 ≤ n) (b : Nat) (w0 : World) (hb : w0.heap[b]? = some (.cells #[.int .i64 2] 3 (0, 0)))
    (Kp : World → World → Prop) (hk3 : ∀ W W', Kp W W' → W.heap[b]? = some (.cells #[.int .i64 2] 3 (0, 0)) → W'.heap[b]? = some (.cells #[.int .i64 2] 3 (0, 0))) :
    SeqStopsK Fence.wide n Try.prog 26 #[.pointer (some ⟨b, 0, none⟩)] encs Kp (fun ys => ys = [()]) (fun _ => True) 1 w0 := by
  intro l J Jx W hW hJ hJx hY h0
  have hbox : Hid (W.heap[b]? = some (.cells #[.int .i64 2] 3 (0, 0))) := (hW.block _ (lt_of_heap hb)).trans hb
  have HY := Lib.hid hY
  have HJ := Lib.hid hJ
  have HJX := Lib.hid hJx
  clear hY hJ hJx
  show CallsIn Fence.wide n Try.prog 26 #[.func (.yield l) #[] #[], .pointer (some ⟨b, 0, none⟩)] W _
  refine callsIn_of_wp Try.func26 rfl trivial ?_
  simp only [Try.ntmps26, List.size_toArray, List.length_cons, List.length_nil, Nat.reduceAdd, Nat.reduceSub, Array.replicate_succ, Array.replicate_zero, List.push_toArray, List.append_toArray, List.nil_append, List.cons_append]
  have hc0 : W.cell? ⟨b, 0, none⟩ = some (.int .i64 2) := by rw [cell_of_row _ _ 0 _ _ _ hbox.out]; rfl
  gi_wp2
  gi_loopw [6] (fun i wr => ∃ (pre : List Unit), ((i = .int .i64 0 ∧ pre = []) ∨ (i = .int .i64 1 ∧ pre = [()]) ∨ (i = .int .i64 2 ∧ pre = [()])) ∧ J pre wr ∧ Hid (wr.heap[b]? = some (.cells #[.int .i64 2] 3 (0, 0)))) (fun i wr => 2 - (intOf i).toNat)
  case atStart => exact ⟨[], .inl ⟨rfl, rfl⟩, h0, hbox⟩
  case round =>
    clear hc0 hbox hb
    obtain ⟨pre, hi, hJw, hbox⟩ := hrel
    have hc0 : wr.cell? ⟨b, 0, none⟩ = some (.int .i64 2) := by rw [cell_of_row _ _ 0 _ _ _ hbox.out]; rfl
    rcases hi with ⟨rfl, rfl⟩ | ⟨rfl, rfl⟩ | ⟨rfl, rfl⟩
    · gi_wp2_with fail
      gi_loopw [4] (fun i wr => ∃ (pre : List Unit), ((i = .int .i64 1 ∧ pre = []) ∨ (i = .int .i64 2 ∧ pre = [()])) ∧ J pre wr ∧ Hid (wr.heap[b]? = some (.cells #[.int .i64 2] 3 (0, 0)))) (fun i wr => 2 - (intOf i).toNat)
      case atStart => exact ⟨[], .inl ⟨rfl, rfl⟩, hJw, hbox⟩
      case round =>
        clear hc0 hbox hJw
        obtain ⟨pre, hi, hJw, hbox⟩ := hrel
        have hc0 : wr.cell? ⟨b, 0, none⟩ = some (.int .i64 2) := by rw [cell_of_row _ _ 0 _ _ _ hbox.out]; rfl
        rcases hi with ⟨rfl, rfl⟩ | ⟨rfl, rfl⟩
        · obtain ⟨fn, tm, asg, bod, hy, hR⟩ := HY.out [] () wr hJw (by simp)
          dsimp only [encs] at hy
          have HR := Lib.hid hR
          clear hR
          gi_wp2_with fail
          refine ⟨fun _ => by omega, HR.out.mono ?_⟩
          rintro e W' (⟨rfl, hJ', hkp⟩ | ⟨rfl, hJx'⟩)
          · have hbox' : Hid (W'.heap[b]? = some (.cells #[.int .i64 2] 3 (0, 0))) := hk3 _ _ hkp hbox.out
            clear hc0 hy hbox
            gi_wp2
            exact ⟨⟨[()], .inr ⟨rfl, rfl⟩, hJ', hbox'⟩, by simp [intOf]⟩
          · gi_wp2
            exact bodyPost_ret (results_none rfl _ _ _) rfl ⟨⟨_, rfl⟩, .inr ⟨_, trivial, hJx'⟩⟩
        · gi_wp2
          exact ⟨⟨[()], .inr (.inl ⟨rfl, rfl⟩), hJw, hbox⟩, by simp [intOf]⟩
    · gi_wp2_with fail
      gi_loopw [4] (fun i wr => i = .int .i64 2 ∧ J [()] wr ∧ Hid (wr.heap[b]? = some (.cells #[.int .i64 2] 3 (0, 0)))) (fun i wr => 2 - (intOf i).toNat)
      case atStart => exact ⟨rfl, hJw, hbox⟩
      case round =>
        clear hc0 hbox hJw
        obtain ⟨rfl, hJw, hbox⟩ := hrel
        have hc0 : wr.cell? ⟨b, 0, none⟩ = some (.int .i64 2) := by rw [cell_of_row _ _ 0 _ _ _ hbox.out]; rfl
        gi_wp2
        exact ⟨⟨[()], .inr (.inr ⟨rfl, rfl⟩), hJw, hbox⟩, by simp [intOf]⟩
    · gi_wp2
      exact bodyPost_end (results_none rfl _ _ _) rfl ⟨⟨_, rfl⟩, .inl ⟨[()], rfl, hJw⟩⟩
end Go.Proofs.Ytcalfnncjkaekaa
