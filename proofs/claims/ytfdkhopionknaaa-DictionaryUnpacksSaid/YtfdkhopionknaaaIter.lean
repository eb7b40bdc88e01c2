/- The iterator over the groups (program's text): what it hands to a loop. -/
import Derived.RangeFuncNested
import Derived.RangeFuncBound
import Derived.RangeFuncCalls
import Derived.RangeFuncLeaves
import Derived.RangeFuncFrom
import Derived.Shelf.Abstract
import Derived.OwnWalkIn
import Derived.TacticsInMore
import Derived.LoopNIn
import Derived.LoopIn
import Derived.Test.YtfdkhopionknaaaGroups
namespace Go.Proofs.Ytfdkhopionknaaa
open Go.RowKit
set_option linter.unusedVariables false
set_option linter.unusedSimpArgs false
attribute [local go_sem] Oper.semAt_some

/-- A group of the list. -/
abbrev Grp (xs : List Sec) : Type := { g : Nat × Nat × Nat // g ∈ groupsAt xs 0 }
def encs (xs : List Sec) (x : Grp xs) : Array Value := #[.agg #[.int .i64 x.1.1, .int .i64 x.1.2.1, .int .i64 x.1.2.2]]

set_option maxRecDepth 20000 in
set_option maxHeartbeats 1000000 in
theorem groups_stops (n : Nat) (hn : 3 ≤ n) (A : Option Addr) (c b : Nat) (xs : List Sec) (w w0 : World) (h : Secs w A c xs) (hw0 : Below w.heap.size w w0) (hlen : xs.length ≤ 65536) (hb : w0.heap[b]? = some (.cells #[.slice A xs.length c] 22 (0, 0)))
    (Kp : World → World → Prop) (hk : ∀ W W', Kp W W' → Below w.heap.size W W')
    (hk3 : ∀ W W', Kp W W' → ∀ (g : Nat) (cs : Array Value) (t : TypeId), t = 22 ∨ t = 65 → W.heap[g]? = some (.cells cs t (0, 0)) → W'.heap[g]? = some (.cells cs t (0, 0))) :
    SeqStopsK Fence.wide n Try.prog 66 #[.pointer (some ⟨b, 0, none⟩)] (encs xs) Kp (fun ys => ys.map (·.1) = groupsAt xs 0) (fun _ => True) (xs.length + 1) w0 := by
  intro l J Jx W hW hJ hJx hY h0
  have hbox : Hid (W.heap[b]? = some (.cells #[.slice A xs.length c] 22 (0, 0))) := (hW.block _ (lt_of_heap hb)).trans hb
  have hbel : Below w.heap.size w W := hw0.trans (hW.mono hw0.size)
  have HY := Lib.hid hY
  have HJ := Lib.hid hJ
  clear hY hJ hJx
  show CallsIn Fence.wide n Try.prog 66 #[.func (.yield l) #[] #[], .pointer (some ⟨b, 0, none⟩)] W _
  refine callsIn_of_wp Try.func66 rfl trivial ?_
  simp only [Try.ntmps66, List.size_toArray, List.length_cons, List.length_nil, Nat.reduceAdd, Nat.reduceSub, Array.replicate_succ, Array.replicate_zero, List.push_toArray, List.append_toArray, List.nil_append, List.cons_append]
  gi_wp2
  gi_loopw [3] (fun i wr => ∃ (pre : List (Grp xs)) (j : Nat), i = .int .i64 j ∧ j ≤ xs.length ∧ Hid (pre.map (·.1) ++ groupsAt xs j = groupsAt xs 0) ∧ pre.length ≤ j ∧ J pre wr ∧ Hid (wr.heap[b]? = some (.cells #[.slice A xs.length c] 22 (0, 0))) ∧ Below w.heap.size w wr) (fun i wr => xs.length - (intOf i).toNat)
  case atStart => exact ⟨[], 0, rfl, Nat.zero_le _, rfl, Nat.le_refl _, h0, hbox, hbel⟩
  case round =>
    clear hbox hbel hb
    obtain ⟨pre, j, rfl, hj, hgs, hpl, hJw, hbox, hbel⟩ := hrel
    have hcell : wr.cell? ⟨b, 0, none⟩ = some (.slice A xs.length c) := by rw [cell_of_row _ _ 0 _ _ _ hbox.out]; rfl
    have hsec : Secs wr A c xs := h.below hbel
    by_cases hlt : j < xs.length
    · obtain ⟨⟨K, N⟩, hg⟩ : ∃ r, groupOf (xs.drop j) = r := ⟨_, rfl⟩
      have HG := Lib.hid hg
      clear hg
      gi_wp2_with fail
      refine ⟨trivial, fun _ => by omega, ?_⟩
      refine (callsIn_wide.2 (next_calls A c j xs wr hsec (by omega) hlt K N HG.out)).mono ?_
      rintro e w1 ⟨rfl, hb1⟩
      gi_wp2_with ((with_reducible refine Stop.storeIn 65 ?hst ?_); (case hst => rfl))
      refine Stop.go ?_
      refine step_store_rowIn (.inl rfl) rfl 65 (.tmp 4) (.tmp 11) rfl rfl (cs := #[.int .i64 0, .int .i64 0, .int .i64 0]) (e := 65) (heap_alloc_new w1 _) rfl inf65 rfl (by simp [Value.oneCell']) ?_
      intro w3 hg3 hgr3 hz3
      have hb3 : Below wr.heap.size wr w3 := (hb1.alloc hb1.size _).grown hgr3 (by simp; have := hb1.size; omega) (fun k hk => by cases hk; exact hb1.size)
      have hbox3 : Hid (w3.heap[b]? = some (.cells #[.slice A xs.length c] 22 (0, 0))) := (hb3.block _ (lt_of_heap hbox.out)).trans hbox.out
      have hbel3 : Below w.heap.size w w3 := hbel.trans (hb3.mono hbel.size)
      have hJ3 : J pre w3 := HJ.out pre wr w3 none hJw ⟨hb3.os, hb3.tape, hb3.output, hb3.size, fun k hk _ => hb3.block k hk⟩ (fun r hr => by cases hr)
      have hmem : (K, j, N) ∈ groupsAt xs 0 := by rw [← hgs.out, groupsAt_cons hlt HG.out]; simp
      obtain ⟨fn, tm, asg, bod, hy, hR⟩ := HY.out pre ⟨(K, j, N), hmem⟩ w3 hJ3 (by omega)
      dsimp only [encs] at hy
      have hc0 : w3.cell? ⟨w1.heap.size, 0, none⟩ = some (.int .i64 K) := by rw [cell_of_row _ _ 0 _ _ _ hg3]; rfl
      have hc1 : w3.cell? ⟨w1.heap.size, 1, none⟩ = some (.int .i64 j) := by rw [cell_of_row _ _ 1 _ _ _ hg3]; rfl
      have hc2 : w3.cell? ⟨w1.heap.size, 2, none⟩ = some (.int .i64 N) := by rw [cell_of_row _ _ 2 _ _ _ hg3]; rfl
      have HR := Lib.hid hR
      have HG3 := Lib.hid hg3
      have HB3 := Lib.hid hb3
      clear hR hg3 hgr3 hb3 hJ3 hcell hsec hb1 hbox hbel
      gi_wp2_with fail
      refine ⟨fun _ => by omega, HR.out.mono ?_⟩
      rintro e W' (⟨rfl, hJ', hkp⟩ | ⟨rfl, hJx'⟩)
      · have hbox' : Hid (W'.heap[b]? = some (.cells #[.slice A xs.length c] 22 (0, 0))) := hk3 _ _ hkp _ _ _ (.inl rfl) hbox3.out
        have hbel' : Below w.heap.size w W' := hbel3.trans (hk _ _ hkp)
        have hg' := hk3 _ _ hkp _ _ _ (.inr rfl) HG3.out
        have hc2' : W'.cell? ⟨w1.heap.size, 2, none⟩ = some (.int .i64 N) := by rw [cell_of_row _ _ 2 _ _ _ hg']; rfl
        have hn2 := group_le (xs.drop j) (by intro e; have := congrArg List.length e; simp at this; omega)
        have hn1 := group_pos (xs.drop j)
        have hgo := HG.out
        rw [hgo] at hn1 hn2
        have hn2' : N ≤ xs.length - j := by simpa using hn2
        have hn1' : 1 ≤ N := hn1
        have hrel : Hid ((pre ++ [(⟨(K, j, N), hmem⟩ : Grp xs)]).map (·.1) ++ groupsAt xs (j + N) = groupsAt xs 0) := by
          show _ = _
          refine Eq.trans ?_ hgs.out
          rw [groupsAt_cons hlt hgo, List.map_append, List.append_assoc]; rfl
        clear hg' hn2 hn1 hgo hc0 hc1 hc2 hbox3 hbel3 hy
        gi_wp2
        exact ⟨⟨_, j + N, rfl, by omega, hrel, by simp; omega, hJ', hbox', hbel'⟩, by simp [intOf]; omega⟩
      · gi_wp2
        exact bodyPost_ret (results_none rfl _ _ _) rfl ⟨⟨_, rfl⟩, .inr ⟨_, trivial, hJx'⟩⟩
    · gi_wp2
      have hg := hgs.out
      rw [groupsAt_nil hlt, List.append_nil] at hg
      exact bodyPost_end (results_none rfl _ _ _) rfl ⟨⟨_, rfl⟩, .inl ⟨pre, hg, hJw⟩⟩
end Go.Proofs.Ytfdkhopionknaaa
