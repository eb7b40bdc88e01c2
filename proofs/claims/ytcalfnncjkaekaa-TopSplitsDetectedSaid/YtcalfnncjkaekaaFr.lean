/- SameInts (19), SamePairs (18), at the values of the example. -/
import Derived.Test.YtcalfnncjkaekaaFm
namespace Go.Proofs.Ytcalfnncjkaekaa
open Go.RowKit
set_option linter.unusedVariables false
set_option linter.unusedSimpArgs false
set_option maxRecDepth 20000

theorem Rd.cell0 {w : World} {g o n c : Nat} {v : Value} {l : List Value} (h : Rd w (some ⟨g, o, none⟩) n c (v :: l)) : w.cell? ⟨g, o, none⟩ = some v := by
  have := h.row _ rfl 0 v rfl
  rwa [Addr.add_lit, Nat.add_zero] at this
theorem Rd.cell1 {w : World} {g o n c : Nat} {v u : Value} {l : List Value} (h : Rd w (some ⟨g, o, none⟩) n c (v :: u :: l)) : w.cell? ⟨g, o + 1, none⟩ = some u := by
  have := h.row _ rfl 1 u rfl
  rwa [Addr.add_lit] at this

set_option maxHeartbeats 1000000 in
theorem sameInts19 (g o h p c d : Nat) (w : World) (hr : Rd w (some ⟨g, o, none⟩) 1 c [.int .i64 0]) (hm : Rd w (some ⟨h, p, none⟩) 1 d [.int .i64 0]) :
    Calls Try.prog 19 #[.slice (some ⟨g, o, none⟩) 1 c, .slice (some ⟨h, p, none⟩) 1 d] w fun e w' => e = .returned (.bool true) ∧ Below w.heap.size w w' := by
  have c0 := hr.cell0
  have c1 := hm.cell0
  clear hr hm
  go_enter Try.func19, Try.ntmps19
  go_wp2_with fail
  go_loopw [5] (fun n w' => ∃ q : Nat, (n = .int .i64 0 ∨ n = .int .i64 1) ∧ w' = w.drewN q) (fun n w' => 2 - (intOf n).toNat)
  case atStart => exact ⟨0, .inl rfl, rfl⟩
  case round =>
    obtain ⟨q, hn, rfl⟩ := hrel
    rcases hn with rfl | rfl
    · go_wp2_with fail
      refine wp_region_quiet_lit (by kernel_rfl) (by kernel_rfl) ?_
      repeat (go_big_quiet_step (fail))
      refine wpQuiet_nil ?_
      intro _ hw'
      obtain ⟨nq, hw''⟩ := hw'
      subst hw''
      go_wp2
      exact ⟨⟨q + nq, .inr rfl, by first | rfl | rw [World.drewN_drewN]⟩, by simp [intOf]⟩
    · go_wp2
      go_returns
      exact ⟨rfl, below_drews (Below.refl _ _) q⟩

set_option maxHeartbeats 2000000 in
theorem samePairs18 (g o h p c d x y : Nat) (w : World) (hr : Rd w (some ⟨g, o, none⟩) 1 c [.slice (some ⟨x, 0, none⟩) 2 2]) (hm : Rd w (some ⟨h, p, none⟩) 1 d [.slice (some ⟨y, 0, none⟩) 2 2])
    (hx : w.heap[x]? = some (.cells #[.int .i64 0, .int .i64 1] 3 (0, 0))) (hy : w.heap[y]? = some (.cells #[.int .i64 0, .int .i64 1] 3 (0, 0))) :
    Calls Try.prog 18 #[.slice (some ⟨g, o, none⟩) 1 c, .slice (some ⟨h, p, none⟩) 1 d] w fun e w' => e = .returned (.bool true) ∧ Below w.heap.size w w' := by
  have c0 := hr.cell0
  have c1 := hm.cell0
  have x0 : w.cell? ⟨x, 0, none⟩ = some (.int .i64 0) := cell_k hx rfl
  have x1 : w.cell? ⟨x, 1, none⟩ = some (.int .i64 1) := cell_k hx rfl
  have y0 : w.cell? ⟨y, 0, none⟩ = some (.int .i64 0) := cell_k hy rfl
  have y1 : w.cell? ⟨y, 1, none⟩ = some (.int .i64 1) := cell_k hy rfl
  clear hr hm hx hy
  go_enter Try.func18, Try.ntmps18
  go_wp2_with fail
  go_loopw [5] (fun n w' => ∃ q : Nat, (n = .int .i64 0 ∨ n = .int .i64 1) ∧ w' = w.drewN q) (fun n w' => 2 - (intOf n).toNat)
  case atStart => exact ⟨0, .inl rfl, rfl⟩
  case round =>
    obtain ⟨q, hn, rfl⟩ := hrel
    rcases hn with rfl | rfl
    · go_wp2_with fail
      refine wp_region_quiet_lit (by kernel_rfl) (by kernel_rfl) ?_
      repeat (go_big_quiet_step (fail))
      refine wpQuiet_nil ?_
      intro _ hw'
      obtain ⟨nq, hw''⟩ := hw'
      subst hw''
      go_wp2_with fail
      go_loopw [6] (fun n w' => ∃ q : Nat, (n = .int .i64 0 ∨ n = .int .i64 1 ∨ n = .int .i64 2) ∧ w' = w.drewN q) (fun n w' => 3 - (intOf n).toNat)
      case atStart => exact ⟨q + nq, .inl rfl, by first | rfl | rw [World.drewN_drewN]⟩
      case round =>
        obtain ⟨q, hn, rfl⟩ := hrel
        rcases hn with rfl | rfl | rfl
        · go_wp2_with fail
          refine wp_region_quiet_lit (by kernel_rfl) (by kernel_rfl) ?_
          repeat (go_big_quiet_step (fail))
          refine wpQuiet_nil ?_
          intro _ hw'
          obtain ⟨nq, hw''⟩ := hw'
          subst hw''
          go_wp2
          exact ⟨⟨q + nq, .inr (.inl rfl), by first | rfl | rw [World.drewN_drewN]⟩, by simp [intOf]⟩
        · go_wp2_with fail
          refine wp_region_quiet_lit (by kernel_rfl) (by kernel_rfl) ?_
          repeat (go_big_quiet_step (fail))
          refine wpQuiet_nil ?_
          intro _ hw'
          obtain ⟨nq, hw''⟩ := hw'
          subst hw''
          go_wp2
          exact ⟨⟨q + nq, .inr (.inr rfl), by first | rfl | rw [World.drewN_drewN]⟩, by simp [intOf]⟩
        · go_wp2
          exact ⟨⟨q, .inr rfl, rfl⟩, by simp [intOf]⟩
    · go_wp2
      go_returns
      exact ⟨rfl, below_drews (Below.refl _ _) q⟩
end Go.Proofs.Ytcalfnncjkaekaa
