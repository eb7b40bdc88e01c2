/- The group that begins at an index (program's text). -/
import Derived.Test.YtfdkhopionknaaaRun
namespace Go.Proofs.Ytfdkhopionknaaa
open Go.RowKit
set_option linter.unusedVariables false
set_option linter.unusedSimpArgs false
attribute [local go_sem ↓] run_load_sec run_eql_sec run_neq_sec
attribute [local go_sem] SecP_drewN secP_drewN isSec_secV unSec_secV isSec_zero unSec_zero

theorem inf65 : (Try.prog.info? 65).map (·.size) = some 3 := by kernel_rfl
theorem ret_group {tmps : Array Value} {w : World} {g : Nat} {k a c : Int} {R : Ending → World → Prop} (ds : List Deferred) (hd : ds = []) (hp : tmps.getD 4 undef = .pointer (some ⟨g, 0, none⟩))
    (hg : w.heap[g]? = some (.cells #[.int .i64 k, .int .i64 a, .int .i64 c] 65 (0, 0))) (hR : R (.returned (.agg #[.int .i64 k, .int .i64 a, .int .i64 c])) w) : bodyPost Try.prog Try.f67 R .ret ⟨tmps, ds⟩ w :=
  bodyPost_ret (results_cell_row (fn := Try.f67) (p := 4) (ty := 65) rfl tmps w g 65 _ (0, 0) _ hp hg Try.underlying65 rfl inf65) hd hR
theorem ret_gp {k a c k' a' c' : Nat} (h : (k', c') = (k, c)) (ha : a' = a) : Ending.returned (.agg #[.int .i64 (k : Int), .int .i64 (a : Int), .int .i64 (c : Int)]) = .returned (.agg #[.int .i64 (k' : Int), .int .i64 (a' : Int), .int .i64 (c' : Int)]) := by
  cases h; subst ha; rfl

theorem lit_round {xs : List Sec} {at_ k : Nat} {s1 : Sec} (h1 : xs[at_ + k]? = some s1) (hk : Hid (litMore (xs.drop (at_ + 1)) + 1 = k + litMore (xs.drop (at_ + k)))) :
    (s1 ≠ Sec.zero → runAt (xs.drop (at_ + k)) = 1 → Hid (litMore (xs.drop (at_ + 1)) + 1 = (k + 1) + litMore (xs.drop (at_ + (k + 1))))) ∧
    (s1 = Sec.zero ∨ runAt (xs.drop (at_ + k)) ≠ 1 → litMore (xs.drop (at_ + 1)) + 1 = k) := by
  have h := hk.out
  rw [drop_get h1] at h ⊢
  refine ⟨fun e e1 => ?_, fun e => ?_⟩
  · rw [litMore_yes e e1] at h
    show _ = _
    rw [h, ← Nat.add_assoc at_]; omega
  · rwa [litMore_no e] at h

set_option maxRecDepth 20000 in
set_option maxHeartbeats 2000000 in
theorem next_calls (A : Option Addr) (c at_ : Nat) (xs : List Sec) (w : World) (h : Secs w A c xs) (hlen : xs.length ≤ 1099511627776) (hat : at_ < xs.length) (kind count : Nat) (hg : groupOf (xs.drop at_) = (kind, count)) :
    Calls Try.prog 67 #[.slice A xs.length c, .int .i64 at_] w fun e w' => e = .returned (.agg #[.int .i64 kind, .int .i64 at_, .int .i64 count]) ∧ Below w.heap.size w w' := by
  obtain ⟨a, rfl⟩ := h.some_of hat
  obtain ⟨s0, hs0⟩ : ∃ s, xs[at_]? = some s := ⟨_, List.getElem?_eq_getElem hat⟩
  obtain ⟨w1, e1, hg1, hb1, hz1⟩ := alloc_facts w #[.int .i64 0, .int .i64 0, .int .i64 0] 65
  have h1 := h.below hb1
  have hc0 := h1.at hs0
  obtain ⟨p0, q0⟩ := secP_of hc0
  have HS0 := Lib.hid hs0
  have HG := Lib.hid hg
  have HG1 := Lib.hid hg1
  have HB1 := Lib.hid hb1
  clear hs0 hg hg1 hb1 hz1
  have hrp := runAt_pos (xs.drop at_)
  have hrl := runAt_le (xs.drop at_) (by intro e; have := congrArg List.length e; simp at this; omega)
  have hrl2 : runAt (xs.drop at_) ≤ xs.length - at_ := by simpa using hrl
  obtain ⟨R, hR⟩ : ∃ R, runAt (xs.drop at_) = R := ⟨_, rfl⟩
  have HR := Lib.hid hR
  go_enter Try.func67, Try.ntmps67
  go_wp2_with fail
  refine (run_calls _ c at_ xs _ h1 hlen hat).mono ?_
  rintro e w2 ⟨rfl, n2, rfl⟩
  rw [hR] at hrp hrl2 ⊢
  clear hR hrl e1
  by_cases hs : s0 = Sec.zero
  · have hd : decide (s0 = Sec.zero) = true := decide_eq_true hs
    have hgr := group_zero (hs ▸ HS0.out)
    rw [HG.out, HR.out] at hgr
    have HGR := Lib.hid hgr
    clear hs hgr
    go_wp2_with ((with_reducible refine Stop.store 65 ?hst ?_); (case hst => rfl))
    refine Stop.go ?_
    refine step_store_row rfl 65 (.tmp 4) (.tmp 18) rfl rfl (cs := #[.int .i64 0, .int .i64 0, .int .i64 0]) (e := 65) HG1.out rfl inf65 rfl (by simp [Value.oneCell']) ?_
    intro w3 hg3 hgr3 hz3
    have HG3 := Lib.hid hg3
    clear hg3
    go_wp2
    refine ret_group _ rfl rfl HG3.out ⟨ret_gp HGR.out rfl, ?_⟩
    exact (below_drews HB1.out n2).grown hgr3 HB1.out.size (fun k hk => by cases hk; exact Nat.le_refl _)
  · have hd : decide (s0 = Sec.zero) = false := decide_eq_false hs
    by_cases h2 : 2 ≤ R
    · have hgr := group_rep HS0.out hs (by rw [HR.out]; exact h2)
      rw [HG.out, HR.out] at hgr
      have HGR := Lib.hid hgr
      clear hs hgr
      go_wp2_with ((with_reducible refine Stop.store 65 ?hst ?_); (case hst => rfl))
      refine Stop.go ?_
      refine step_store_row rfl 65 (.tmp 4) (.tmp 24) rfl rfl (cs := #[.int .i64 0, .int .i64 0, .int .i64 0]) (e := 65) HG1.out rfl inf65 rfl (by simp [Value.oneCell']) ?_
      intro w3 hg3 hgr3 hz3
      have HG3 := Lib.hid hg3
      clear hg3
      go_wp2
      refine ret_group _ rfl rfl HG3.out ⟨ret_gp HGR.out rfl, ?_⟩
      exact (below_drews HB1.out n2).grown hgr3 HB1.out.size (fun k hk => by cases hk; exact Nat.le_refl _)
    · have hgr := group_lit HS0.out hs (by rw [HR.out]; exact h2)
      rw [HG.out] at hgr
      have HGR := Lib.hid hgr
      have hR1 : R = 1 := by omega
      have hl0 : Hid (litMore (xs.drop (at_ + 1)) + 1 = 1 + litMore (xs.drop (at_ + 1))) := Nat.add_comm _ _
      clear hs hgr h2
      subst hR1
      clear HR hrp hrl2
      go_wp2
      go_loopw [5] (fun n w' => ∃ k : Nat, n = .int .i64 k ∧ 1 ≤ k ∧ at_ + k ≤ xs.length ∧ Hid (litMore (xs.drop (at_ + 1)) + 1 = k + litMore (xs.drop (at_ + k))) ∧ ∃ q, w' = w1.drewN q) (fun n w' => xs.length - (intOf n).toNat)
      case atStart => exact ⟨1, rfl, by omega, by omega, hl0, n2, rfl⟩
      case round =>
        clear p0 q0 hd hc0
        obtain ⟨k, rfl, hk1, hk2, hk, q, rfl⟩ := hrel
        by_cases hlt : at_ + k < xs.length
        · obtain ⟨s1, hs1⟩ : ∃ s, xs[at_ + k]? = some s := ⟨_, List.getElem?_eq_getElem hlt⟩
          obtain ⟨p1, q1⟩ := secP_of (h1.at hs1)
          have hrr := lit_round hs1 hk
          have HRR := Lib.hid hrr
          have HS1 := Lib.hid hs1
          clear hs1 hrr
          by_cases hz : s1 = Sec.zero
          · have hX := HRR.out.2 (.inl hz)
            have HX := Lib.hid hX
            have hd : decide (s1 = Sec.zero) = true := decide_eq_true hz
            clear hz hX HRR
            go_wp2_with ((with_reducible refine Stop.store 65 ?hst ?_); (case hst => rfl))
            refine Stop.go ?_
            refine step_store_row rfl 65 (.tmp 4) (.tmp 53) rfl rfl (cs := #[.int .i64 0, .int .i64 0, .int .i64 0]) (e := 65) HG1.out rfl inf65 rfl (by simp [Value.oneCell']) ?_
            intro w3 hg3 hgr3 hz3
            have HG3 := Lib.hid hg3
            clear hg3
            go_wp2
            refine ret_group _ rfl rfl HG3.out ⟨ret_gp (HGR.out.trans (by rw [HX.out])) rfl, ?_⟩
            exact (below_drews HB1.out q).grown hgr3 HB1.out.size (fun k hk => by cases hk; exact Nat.le_refl _)
          · have hd : decide (s1 = Sec.zero) = false := decide_eq_false hz
            obtain ⟨R1, hR1⟩ : ∃ R, runAt (xs.drop (at_ + k)) = R := ⟨_, rfl⟩
            have HR1 := Lib.hid hR1
            have HZ := Lib.hid hz
            clear hz
            go_wp2_with fail
            refine (run_calls _ c (at_ + k) xs (w1.drewN q) (h1.drews q) hlen hlt).mono ?_
            rintro e w3 ⟨rfl, n3, rfl⟩
            rw [hR1]
            clear hR1
            by_cases hr1 : R1 = 1
            · have hX := HRR.out.1 HZ.out (by rw [HR1.out]; exact hr1)
              have hb1 : ((R1 : Int) == 1) = true := by simp [hr1]
              clear HRR hr1
              go_wp2
              exact ⟨⟨k + 1, rfl, by omega, by omega, hX, q + n3, rfl⟩, by simp [intOf]; omega⟩
            · have hX := HRR.out.2 (.inr (by rw [HR1.out]; exact hr1))
              have HX := Lib.hid hX
              have hb1 : ((R1 : Int) == 1) = false := by simp; omega
              clear HRR hr1 hX
              go_wp2_with ((with_reducible refine Stop.store 65 ?hst ?_); (case hst => rfl))
              refine Stop.go ?_
              refine step_store_row rfl 65 (.tmp 4) (.tmp 53) rfl rfl (cs := #[.int .i64 0, .int .i64 0, .int .i64 0]) (e := 65) HG1.out rfl inf65 rfl (by simp [Value.oneCell']) ?_
              intro w3 hg3 hgr3 hz3
              have HG3 := Lib.hid hg3
              clear hg3
              go_wp2
              refine ret_group _ rfl rfl HG3.out ⟨ret_gp (HGR.out.trans (by rw [HX.out])) rfl, ?_⟩
              exact (below_drews HB1.out (q + n3)).grown hgr3 HB1.out.size (fun k hk => by cases hk; exact Nat.le_refl _)
        · have e : xs.drop (at_ + k) = [] := List.drop_eq_nil_of_le (by omega)
          have hX : litMore (xs.drop (at_ + 1)) + 1 = k := by
            have := hk.out
            rw [e, litMore_nil] at this
            exact this
          have HX := Lib.hid hX
          clear e hX
          go_wp2_with ((with_reducible refine Stop.store 65 ?hst ?_); (case hst => rfl))
          refine Stop.go ?_
          refine step_store_row rfl 65 (.tmp 4) (.tmp 53) rfl rfl (cs := #[.int .i64 0, .int .i64 0, .int .i64 0]) (e := 65) HG1.out rfl inf65 rfl (by simp [Value.oneCell']) ?_
          intro w3 hg3 hgr3 hz3
          have HG3 := Lib.hid hg3
          clear hg3
          go_wp2
          refine ret_group _ rfl rfl HG3.out ⟨ret_gp (HGR.out.trans (by rw [HX.out])) rfl, ?_⟩
          exact (below_drews HB1.out q).grown hgr3 HB1.out.size (fun k hk => by cases hk; exact Nat.le_refl _)
end Go.Proofs.Ytfdkhopionknaaa
