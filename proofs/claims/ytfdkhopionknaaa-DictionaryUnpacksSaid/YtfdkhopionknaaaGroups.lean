/- The groups of a list (reference's text). -/
import Derived.Test.YtfdkhopionknaaaNext
namespace Go.Proofs.Ytfdkhopionknaaa
open Go.RowKit
set_option linter.unusedVariables false
set_option linter.unusedSimpArgs false
attribute [local go_sem ↓] run_load_sec run_eql_sec run_neq_sec
attribute [local go_sem] SecP_drewN secP_drewN isSec_secV unSec_secV isSec_zero unSec_zero

def Groups (w : World) (xs : List Sec) (e : Ending) (w' : World) : Prop :=
  ∃ v', e = .returned v' ∧ Own w' w.heap.size 70 3 v' (groupsAt xs 0).length ((groupsAt xs 0).flatMap gcells) ∧ Below w.heap.size w w'

theorem groups_rel {w wr w3 : World} {xs : List Sec} {gs : List (Nat × Nat × Nat)} {j K N q : Nat} {v v1 : Value} (hg : groupsAt xs j = (K, j, N) :: groupsAt xs (j + N)) (hjn : j + N ≤ xs.length) (hN : 1 ≤ N) (hgs : Hid (gs ++ groupsAt xs j = groupsAt xs 0)) (hgl : gs.length ≤ j)
    (ho : Own wr w.heap.size 70 3 v gs.length (gs.flatMap gcells)) (ho3 : Own w3 w.heap.size 70 3 v1 (gs.length + 1) (gs.flatMap gcells ++ (#[Value.int .i64 (K : Int), .int .i64 (j : Int), .int .i64 (N : Int)] : Array Value).toList)) (hb : Below w.heap.size w wr)
    (hg3 : Grew ((wr.drewN q).alloc (.cells #[.int .i64 (K : Int), .int .i64 (j : Int), .int .i64 (N : Int)] 70)) w3 v v1) :
    ∃ (gs : List (Nat × Nat × Nat)) (j' : Nat), Value.int .i64 ((j : Int) + (N : Int)) = .int .i64 j' ∧ j' ≤ xs.length ∧ Hid (gs ++ groupsAt xs j' = groupsAt xs 0) ∧ gs.length ≤ j' ∧ Own w3 w.heap.size 70 3 v1 gs.length (gs.flatMap gcells) ∧ Below w.heap.size w w3 := by
  have hs := hb.size
  refine ⟨gs ++ [(K, j, N)], j + N, by simp, hjn, ?_, by simp; omega, ?_, ?_⟩
  · show _ = _
    rw [← hgs.out, hg]; simp
  · rw [List.length_append, List.flatMap_append]
    exact ho3
  · exact ((below_drews hb q).alloc (by simpa using hs) _).trans (hg3.below ((ho.below (below_drews (Below.refl _ _) q)).alloc _) (by simp; omega))

set_option maxRecDepth 20000 in
set_option maxHeartbeats 2000000 in
theorem groups_calls (A : Option Addr) (c : Nat) (xs : List Sec) (w : World) (h : Secs w A c xs) (hlen : xs.length ≤ 1099511627776) :
    Calls Try.prog 44 #[.slice A xs.length c] w (Groups w xs) := by
  go_enter Try.func44, Try.ntmps44
  go_wp2
  go_loopw [3, 4, 5, 6] (fun v i _ _ w' => ∃ (gs : List (Nat × Nat × Nat)) (j : Nat), i = .int .i64 j ∧ j ≤ xs.length ∧ Hid (gs ++ groupsAt xs j = groupsAt xs 0) ∧ gs.length ≤ j ∧ Own w' w.heap.size 70 3 v gs.length (gs.flatMap gcells) ∧ Below w.heap.size w w') (fun _ i _ _ w' => xs.length - (intOf i).toNat)
  case atStart => exact ⟨[], 0, rfl, Nat.zero_le _, rfl, Nat.le_refl _, Own.nil _ _ _ _, Below.refl _ _⟩
  case round =>
    obtain ⟨gs, j, rfl, hj, hgs, hgl, hown, hb⟩ := hrel
    by_cases hlt : j < xs.length
    · have h1 := h.below hb
      obtain ⟨a, rfl⟩ := h.some_of hlt
      obtain ⟨s0, hs0⟩ : ∃ s, xs[j]? = some s := ⟨_, List.getElem?_eq_getElem hlt⟩
      obtain ⟨p0, q0⟩ := secP_of (h1.at hs0)
      have HS0 := Lib.hid hs0
      have HO := Lib.hid hown
      have HB := Lib.hid hb
      have hrp := runAt_pos (xs.drop j)
      have hrl := runAt_le (xs.drop j) (by intro e; have := congrArg List.length e; simp at this; omega)
      have hrl2 : runAt (xs.drop j) ≤ xs.length - j := by simpa using hrl
      obtain ⟨R, hR⟩ : ∃ R, runAt (xs.drop j) = R := ⟨_, rfl⟩
      have HR := Lib.hid hR
      clear hs0 hown hb hrl
      go_wp2_with fail
      refine (refequal_calls _ c j xs _ h1 hlen hlt).mono ?_
      rintro e w2 ⟨rfl, n2, rfl⟩
      rw [hR] at hrp hrl2 ⊢
      clear hR
      by_cases hs : s0 = Sec.zero
      · have hd : decide (s0 = Sec.zero) = true := decide_eq_true hs
        have hgr := group_zero (hs ▸ HS0.out)
        rw [HR.out] at hgr
        have HGR := Lib.hid (groupsAt_cons hlt hgr)
        clear hs hgr
        go_wp2_with (at_builtin; refine Stop.at ?_)
        refine Stop.go ?_
        refine step_append E67 rfl (.tmp 50) (.tmp 55) rfl w.heap.size rfl ((HO.out.below (below_drews (Below.refl _ _) n2)).alloc _) rfl (Rd.new _ 70 #[.int .i64 2, .int .i64 j, .int .i64 R] 1 (by decide)) rfl (by simp [Value.oneCell']) (by omega) (by decide) (by have := HB.out.size; simp; omega) ?_
        intro v1 w3 ho3 hg3
        have HO3 := Lib.hid ho3
        have HG3 := Lib.hid hg3
        clear ho3 hg3
        go_wp2
        go_roundw
        case rel => exact groups_rel HGR.out (by omega) (by omega) hgs hgl HO.out HO3.out HB.out HG3.out
        case measure => simp [intOf]; omega
      · have hd : decide (s0 = Sec.zero) = false := decide_eq_false hs
        by_cases h2 : 2 ≤ R
        · have hgr := group_rep HS0.out hs (by rw [HR.out]; exact h2)
          rw [HR.out] at hgr
          have HGR := Lib.hid (groupsAt_cons hlt hgr)
          clear hs hgr
          go_wp2_with (at_builtin; refine Stop.at ?_)
          refine Stop.go ?_
          refine step_append E67 rfl (.tmp 50) (.tmp 55) rfl w.heap.size rfl ((HO.out.below (below_drews (Below.refl _ _) n2)).alloc _) rfl (Rd.new _ 70 #[.int .i64 1, .int .i64 j, .int .i64 R] 1 (by decide)) rfl (by simp [Value.oneCell']) (by omega) (by decide) (by have := HB.out.size; simp; omega) ?_
          intro v1 w3 ho3 hg3
          have HO3 := Lib.hid ho3
          have HG3 := Lib.hid hg3
          clear ho3 hg3
          go_wp2
          go_roundw
          case rel => exact groups_rel HGR.out (by omega) (by omega) hgs hgl HO.out HO3.out HB.out HG3.out
          case measure => simp [intOf]; omega
        · have hgr := group_lit HS0.out hs (by rw [HR.out]; exact h2)
          have hR1 : R = 1 := by omega
          have hl0 : Hid (litMore (xs.drop (j + 1)) + 1 = 1 + litMore (xs.drop (j + 1))) := Nat.add_comm _ _
          have HGR0 := Lib.hid hgr
          clear hs hgr h2
          subst hR1
          clear HR hrp hrl2
          go_wp2
          obtain ⟨wo, hwo⟩ : ∃ wo : World, wr = wo := ⟨_, rfl⟩
          subst hwo
          go_loopw [5] (fun n w' => ∃ k : Nat, n = .int .i64 k ∧ 1 ≤ k ∧ j + k ≤ xs.length ∧ Hid (litMore (xs.drop (j + 1)) + 1 = k + litMore (xs.drop (j + k))) ∧ ∃ q, w' = wr.drewN q) (fun n w' => xs.length - (intOf n).toNat)
          case atStart => exact ⟨1, rfl, by omega, by omega, hl0, n2, rfl⟩
          case round =>
            clear p0 q0 hd
            obtain ⟨k, rfl, hk1, hk2, hk, q, rfl⟩ := hrel
            by_cases hlt2 : j + k < xs.length
            · obtain ⟨s1, hs1⟩ : ∃ s, xs[j + k]? = some s := ⟨_, List.getElem?_eq_getElem hlt2⟩
              obtain ⟨p1, q1⟩ := secP_of (h1.at hs1)
              have hrr := lit_round hs1 hk
              have HRR := Lib.hid hrr
              have HS1 := Lib.hid hs1
              clear hs1 hrr
              by_cases hz : s1 = Sec.zero
              · have hX := HRR.out.2 (.inl hz)
                have HGR := Lib.hid (groupsAt_cons hlt (HGR0.out.trans (by rw [hX])))
                have hd : decide (s1 = Sec.zero) = true := decide_eq_true hz
                clear hz hX HRR
                go_wp2_with (at_builtin; refine Stop.at ?_)
                refine Stop.go ?_
                refine step_append E67 rfl (.tmp 50) (.tmp 55) rfl w.heap.size rfl ((HO.out.below (below_drews (Below.refl _ _) q)).alloc _) rfl (Rd.new _ 70 #[.int .i64 0, .int .i64 j, .int .i64 k] 1 (by decide)) rfl (by simp [Value.oneCell']) (by omega) (by decide) (by have := HB.out.size; simp; omega) ?_
                intro v1 w3 ho3 hg3
                have HO3 := Lib.hid ho3
                have HG3 := Lib.hid hg3
                clear ho3 hg3
                go_wp2
                go_roundw
                case rel => exact groups_rel HGR.out (by omega) (by omega) hgs hgl HO.out HO3.out HB.out HG3.out
                case measure => simp [intOf]; omega
              · have hd : decide (s1 = Sec.zero) = false := decide_eq_false hz
                obtain ⟨R1, hR1⟩ : ∃ R, runAt (xs.drop (j + k)) = R := ⟨_, rfl⟩
                have HR1 := Lib.hid hR1
                have HZ := Lib.hid hz
                clear hz
                go_wp2_with fail
                refine (refequal_calls _ c (j + k) xs (wr.drewN q) (h1.drews q) hlen hlt2).mono ?_
                rintro e w3 ⟨rfl, n3, rfl⟩
                rw [hR1]
                clear hR1
                by_cases hr1 : R1 = 1
                · have hX := HRR.out.1 HZ.out (by rw [HR1.out]; exact hr1)
                  have hb1 : ((R1 : Int) == 1) = true := by simp [hr1]
                  clear HRR hr1
                  go_wp2
                  exact ⟨⟨k + 1, rfl, by omega, by omega, hX, q + n3, rfl⟩, by simp [intOf]; omega⟩
                · have hX := HRR.out.2 (.inr (by rw [HR1.out]; exact hr1))
                  have HGR := Lib.hid (groupsAt_cons hlt (HGR0.out.trans (by rw [hX])))
                  have hb1 : ((R1 : Int) == 1) = false := by simp; omega
                  clear HRR hr1 hX
                  go_wp2_with (at_builtin; refine Stop.at ?_)
                  refine Stop.go ?_
                  refine step_append E67 rfl (.tmp 50) (.tmp 55) rfl w.heap.size rfl ((HO.out.below (below_drews (Below.refl _ _) (q + n3))).alloc _) rfl (Rd.new _ 70 #[.int .i64 0, .int .i64 j, .int .i64 k] 1 (by decide)) rfl (by simp [Value.oneCell']) (by omega) (by decide) (by have := HB.out.size; simp; omega) ?_
                  intro v1 w3 ho3 hg3
                  have HO3 := Lib.hid ho3
                  have HG3 := Lib.hid hg3
                  clear ho3 hg3
                  go_wp2
                  go_roundw
                  case rel => exact groups_rel HGR.out (by omega) (by omega) hgs hgl HO.out HO3.out HB.out HG3.out
                  case measure => simp [intOf]; omega
            · have e : xs.drop (j + k) = [] := List.drop_eq_nil_of_le (by omega)
              have hX : litMore (xs.drop (j + 1)) + 1 = k := by
                have := hk.out
                rw [e, litMore_nil] at this
                exact this
              have HGR := Lib.hid (groupsAt_cons hlt (HGR0.out.trans (by rw [hX])))
              clear e hX
              go_wp2_with (at_builtin; refine Stop.at ?_)
              refine Stop.go ?_
              refine step_append E67 rfl (.tmp 50) (.tmp 55) rfl w.heap.size rfl ((HO.out.below (below_drews (Below.refl _ _) q)).alloc _) rfl (Rd.new _ 70 #[.int .i64 0, .int .i64 j, .int .i64 k] 1 (by decide)) rfl (by simp [Value.oneCell']) (by omega) (by decide) (by have := HB.out.size; simp; omega) ?_
              intro v1 w3 ho3 hg3
              have HO3 := Lib.hid ho3
              have HG3 := Lib.hid hg3
              clear ho3 hg3
              go_wp2
              go_roundw
              case rel => exact groups_rel HGR.out (by omega) (by omega) hgs hgl HO.out HO3.out HB.out HG3.out
              case measure => simp [intOf]; omega
    · have hgs' := hgs.out
      rw [groupsAt_nil hlt, List.append_nil] at hgs'
      subst hgs'
      have HO := Lib.hid hown
      clear hown
      go_wp2
      go_ret
      exact ⟨_, rfl, HO.out, hb⟩
end Go.Proofs.Ytfdkhopionknaaa
