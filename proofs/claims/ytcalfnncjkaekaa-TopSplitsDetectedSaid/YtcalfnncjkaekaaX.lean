/- TopSplitsDetected (3): the law's walk. -/
import Derived.Test.YtcalfnncjkaekaaFs
namespace Go.Proofs.Ytcalfnncjkaekaa
open Go.RowKit
set_option linter.unusedVariables false
set_option linter.unusedSimpArgs false
set_option maxRecDepth 20000

set_option maxHeartbeats 4000000 in
theorem splits3 (x y p q : Nat) (w : World) (hx : x < 256) (hy : y < 256) (hp : p < 256) (hq : q < 256) :
    Calls Try.prog 3 #[.int .u8 x, .int .u8 y, .agg #[.int .u8 p, .int .u8 q]] w fun e w' => e = .returned (.bool true) ∧ Below w.heap.size w w' := by
  obtain ⟨n, hn, hn7⟩ : ∃ n : Nat, (x : Int) % 8 = (n : Int) ∧ n ≤ 7 := ⟨x % 8, by omega, by omega⟩
  obtain ⟨m, hm, hmn⟩ : ∃ m : Nat, (y : Int) % ((n : Int) + 1) = (m : Int) ∧ m ≤ n := ⟨y % (n + 1), by simp, by have := Nat.mod_lt y (show 0 < n + 1 by omega); omega⟩
  obtain ⟨o, ho, ho4⟩ : ∃ o : Nat, (p : Int) % 5 = (o : Int) ∧ o ≤ 4 := ⟨p % 5, by omega, by omega⟩
  obtain ⟨k, hk, hk4⟩ : ∃ k : Nat, (q : Int) % 5 = (k : Int) ∧ k ≤ 4 := ⟨q % 5, by omega, by omega⟩
  have hmno : m ≤ n + o := by omega
  have hv : wrap64 ((n : Int) + (o : Int)) = (n : Int) + (o : Int) := by
    clear hn hm ho hk
    unfold wrap64
    omega
  obtain ⟨f1, h1⟩ : ∃ f : Bool, decide (m < n + o) = f := ⟨_, rfl⟩
  obtain ⟨f2, h2⟩ : ∃ f : Bool, decide (0 < k) = f := ⟨_, rfl⟩
  have e1 : decide ((m : Int) < (n : Int) + (o : Int)) = f1 := by
    rw [← h1]
    exact decide_eq_decide.2 ⟨fun h => by clear hn hm ho hk; omega, fun h => by clear hn hm ho hk; omega⟩
  have e2 : decide (0 < (k : Int)) = f2 := by
    rw [← h2]
    exact decide_eq_decide.2 ⟨fun h => by clear hn hm ho hk; omega, fun h => by clear hn hm ho hk; omega⟩
  have hd : (decide (m < n + o) && decide (0 < k)) = (f1 && f2) := by rw [h1, h2]
  have VN := Lib.hid hn
  have VM := Lib.hid hm
  have VO := Lib.hid ho
  have VK := Lib.hid hk
  clear h1 hn hm ho hk
  cases f1 <;> cases f2
  all_goals
    simp only [Bool.and_self, Bool.and_true, Bool.and_false, Bool.true_and, Bool.false_and] at hd
    have HD := Lib.hid hd
    have hk0 := h2
    simp only [decide_eq_false_iff_not, decide_eq_true_eq] at hk0
    clear hd
    go_enter Try.func3, Try.ntmps3
    go_wp2_with fail
    refine wp_region_quiet_lit (by kernel_rfl) (by kernel_rfl) ?_
    repeat (go_big_quiet_step (fail))
    refine wpQuiet_nil ?_
    intro _ hw'
    obtain ⟨nq, hw''⟩ := hw'
    subst hw''
    go_wp2_with fail
    simp only [VN.out, VM.out, VO.out, VK.out]
    have hb0 : Below w.heap.size w (World.drewN (w.alloc (.cells #[.int .u8 p, .int .u8 q] 22)) nq) := below_drews (below_new _ _) nq
    refine (trySplit4 n m o k _ (by omega) hmn (by omega) (by omega)).mono ?_
    rintro e w1 ⟨g, A, c, B, d, rfl, ht1, hr1, _, hm1, _, hb1⟩
    have HT1 := Lib.hid ht1
    have HR1 := Lib.hid hr1
    have HM1 := Lib.hid hm1
    have HB1 := Lib.hid (below_then hb0 hb1)
    clear ht1 hr1 hm1 hb0 hb1
    go_wp2_with fail
    refine (diverged_two g (n + o) m k A B c d w1 hmno (by omega) (by omega) HT1.out HR1.out HM1.out _ HD.out).mono ?_
    rintro e w2 ⟨v, nv, rfl, hf, hb2⟩
    obtain ⟨xs, hfo, hx⟩ := hf
    obtain ⟨A0, c0, rfl⟩ := own_form hfo
    rcases hx with ⟨hFF, rfl, _⟩ | ⟨hFF, rfl, _⟩
    all_goals
      cases hFF
    all_goals
      have HB2 := Lib.hid hb2
      have ht2 := HT1.out.below hb2
      obtain ⟨x0, x1, x2, x3, x4, x5, x6, x7⟩ : _ ∧ _ := ht2.cells0
      obtain ⟨y0, y1, y2, y3, y4, y5, y6, y7⟩ : _ ∧ _ := ht2.cells1
      clear hfo hb2
      go_wp2_with fail
      go_region_held3 (fun wx => wx.cell? ⟨g, 4, none⟩ = some (.slice A (linA (n + o)).length c) ∧ wx.cell? ⟨g, 12, none⟩ = some (.slice B (linB m k).length d)) (first | exact ⟨x4, y4⟩ | exact ⟨z4, u4⟩) (first | (go_at_call 6; refine (fork_two (n + o) m k A B c d w2.drew hmno (by omega) (by omega) (((HR1.out.below HB2.out)).kp (fun _ _ h => h)) (((HM1.out.below HB2.out)).kp (fun _ _ h => h)) _ HD.out).mono ?_; rintro e w3 ⟨rfl, hb3⟩; obtain ⟨z0, z1, z2, z3, z4, z5, z6, z7⟩ : _ ∧ _ := (TwoAt.below (w := w2.drew) ht2 hb3).cells0; obtain ⟨u0, u1, u2, u3, u4, u5, u6, u7⟩ : _ ∧ _ := (TwoAt.below (w := w2.drew) ht2 hb3).cells1; have HB3 := Lib.hid (below_then HB2.out.drew hb3); clear hb3))
      simp only [Exit.then]
      clear x0 x1 x2 x3 x4 x5 x6 x7 y0 y1 y2 y3 y4 y5 y6 y7 z0 z1 z2 z3 z4 z5 z6 z7 u0 u1 u2 u3 u4 u5 u6 u7
      go_wp2_with fail
      refine (awake7 w3).mono ?_
      rintro e w4 ⟨rfl, hb4⟩
      have HB4 := Lib.hid (below_then HB1.out (below_then HB3.out hb4))
      clear hb4
      go_wp2
      go_returns
      exact ⟨rfl, HB4.out⟩
end Go.Proofs.Ytcalfnncjkaekaa
