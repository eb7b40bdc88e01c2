/- Layer 6, the reference: length (77), best (58). -/
import Derived.Test.YtfdkhopionknaaaDicB
namespace Go.Proofs.Ytfdkhopionknaaa
open Go.RowKit
set_option linter.unusedVariables false
set_option linter.unusedSimpArgs false

set_option maxRecDepth 20000 in
set_option maxHeartbeats 4000000 in
theorem reflength_calls (at_ d : Nat) (all : List UInt8) (A : Option Addr) (ac : Nat) (w : World) (hA : Bytes w A ac all) (hd1 : 1 ≤ d) (hd : d ≤ at_) (hat : at_ ≤ all.length) (hl : all.length ≤ 1000000) :
    Calls Try.prog 77 #[.slice A all.length ac, .int .i64 at_, .int .i64 d] w fun e w' => e = .returned (.int .i64 (matchLen all at_ (at_ - d))) ∧ ∃ q, w' = w.drewN q := by
  obtain ⟨i, hi⟩ : ∃ i, at_ - d = i := ⟨_, rfl⟩
  rw [hi]
  obtain ⟨M, hM⟩ : ∃ M, matchLen all at_ i = M := ⟨_, rfl⟩
  have HM := Lib.hid hM
  rw [hM]
  have HI := Lib.hid hi
  have hia : i < at_ := by omega
  clear hM hi
  go_enter Try.func77, Try.ntmps77
  go_wp2
  go_loopw [7] (fun n w' => ∃ k q : Nat, n = .int .i64 k ∧ k ≤ 131 ∧ at_ + k ≤ all.length ∧ Hid (matchLen all at_ i = lenFrom all at_ i (131 - k) k) ∧ w' = w.drewN q) (fun n w' => 131 - (intOf n).toNat)
  case atStart => exact ⟨0, 0, rfl, by omega, by omega, rfl, rfl⟩
  case round =>
    obtain ⟨k, q, rfl, hk, hak, hmk, rfl⟩ := hrel
    have v1 : IntKind.i64.wrap ((at_ : Int) + (k : Int)) = (at_ : Int) + k := by rw [IntKind.wrap_i64]; omega
    by_cases h131 : k < 131
    · have b1 : (k : Int) < 131 := by omega
      by_cases hlt : at_ + k < all.length
      · have b2 : (at_ : Int) + (k : Int) < (all.length : Int) := by omega
        obtain ⟨a, rfl⟩ := hA.some_of hlt
        obtain ⟨x1, hx1, hcx1, hx1', _⟩ := byte_at hA (k := i + k) (by omega)
        obtain ⟨x2, hx2, hcx2, hx2', _⟩ := byte_at hA hlt
        have t2 : ((at_ : Int) + (k : Int)).toNat = at_ + k := by omega
        have b4 : (0 : Int) ≤ (at_ : Int) + k := by omega
        have v2 : IntKind.i64.wrap ((at_ : Int) + (k : Int) - (d : Int)) = ((i + k : Nat) : Int) := by have := HI.out; rw [IntKind.wrap_i64]; omega
        obtain ⟨J, hJ⟩ : ∃ J, i + k = J := ⟨_, rfl⟩
        rw [hJ] at v2 hcx1
        have hJl : J < all.length := by omega
        have hJi : (J : Int) < (all.length : Int) := by omega
        have HJ := Lib.hid hJ
        clear hJ
        by_cases hx : x1 = x2
        · have HY := Lib.hid (hmk.out.trans (lenFrom_yes h131 hlt (by rw [hx1, hx2, hx])))
          have b6 : ((x2.toNat : Int) == (x1.toNat : Int)) = true := by rw [beq_iff_eq, hx]
          clear hx1 hx2 hx
          go_wp2
          go_quiet (fail)
          go_wp2
          exact ⟨⟨k + 1, q + nq, rfl, by omega, by omega, HY, by simp⟩, by simp [intOf]; omega⟩
        · have HY := Lib.hid (hmk.out.trans (lenFrom_no (.inr (.inr (by rw [hx1, hx2]; exact fun e => hx (Option.some.inj e))))))
          have b6 : ((x2.toNat : Int) == (x1.toNat : Int)) = false := by
            rw [beq_eq_false_iff_ne]
            exact fun e => hx (UInt8.toNat_inj.1 (Int.ofNat_inj.1 e.symm))
          clear hx1 hx2 hx
          go_wp2
          go_quiet (fail)
          go_wp2
          go_ret
          exact ⟨by rw [← HM.out, HY.out]; rfl, q + nq, World.drewN_drewN _ _ _⟩
      · have b2 : ¬ ((at_ : Int) + (k : Int) < (all.length : Int)) := by omega
        have HY := Lib.hid (hmk.out.trans (lenFrom_no (.inr (.inl hlt))))
        have d2 : decide ((at_ : Int) + (k : Int) < (all.length : Int)) = false := decide_eq_false b2
        go_wp2
        go_quiet (fail)
        go_wp2
        go_ret
        exact ⟨by rw [← HM.out, HY.out]; rfl, q + nq, World.drewN_drewN _ _ _⟩
    · have b1 : ¬ ((k : Int) < 131) := by omega
      have HY := Lib.hid (hmk.out.trans (lenFrom_no (.inl (by omega))))
      have d1 : decide ((k : Int) < 131) = false := decide_eq_false b1
      go_wp2
      go_quiet (fail)
      go_wp2
      go_ret
      exact ⟨by rw [← HM.out, HY.out]; rfl, q + nq, World.drewN_drewN _ _ _⟩

theorem refBest_step {all : List UInt8} {at_ d dist most M : Nat} {r : Nat × Nat} (hd : d ≤ min 4096 at_) (hM : matchLen all at_ (at_ - d) = M) (h : refBest all at_ (min 4096 at_ + 1 - d) d dist most = r) :
    (4 ≤ M ∧ most < M → refBest all at_ (min 4096 at_ + 1 - (d + 1)) (d + 1) d M = r) ∧ (¬ (4 ≤ M ∧ most < M) → refBest all at_ (min 4096 at_ + 1 - (d + 1)) (d + 1) dist most = r) := by
  have e : min 4096 at_ + 1 - d = (min 4096 at_ + 1 - (d + 1)) + 1 := by omega
  rw [e, refBest, hM] at h
  exact ⟨fun hc => by rwa [if_pos hc] at h, fun hc => by rwa [if_neg hc] at h⟩

set_option maxRecDepth 20000 in
set_option maxHeartbeats 4000000 in
theorem refbest_calls (at_ : Nat) (all : List UInt8) (A : Option Addr) (ac : Nat) (w : World) (hA : Bytes w A ac all) (hat : at_ ≤ all.length) (hl : all.length ≤ 1000000) (D N : Nat) (hb : best all at_ = (D, N)) :
    Calls Try.prog 58 #[.slice A all.length ac, .int .i64 at_] w fun e w' => e = .returned (.tuple #[.int .i64 D, .int .i64 N]) ∧ ∃ q, w' = w.drewN q := by
  have HB := Lib.hid hb
  clear hb
  go_enter Try.func58, Try.ntmps58
  go_wp2
  go_loopw [6, 7, 8] (fun dv mv iv w' => ∃ dd mm d q : Nat, dv = .int .i64 dd ∧ mv = .int .i64 mm ∧ iv = .int .i64 d ∧ 1 ≤ d ∧ d ≤ min 4096 at_ + 1 ∧ mm ≤ 131 ∧ Hid (refBest all at_ (min 4096 at_ + 1 - d) d dd mm = (D, N)) ∧ w' = w.drewN q) (fun dv mv iv w' => 5000 - (intOf iv).toNat)
  case atStart => exact ⟨0, 0, 1, 0, rfl, rfl, rfl, Nat.le_refl _, by omega, by omega, by show refBest _ _ _ _ _ _ = _; rw [Nat.add_sub_cancel]; exact HB.out, rfl⟩
  case round =>
    obtain ⟨dd, mm, d, q, rfl, rfl, rfl, hd1, hd2, hmm, hrb, rfl⟩ := hrel
    by_cases hd4 : d ≤ 4096
    · have b1 : (d : Int) ≤ 4096 := by omega
      by_cases hda : d ≤ at_
      · have b2 : (d : Int) ≤ (at_ : Int) := by omega
        obtain ⟨M, hM⟩ : ∃ M, matchLen all at_ (at_ - d) = M := ⟨_, rfl⟩
        have hM131 := (matchLen_le all at_ (at_ - d) hat).1
        rw [hM] at hM131
        obtain ⟨hs1, hs2⟩ := refBest_step (by omega) hM hrb.out
        have HS1 := Lib.hid hs1
        have HS2 := Lib.hid hs2
        have HMM := Lib.hid hM
        have v1 : IntKind.i64.wrap ((d : Int) + 1) = ((d + 1 : Nat) : Int) := by rw [IntKind.wrap_i64]; omega
        clear hs1 hs2 hM
        go_wp2_with fail
        refine (reflength_calls at_ d all A ac (w.drewN q) (hA.drews q) hd1 hda hat hl).mono ?_
        rintro e w6 ⟨rfl, q6, rfl⟩
        rw [HMM.out]
        by_cases h4 : 4 ≤ M
        · have b3 : (4 : Int) ≤ (M : Int) := by omega
          by_cases hg : mm < M
          · have b4 : (mm : Int) < (M : Int) := by omega
            have HN := Lib.hid (HS1.out ⟨h4, hg⟩)
            go_wp2
            exact ⟨⟨d, M, d + 1, _, rfl, rfl, rfl, by omega, by omega, hM131, HN, rfl⟩, by simp [intOf]; omega⟩
          · have b4 : ¬ (mm : Int) < (M : Int) := by omega
            have HN := Lib.hid (HS2.out (fun h => hg h.2))
            go_wp2
            exact ⟨⟨dd, mm, d + 1, _, rfl, rfl, rfl, by omega, by omega, hmm, HN, rfl⟩, by simp [intOf]; omega⟩
        · have b3 : ¬ (4 : Int) ≤ (M : Int) := by omega
          have HN := Lib.hid (HS2.out (fun h => h4 h.1))
          go_wp2
          exact ⟨⟨dd, mm, d + 1, _, rfl, rfl, rfl, by omega, by omega, hmm, HN, rfl⟩, by simp [intOf]; omega⟩
      · have b2 : ¬ (d : Int) ≤ (at_ : Int) := by omega
        have hx := hrb.out
        rw [show min 4096 at_ + 1 - d = 0 by omega] at hx
        obtain ⟨rfl, rfl⟩ : dd = D ∧ mm = N := by cases hx; exact ⟨rfl, rfl⟩
        clear hx
        go_wp2
        go_ret2
        exact ⟨rfl, q, rfl⟩
    · have b1 : ¬ (d : Int) ≤ 4096 := by omega
      have hx := hrb.out
      rw [show min 4096 at_ + 1 - d = 0 by omega] at hx
      obtain ⟨rfl, rfl⟩ : dd = D ∧ mm = N := by cases hx; exact ⟨rfl, rfl⟩
      clear hx
      go_wp2
      go_ret2
      exact ⟨rfl, q, rfl⟩
end Go.Proofs.Ytfdkhopionknaaa
