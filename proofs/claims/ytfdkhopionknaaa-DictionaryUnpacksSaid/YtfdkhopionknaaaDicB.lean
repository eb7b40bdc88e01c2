/- Layer 6: length (76), best (54). -/
import Derived.Test.YtfdkhopionknaaaDicQ
namespace Go.Proofs.Ytfdkhopionknaaa
open Go.RowKit
set_option linter.unusedVariables false
set_option linter.unusedSimpArgs false

theorem lenFrom_yes {all : List UInt8} {at_ i n : Nat} (hn : n < 131) (h : at_ + n < all.length) (e : all[i + n]? = all[at_ + n]?) : lenFrom all at_ i (131 - n) n = lenFrom all at_ i (131 - (n + 1)) (n + 1) := by
  have : 131 - n = (131 - (n + 1)) + 1 := by omega
  rw [this, lenFrom, if_pos ⟨h, e⟩]
theorem lenFrom_no {all : List UInt8} {at_ i n : Nat} (h : n = 131 ∨ ¬ at_ + n < all.length ∨ all[i + n]? ≠ all[at_ + n]?) : lenFrom all at_ i (131 - n) n = n := by
  rcases Nat.eq_zero_or_pos (131 - n) with e | e
  · rw [e]; rfl
  · have : 131 - n = (131 - (n + 1)) + 1 := by omega
    rw [this, lenFrom, if_neg]
    rintro ⟨h1, h2⟩
    rcases h with h | h | h
    · omega
    · exact h h1
    · exact h h2

set_option maxRecDepth 20000 in
set_option maxHeartbeats 4000000 in
theorem length_calls (eb at_ i : Nat) (all : List UInt8) (A : Option Addr) (ac : Nat) (vt vw vm : Value) (w : World) (hE : w.heap[eb]? = some (.cells #[vt, vw, .slice A all.length ac, .int .i64 at_, vm] 89 (0, 0))) (hA : Bytes w A ac all)
    (hi : i < at_) (hat : at_ ≤ all.length) (hl : all.length ≤ 1000000) :
    Calls Try.prog 76 #[.pointer (some ⟨eb, 0, none⟩), .int .i64 i] w fun e w' => e = .returned (.int .i64 (matchLen all at_ i)) ∧ ∃ q, w' = w.drewN q := by
  have hc2 : w.cell? ⟨eb, 2, none⟩ = some (.slice A all.length ac) := cell_k hE rfl
  have hc3 : w.cell? ⟨eb, 3, none⟩ = some (.int .i64 at_) := cell_k hE rfl
  obtain ⟨M, hM⟩ : ∃ M, matchLen all at_ i = M := ⟨_, rfl⟩
  have HM := Lib.hid hM
  rw [hM]
  clear hE hM
  go_enter Try.func76, Try.ntmps76
  go_wp2
  go_loopw [5] (fun n w' => ∃ k q : Nat, n = .int .i64 k ∧ k ≤ 131 ∧ at_ + k ≤ all.length ∧ Hid (matchLen all at_ i = lenFrom all at_ i (131 - k) k) ∧ w' = w.drewN q) (fun n w' => 131 - (intOf n).toNat)
  case atStart => exact ⟨0, 0, rfl, by omega, by omega, rfl, rfl⟩
  case round =>
    obtain ⟨k, q, rfl, hk, hak, hmk, rfl⟩ := hrel
    have v1 : IntKind.i64.wrap ((at_ : Int) + (k : Int)) = (at_ : Int) + k := by rw [IntKind.wrap_i64]; omega
    have v2 : IntKind.i64.wrap ((i : Int) + (k : Int)) = (i : Int) + k := by rw [IntKind.wrap_i64]; omega
    by_cases h131 : k < 131
    · have b1 : (k : Int) < 131 := by omega
      by_cases hlt : at_ + k < all.length
      · have b2 : (at_ : Int) + (k : Int) < (all.length : Int) := by omega
        obtain ⟨a, rfl⟩ := hA.some_of hlt
        obtain ⟨x1, hx1, hcx1, hx1', _⟩ := byte_at hA (k := i + k) (by omega)
        obtain ⟨x2, hx2, hcx2, hx2', _⟩ := byte_at hA hlt
        have t1 : ((i : Int) + (k : Int)).toNat = i + k := by omega
        have t2 : ((at_ : Int) + (k : Int)).toNat = at_ + k := by omega
        have b3 : (0 : Int) ≤ (i : Int) + k := by omega
        have b4 : (0 : Int) ≤ (at_ : Int) + k := by omega
        have b5 : (i : Int) + k < (all.length : Int) := by omega
        by_cases hx : x1 = x2
        · have HY := Lib.hid (hmk.out.trans (lenFrom_yes h131 hlt (by rw [hx1, hx2, hx])))
          have b6 : ((x1.toNat : Int) == (x2.toNat : Int)) = true := by rw [beq_iff_eq, hx]
          clear hx1 hx2 hx
          go_wp2
          go_quiet (fail)
          go_wp2
          exact ⟨⟨k + 1, q + nq, rfl, by omega, by omega, HY, by simp⟩, by simp [intOf]; omega⟩
        · have HY := Lib.hid (hmk.out.trans (lenFrom_no (.inr (.inr (by rw [hx1, hx2]; exact fun e => hx (Option.some.inj e))))))
          have b6 : ((x1.toNat : Int) == (x2.toNat : Int)) = false := by
            rw [beq_eq_false_iff_ne]
            exact fun e => hx (UInt8.toNat_inj.1 (Int.ofNat_inj.1 e))
          clear hx1 hx2 hx
          go_wp2
          go_quiet (fail)
          go_wp2
          go_ret
          exact ⟨by rw [← HM.out, HY.out]; rfl, q + nq, World.drewN_drewN _ _ _⟩
      · have b2 : ¬ ((at_ : Int) + (k : Int) < (all.length : Int)) := by omega
        have HY := Lib.hid (hmk.out.trans (lenFrom_no (.inr (.inl hlt))))
        have d2 : decide ((at_ : Int) + (k : Int) < (all.length : Int)) = false := decide_eq_false b2
        go_wp2
        go_quiet (fail)
        go_wp2
        go_ret
        exact ⟨by rw [← HM.out, HY.out]; rfl, q + nq, World.drewN_drewN _ _ _⟩
    · have b1 : ¬ ((k : Int) < 131) := by omega
      have HY := Lib.hid (hmk.out.trans (lenFrom_no (.inl (by omega))))
      have d1 : decide ((k : Int) < 131) = false := decide_eq_false b1
      go_wp2
      go_quiet (fail)
      go_wp2
      go_ret
      exact ⟨by rw [← HM.out, HY.out]; rfl, q + nq, World.drewN_drewN _ _ _⟩
end Go.Proofs.Ytfdkhopionknaaa
