/- What a decoding hands back, as plain facts. -/
import Derived.Test.YtfdkhopionknaaaDecP
namespace Go.Proofs.Ytfdkhopionknaaa
open Go.RowKit
set_option linter.unusedVariables false

theorem decL_len (m : Nat) (n : Nat) : ∀ (bs : List UInt8) (out l : List Sec), bs.length = n → out.length ≤ m → decL m bs out = (0, l) → l.length ≤ m := by
  induction n using Nat.strongRecOn with
  | ind n ih =>
    intro bs out l hn ho h
    by_cases h0 : bs.length = 0
    · obtain rfl := List.eq_nil_of_length_eq_zero h0
      rw [decL_nil] at h
      cases h
      exact ho
    · by_cases he : (stepG m bs out).1 = 0
      · rw [decL_ok h0 he] at h
        exact ih _ (by have := stepG_dec m bs out he; omega) _ _ l rfl (step_out m bs out ho he) h
      · rw [decL_err h0 he] at h
        simp only [Prod.mk.injEq] at h
        exact absurd h.1 he
theorem decode_facts {bs : List UInt8} {most : Int} {er : Nat} {l : List Sec} (h : decode bs most = (er, l)) : (er ≠ 0 → l = []) ∧ (er = 0 → encode l = bs ∧ l.length ≤ mostN most) := by
  unfold decode at h
  obtain ⟨⟨e1, l1⟩, hd⟩ : ∃ r, decL (mostN most) bs [] = r := ⟨_, rfl⟩
  rw [hd] at h
  simp only at h
  by_cases h1 : e1 = 0
  · subst h1
    rw [if_neg (by simp)] at h
    by_cases h2 : encode l1 = bs
    · rw [if_pos h2] at h
      cases h
      exact ⟨fun hx => absurd rfl hx, fun _ => ⟨h2, decL_len _ _ bs [] _ rfl (Nat.zero_le _) hd⟩⟩
    · rw [if_neg h2] at h
      cases h
      exact ⟨fun _ => rfl, fun hx => by cases hx⟩
  · rw [if_pos h1] at h
    cases h
    exact ⟨fun _ => rfl, fun hx => absurd hx h1⟩
theorem decode_nil (most : Int) : decode [] most = (0, []) := by
  unfold decode
  rw [decL_nil]
  have : encode [] = [] := by unfold encode; rw [groupsAt_nil (by simp)]; rfl
  simp [this]
theorem mostN_le (most : Int) : mostN most ≤ 4096 := by unfold mostN; omega
theorem mostN_nat (m : Nat) (h : m ≤ 4096) : mostN (m : Int) = m := by unfold mostN; omega
end Go.Proofs.Ytfdkhopionknaaa
