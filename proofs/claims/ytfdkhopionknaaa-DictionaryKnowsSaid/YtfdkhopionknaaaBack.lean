/- Decoding what was encoded, as a plain law. -/
import Derived.Test.YtfdkhopionknaaaFacts
namespace Go.Proofs.Ytfdkhopionknaaa
open Go.RowKit
set_option linter.unusedVariables false

theorem numG_put (v : Nat) : ∀ (i acc : Nat) (l : List UInt8), acc + v * 128 ^ i ≤ 9007199254740991 → (v ≠ 0 ∨ i = 0) → numG (putN v ++ l) i acc = (acc + v * 128 ^ i, i + (putN v).length, 0) := by
  induction v using putN.induct with
  | case1 v h =>
    intro i acc l hb h0
    have hi : i < 8 := by
      rcases h0 with h1 | h1
      · rcases Nat.lt_or_ge i 8 with h2 | h2
        · exact h2
        · have h3 : 128 ^ 8 ≤ 128 ^ i := Nat.pow_le_pow_right (by decide) h2
          have h4 : 1 * 128 ^ i ≤ v * 128 ^ i := Nat.mul_le_mul_right _ (by omega)
          omega
      · omega
    have ht : (UInt8.ofNat v).toNat = v := by simp; omega
    have hm : v % 128 = v := Nat.mod_eq_of_lt h
    rw [putN, dif_pos h]
    simp only [List.cons_append, List.nil_append, numG, if_pos hi, ht, hm, List.length_cons, List.length_nil]
    rw [if_neg (by omega), if_neg (by omega)]
  | case2 v h ih =>
    intro i acc l hb h0
    have hv : 1 ≤ v := by omega
    have hi : i < 8 := by
      rcases Nat.lt_or_ge i 8 with h2 | h2
      · exact h2
      · have h3 : 128 ^ 8 ≤ 128 ^ i := Nat.pow_le_pow_right (by decide) h2
        have h4 : 1 * 128 ^ i ≤ v * 128 ^ i := Nat.mul_le_mul_right _ hv
        omega
    have ht : (UInt8.ofNat (v % 128 + 128)).toNat = v % 128 + 128 := by simp; omega
    have hm : (v % 128 + 128) % 128 = v % 128 := by omega
    have hs : acc + v % 128 * 128 ^ i + v / 128 * 128 ^ (i + 1) = acc + v * 128 ^ i := by
      have : v = v / 128 * 128 + v % 128 := (Nat.div_add_mod' v 128).symm
      rw [Nat.pow_succ, Nat.add_assoc, ← Nat.mul_assoc, Nat.mul_right_comm, ← Nat.add_mul, Nat.add_comm (v % 128), ← this]
    have := ih (i + 1) (acc + v % 128 * 128 ^ i) l (by rw [hs]; exact hb) (.inl (by omega))
    rw [putN, dif_neg h]
    simp only [List.cons_append, numG, if_pos hi, ht, hm, List.length_cons]
    rw [if_pos (by omega), this, hs]
    simp; omega

theorem runFrom_take (s : Sec) (l : List Sec) : l.take (runFrom s l) = List.replicate (runFrom s l) s := by
  induction l with
  | nil => rfl
  | cons x l ih =>
    simp only [runFrom]
    split
    · rename_i h
      rw [List.take_succ_cons, ih, List.replicate_succ, h]
    · rfl
theorem group_take {ys : List Sec} {K N : Nat} (hne : ys ≠ []) (h : groupOf ys = (K, N)) : (K = 1 → ∃ s l, ys = s :: l ∧ ys.take N = List.replicate N s) ∧ (K = 2 → ys.take N = List.replicate N Sec.zero) := by
  cases ys with
  | nil => exact absurd rfl hne
  | cons x l =>
    have ht : (x :: l).take (runAt (x :: l)) = List.replicate (runAt (x :: l)) x := by
      rw [runAt, List.take_succ_cons, runFrom_take, List.replicate_succ]
    simp only [groupOf] at h
    split at h
    · rename_i hx
      cases h
      exact ⟨(fun e => by cases e), (fun _ => by rw [ht, hx])⟩
    · split at h
      · cases h
        exact ⟨(fun _ => ⟨x, l, rfl, ht⟩), (fun e => by cases e)⟩
      · cases h
        exact ⟨(fun e => by cases e), (fun e => by cases e)⟩
theorem secsN_flat (ys : List Sec) : ∀ (l : List UInt8), secsN ys.length (flat ys ++ l) = ys := by
  induction ys with
  | nil => intro l; rfl
  | cons s ys ih =>
    intro l
    rw [flat_cons, List.length_cons, secsN, List.append_assoc, secOf_bytes]
    have : (s.bytes ++ (flat ys ++ l)).drop 8 = flat ys ++ l := List.drop_left' rfl
    rw [this, ih]
/-- One group, decoded. -/
theorem step_group {xs : List Sec} {at_ K N m : Nat} (hlt : at_ < xs.length) (hg : groupOf (xs.drop at_) = (K, N)) (hlen : xs.length ≤ 65536) (rest : List UInt8) :
    stepG m (encG xs (K, at_, N) ++ rest) (xs.take at_) = if m < N + at_ then (5, [], []) else (0, rest, xs.take (at_ + N)) := by
  have hne : xs.drop at_ ≠ [] := by intro e; have := congrArg List.length e; simp at this; omega
  have h1 := group_pos (xs.drop at_)
  have h2 := group_le (xs.drop at_) hne
  have h3 := group_kind (xs.drop at_)
  have h4 := group_take hne hg
  rw [hg] at h1 h2 h3
  simp only [List.length_drop] at h1 h2 h3
  have hto : (xs.take at_).length = at_ := by rw [List.length_take]; omega
  have hnum : numG (encG xs (K, at_, N) ++ rest) 0 0 = (4 * N + K, (putN (4 * N + K)).length, 0) := by
    unfold encG
    rw [List.append_assoc, numG_put (4 * N + K) 0 0 _ (by omega) (.inr rfl)]
    simp
  have hmod : (4 * N + K) % 4 = K := by omega
  have hdiv : (4 * N + K) / 4 = N := by omega
  have hnf : ¬ (2 < (4 * N + K) % 4 ∨ (4 * N + K) / 4 = 0) := by rw [hmod, hdiv]; omega
  by_cases hl : m < N + at_
  · rw [if_pos hl]
    exact stepG_long hnum hnf (by rw [hdiv, hto]; exact hl)
  · rw [if_neg hl]
    have hwl : (flat ((xs.drop at_).take (written (K, at_, N)))).length = 8 * needG K N := by
      rw [flat_length, List.length_take, List.length_drop]
      unfold written needG
      simp only
      split
      · omega
      · split <;> omega
    have hdrop : (encG xs (K, at_, N) ++ rest).drop (putN (4 * N + K)).length = flat ((xs.drop at_).take (written (K, at_, N))) ++ rest := by
      unfold encG
      rw [List.append_assoc]
      exact List.drop_left' rfl
    have hok := stepG_ok (m := m) (out := xs.take at_) hnum hnf (by rw [hdiv, hto]; exact hl) (by
      rw [hmod, hdiv, ← hwl, ← List.length_drop, hdrop, List.length_append]; omega)
    rw [hok, hmod, hdiv, ← List.drop_drop, hdrop, ← hwl, List.drop_left' rfl]
    congr 2
    rw [List.take_add]
    congr 1
    unfold grpG
    rcases (show K = 0 ∨ K = 1 ∨ K = 2 by omega) with rfl | rfl | rfl
    · have hN : ((xs.drop at_).take N).length = N := by rw [List.length_take, List.length_drop]; omega
      have := secsN_flat ((xs.drop at_).take N) rest
      rw [hN] at this
      rw [if_pos rfl]
      exact this
    · obtain ⟨s, l, hs, ht⟩ := h4.1 rfl
      rw [if_neg (by decide), if_pos rfl, ht]
      congr 1
      show secOf (flat ((xs.drop at_).take 1) ++ rest) = s
      rw [hs]
      exact secOf_bytes s _
    · rw [if_neg (by decide), if_neg (by decide), h4.2 rfl]
theorem decL_enc (xs : List Sec) (m : Nat) (hlen : xs.length ≤ 65536) (hm : xs.length ≤ m) (at_ : Nat) : at_ ≤ xs.length → decL m ((groupsAt xs at_).flatMap (encG xs)) (xs.take at_) = (0, xs) := by
  induction at_ using groupsAt.induct xs with
  | case1 at_ h ih =>
    intro _
    obtain ⟨⟨K, N⟩, hg⟩ : ∃ r, groupOf (xs.drop at_) = r := ⟨_, rfl⟩
    have hN := group_le (xs.drop at_) (by intro e; have := congrArg List.length e; simp at this; omega)
    rw [hg] at hN ih
    simp only [List.length_drop] at hN ih
    rw [groupsAt_cons h hg, List.flatMap_cons]
    have hst := step_group (m := m) h hg hlen ((groupsAt xs (at_ + N)).flatMap (encG xs))
    rw [if_neg (by omega)] at hst
    have hl := encG_len xs (K, at_, N) (by have := group_kind (xs.drop at_); rw [hg] at this; exact this) (by have := group_pos (xs.drop at_); rw [hg] at this; exact this)
    rw [decL_ok (by rw [List.length_append]; omega) (by rw [hst]), hst]
    exact ih (by omega)
  | case2 at_ h =>
    intro _
    rw [groupsAt_nil h, List.flatMap_nil, decL_nil, List.take_of_length_le (by omega)]
theorem decL_short (xs : List Sec) (m : Nat) (hlen : xs.length ≤ 65536) (hm : m < xs.length) (at_ : Nat) : at_ ≤ m → decL m ((groupsAt xs at_).flatMap (encG xs)) (xs.take at_) = (5, []) := by
  induction at_ using groupsAt.induct xs with
  | case1 at_ h ih =>
    intro ha
    obtain ⟨⟨K, N⟩, hg⟩ : ∃ r, groupOf (xs.drop at_) = r := ⟨_, rfl⟩
    rw [hg] at ih
    simp only at ih
    rw [groupsAt_cons h hg, List.flatMap_cons]
    have hst := step_group (m := m) h hg hlen ((groupsAt xs (at_ + N)).flatMap (encG xs))
    have hl := encG_len xs (K, at_, N) (by have := group_kind (xs.drop at_); rw [hg] at this; exact this) (by have := group_pos (xs.drop at_); rw [hg] at this; exact this)
    by_cases hmN : m < N + at_
    · rw [if_pos hmN] at hst
      rw [decL_err (by rw [List.length_append]; omega) (by rw [hst]; decide), hst]
    · rw [if_neg hmN] at hst
      rw [decL_ok (by rw [List.length_append]; omega) (by rw [hst]), hst]
      exact ih (by omega)
  | case2 at_ h => intro ha; omega
theorem decode_encode (xs : List Sec) (most : Int) (hlen : xs.length ≤ 4096) (hm : (xs.length : Int) ≤ most) : decode (encode xs) most = (0, xs) := by
  have hd : decL (mostN most) (encode xs) [] = (0, xs) := decL_enc xs (mostN most) (by omega) (by unfold mostN; omega) 0 (Nat.zero_le _)
  unfold decode
  rw [hd]
  simp
theorem decode_short (xs : List Sec) (most : Int) (hlen : xs.length ≤ 4096) (h0 : 0 ≤ most) (hm : most < xs.length) : decode (encode xs) most = (5, []) := by
  have hd : decL (mostN most) (encode xs) [] = (5, []) := decL_short xs (mostN most) (by omega) (by unfold mostN; omega) 0 (Nat.zero_le _)
  unfold decode
  rw [hd]
  simp
end Go.Proofs.Ytfdkhopionknaaa
