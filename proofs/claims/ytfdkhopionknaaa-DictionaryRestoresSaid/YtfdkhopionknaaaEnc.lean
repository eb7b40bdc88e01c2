/- The encoding of a list of sectors, as a plain function. -/
import Derived.Test.YtfdkhopionknaaaWire
import Derived.Test.YtfdkhopionknaaaPlain
namespace Go.Proofs.Ytfdkhopionknaaa
open Go.RowKit
set_option linter.unusedVariables false

/-- How many sectors a group writes out. -/
def written (g : Nat × Nat × Nat) : Nat := if g.1 = 0 then g.2.2 else if g.1 = 1 then 1 else 0
def encG (xs : List Sec) (g : Nat × Nat × Nat) : List UInt8 := putN (4 * g.2.2 + g.1) ++ flat ((xs.drop g.2.1).take (written g))
def encode (xs : List Sec) : List UInt8 := (groupsAt xs 0).flatMap (encG xs)

theorem groupsAt_mem (xs : List Sec) (at_ : Nat) : ∀ g ∈ groupsAt xs at_, g.1 ≤ 2 ∧ 1 ≤ g.2.2 ∧ at_ ≤ g.2.1 ∧ g.2.1 + g.2.2 ≤ xs.length := by
  induction at_ using groupsAt.induct xs with
  | case1 at_ h ih =>
    intro g hg
    rw [groupsAt, dif_pos h] at hg
    have h1 := group_pos (xs.drop at_)
    have h2 := group_le (xs.drop at_) (by intro e; have := congrArg List.length e; simp at this; omega)
    have h3 := group_kind (xs.drop at_)
    simp only [List.length_drop] at h2
    rcases List.mem_cons.1 hg with rfl | hg
    · exact ⟨h3, h1, Nat.le_refl _, by simp only; omega⟩
    · have := ih g hg
      exact ⟨this.1, this.2.1, by omega, this.2.2.2⟩
  | case2 at_ h => intro g hg; rw [groupsAt, dif_neg h] at hg; cases hg
theorem written_le (g : Nat × Nat × Nat) (h : 1 ≤ g.2.2) : written g ≤ g.2.2 := by
  unfold written
  split
  · exact Nat.le_refl _
  · split <;> omega

theorem putN_div (n : Nat) : (putN n).length ≤ 1 + n / 128 := by
  induction n using putN.induct with
  | case1 n h => rw [putN, dif_pos h]; simp
  | case2 n h ih => rw [putN, dif_neg h]; simp; omega
theorem encG_len (xs : List Sec) (g : Nat × Nat × Nat) (hk : g.1 ≤ 2) (h1 : 1 ≤ g.2.2) : 1 ≤ (encG xs g).length ∧ (encG xs g).length ≤ 9 * g.2.2 := by
  have h2 := putN_div (4 * g.2.2 + g.1)
  have h3 := putN_pos (4 * g.2.2 + g.1)
  have h4 := written_le g h1
  have h5 : ((xs.drop g.2.1).take (written g)).length ≤ written g := by rw [List.length_take]; omega
  unfold encG
  rw [List.length_append, flat_length]
  omega
theorem enc_total (xs : List Sec) (at_ : Nat) : ((groupsAt xs at_).flatMap (encG xs)).length ≤ 9 * (xs.length - at_) := by
  induction at_ using groupsAt.induct xs with
  | case1 at_ h ih =>
    have hm := groupsAt_mem xs at_
    rw [groupsAt, dif_pos h] at hm ⊢
    obtain ⟨h1, h2, _, h3⟩ := hm _ (List.mem_cons_self ..)
    have := encG_len xs _ h1 h2
    rw [List.flatMap_cons, List.length_append]
    simp only at h3 h2 this
    omega
  | case2 at_ h => rw [groupsAt, dif_neg h]; simp
theorem encode_len (xs : List Sec) : (encode xs).length ≤ 9 * xs.length := enc_total xs 0
end Go.Proofs.Ytfdkhopionknaaa
