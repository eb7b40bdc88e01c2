/- Runs, groups and the encoding of sectors, as plain functions on lists. -/
import Derived.Test.YtfdkhopionknaaaMem
namespace Go.Proofs.Ytfdkhopionknaaa
open Go.RowKit

/-- How many of the first sectors are s. -/
def runFrom (s : Sec) : List Sec → Nat
  | [] => 0
  | x :: l => if x = s then runFrom s l + 1 else 0
/-- How many of the first sectors are equal to the first. -/
def runAt : List Sec → Nat
  | [] => 1
  | s :: l => runFrom s l + 1
/-- How many of the first sectors are neither zero nor repeated. -/
def litMore : List Sec → Nat
  | [] => 0
  | x :: l => if x ≠ Sec.zero ∧ runAt (x :: l) = 1 then litMore l + 1 else 0
/-- The first group: its kind, its length. -/
def groupOf : List Sec → Nat × Nat
  | [] => (0, 1)
  | x :: l => if x = Sec.zero then (2, runAt (x :: l)) else if 2 ≤ runAt (x :: l) then (1, runAt (x :: l)) else (0, litMore l + 1)

theorem runFrom_le (s : Sec) (l : List Sec) : runFrom s l ≤ l.length := by
  induction l with
  | nil => simp [runFrom]
  | cons x l ih => simp only [runFrom]; split <;> simp <;> omega
theorem litMore_le (l : List Sec) : litMore l ≤ l.length := by
  induction l with
  | nil => simp [litMore]
  | cons x l ih => simp only [litMore]; split <;> simp <;> omega
theorem runAt_pos (l : List Sec) : 1 ≤ runAt l := by cases l <;> simp [runAt]
theorem runAt_le (l : List Sec) (h : l ≠ []) : runAt l ≤ l.length := by
  cases l with
  | nil => exact absurd rfl h
  | cons x l => have := runFrom_le x l; simp [runAt]; omega
theorem group_pos (l : List Sec) : 1 ≤ (groupOf l).2 := by
  cases l with
  | nil => simp [groupOf]
  | cons x l =>
    simp only [groupOf]
    split
    · exact runAt_pos (x :: l)
    · split
      · exact runAt_pos (x :: l)
      · simp
theorem group_le (l : List Sec) (h : l ≠ []) : (groupOf l).2 ≤ l.length := by
  cases l with
  | nil => exact absurd rfl h
  | cons x l =>
    have h1 := runAt_le (x :: l) h
    have h2 := litMore_le l
    simp only [groupOf]
    split
    · exact h1
    · split
      · exact h1
      · simp; omega
theorem group_kind (l : List Sec) : (groupOf l).1 ≤ 2 := by
  cases l with
  | nil => simp [groupOf]
  | cons x l =>
    simp only [groupOf]
    split
    · simp
    · split <;> simp

theorem drop_get {xs : List Sec} {k : Nat} {s : Sec} (h : xs[k]? = some s) : xs.drop k = s :: xs.drop (k + 1) := by
  obtain ⟨hk, rfl⟩ := List.getElem?_eq_some_iff.1 h
  exact List.drop_eq_getElem_cons hk
theorem runFrom_nil (s : Sec) : runFrom s [] = 0 := rfl
theorem runFrom_yes (s : Sec) (l : List Sec) : runFrom s (s :: l) = runFrom s l + 1 := by simp [runFrom]
theorem runFrom_no {s x : Sec} (l : List Sec) (h : x ≠ s) : runFrom s (x :: l) = 0 := by simp [runFrom, h]
theorem litMore_nil : litMore [] = 0 := rfl
theorem litMore_yes {x : Sec} {l : List Sec} (h : x ≠ Sec.zero) (h1 : runAt (x :: l) = 1) : litMore (x :: l) = litMore l + 1 := by simp [litMore, h, h1]
theorem litMore_no {x : Sec} {l : List Sec} (h : x = Sec.zero ∨ runAt (x :: l) ≠ 1) : litMore (x :: l) = 0 := by
  rcases h with h | h <;> simp [litMore, h]
theorem group_zero {xs : List Sec} {k : Nat} (h : xs[k]? = some Sec.zero) : groupOf (xs.drop k) = (2, runAt (xs.drop k)) := by rw [drop_get h]; simp [groupOf]
theorem group_rep {xs : List Sec} {k : Nat} {s : Sec} (h : xs[k]? = some s) (hs : s ≠ Sec.zero) (h2 : 2 ≤ runAt (xs.drop k)) : groupOf (xs.drop k) = (1, runAt (xs.drop k)) := by
  rw [drop_get h] at h2 ⊢; simp [groupOf, hs, h2]
theorem group_lit {xs : List Sec} {k : Nat} {s : Sec} (h : xs[k]? = some s) (hs : s ≠ Sec.zero) (h2 : ¬ 2 ≤ runAt (xs.drop k)) : groupOf (xs.drop k) = (0, litMore (xs.drop (k + 1)) + 1) := by
  rw [drop_get h] at h2 ⊢; simp [groupOf, hs, h2]

/-- The groups from an index on: kind, start, length. -/
def groupsAt (xs : List Sec) (at_ : Nat) : List (Nat × Nat × Nat) :=
  if h : at_ < xs.length then ((groupOf (xs.drop at_)).1, at_, (groupOf (xs.drop at_)).2) :: groupsAt xs (at_ + (groupOf (xs.drop at_)).2) else []
termination_by xs.length - at_
decreasing_by have := group_pos (xs.drop at_); omega
theorem groupsAt_cons {xs : List Sec} {at_ k n : Nat} (h : at_ < xs.length) (hg : groupOf (xs.drop at_) = (k, n)) : groupsAt xs at_ = (k, at_, n) :: groupsAt xs (at_ + n) := by
  rw [groupsAt, dif_pos h, hg]
theorem groupsAt_nil {xs : List Sec} {at_ : Nat} (h : ¬ at_ < xs.length) : groupsAt xs at_ = [] := by rw [groupsAt, dif_neg h]
theorem groupsAt_len (xs : List Sec) (at_ : Nat) : (groupsAt xs at_).length ≤ xs.length - at_ := by
  induction at_ using groupsAt.induct xs with
  | case1 at_ h ih => rw [groupsAt, dif_pos h]; have := group_pos (xs.drop at_); simp; omega
  | case2 at_ h => rw [groupsAt, dif_neg h]; simp
def gcells (g : Nat × Nat × Nat) : List Value := [.int .i64 g.1, .int .i64 g.2.1, .int .i64 g.2.2]
end Go.Proofs.Ytfdkhopionknaaa
