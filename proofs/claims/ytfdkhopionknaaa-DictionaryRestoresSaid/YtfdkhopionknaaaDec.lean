/- The decoding of a list of sectors, as a plain function. -/
import Derived.Test.YtfdkhopionknaaaNum
import Derived.Test.YtfdkhopionknaaaEnc
namespace Go.Proofs.Ytfdkhopionknaaa
open Go.RowKit
set_option linter.unusedVariables false

/-- The first n sectors of some bytes. -/
def secsN : Nat → List UInt8 → List Sec
  | 0, _ => []
  | n + 1, bs => secOf bs :: secsN n (bs.drop 8)
@[simp] theorem secsN_length (n : Nat) : ∀ bs, (secsN n bs).length = n := by
  induction n with
  | zero => intro bs; rfl
  | succ n ih => intro bs; simp [secsN, ih]
/-- How many sectors a group of kind kd and count cn bears. -/
def needG (kd cn : Nat) : Nat := if kd = 0 then cn else if kd = 1 then 1 else 0
/-- What a group stands for. -/
def grpG (kd cn : Nat) (bs : List UInt8) : List Sec := if kd = 0 then secsN cn bs else if kd = 1 then List.replicate cn (secOf bs) else List.replicate cn Sec.zero
theorem grpG_length (kd cn : Nat) (bs : List UInt8) : (grpG kd cn bs).length = cn := by
  unfold grpG
  split
  · simp
  · split <;> simp
/-- One group: the error, the bytes left, the list so far. -/
def stepG (m : Nat) (bs : List UInt8) (out : List Sec) : Nat × List UInt8 × List Sec :=
  if (numG bs 0 0).2.2 ≠ 0 then ((numG bs 0 0).2.2, [], [])
  else if 2 < (numG bs 0 0).1 % 4 ∨ (numG bs 0 0).1 / 4 = 0 then (3, [], [])
  else if m < (numG bs 0 0).1 / 4 + out.length then (5, [], [])
  else if bs.length - (numG bs 0 0).2.1 < 8 * needG ((numG bs 0 0).1 % 4) ((numG bs 0 0).1 / 4) then (10, [], [])
  else (0, bs.drop ((numG bs 0 0).2.1 + 8 * needG ((numG bs 0 0).1 % 4) ((numG bs 0 0).1 / 4)), out ++ grpG ((numG bs 0 0).1 % 4) ((numG bs 0 0).1 / 4) (bs.drop (numG bs 0 0).2.1))
theorem stepG_er {m : Nat} {bs : List UInt8} {out : List Sec} {n k er : Nat} (hn : numG bs 0 0 = (n, k, er)) (h : er ≠ 0) : stepG m bs out = (er, [], []) := by
  unfold stepG; rw [hn]; exact if_pos h
theorem stepG_form {m : Nat} {bs : List UInt8} {out : List Sec} {n k : Nat} (hn : numG bs 0 0 = (n, k, 0)) (h : 2 < n % 4 ∨ n / 4 = 0) : stepG m bs out = (3, [], []) := by
  unfold stepG; rw [hn]; simp only [ne_eq, not_true_eq_false, if_false]; rw [if_pos h]
theorem stepG_long {m : Nat} {bs : List UInt8} {out : List Sec} {n k : Nat} (hn : numG bs 0 0 = (n, k, 0)) (h : ¬ (2 < n % 4 ∨ n / 4 = 0)) (h2 : m < n / 4 + out.length) : stepG m bs out = (5, [], []) := by
  unfold stepG; rw [hn]; simp only [ne_eq, not_true_eq_false, if_false]; rw [if_neg h, if_pos h2]
theorem stepG_torn {m : Nat} {bs : List UInt8} {out : List Sec} {n k : Nat} (hn : numG bs 0 0 = (n, k, 0)) (h : ¬ (2 < n % 4 ∨ n / 4 = 0)) (h2 : ¬ m < n / 4 + out.length) (h3 : bs.length - k < 8 * needG (n % 4) (n / 4)) : stepG m bs out = (10, [], []) := by
  unfold stepG; rw [hn]; simp only [ne_eq, not_true_eq_false, if_false]; rw [if_neg h, if_neg h2, if_pos h3]
theorem stepG_ok {m : Nat} {bs : List UInt8} {out : List Sec} {n k : Nat} (hn : numG bs 0 0 = (n, k, 0)) (h : ¬ (2 < n % 4 ∨ n / 4 = 0)) (h2 : ¬ m < n / 4 + out.length) (h3 : ¬ bs.length - k < 8 * needG (n % 4) (n / 4)) :
    stepG m bs out = (0, bs.drop (k + 8 * needG (n % 4) (n / 4)), out ++ grpG (n % 4) (n / 4) (bs.drop k)) := by
  unfold stepG; rw [hn]; simp only [ne_eq, not_true_eq_false, if_false]; rw [if_neg h, if_neg h2, if_neg h3]
theorem stepG_dec (m : Nat) (bs : List UInt8) (out : List Sec) (h : (stepG m bs out).1 = 0) : (stepG m bs out).2.1.length < bs.length := by
  obtain ⟨⟨n, k, er⟩, hn⟩ : ∃ r, numG bs 0 0 = r := ⟨_, rfl⟩
  have hle := numG_le bs 0 0 n k er hn
  by_cases he : er = 0
  · have h1 := hle.1 he
    subst he
    by_cases h2 : 2 < n % 4 ∨ n / 4 = 0
    · rw [stepG_form hn h2] at h; cases h
    by_cases h3 : m < n / 4 + out.length
    · rw [stepG_long hn h2 h3] at h; cases h
    by_cases h4 : bs.length - k < 8 * needG (n % 4) (n / 4)
    · rw [stepG_torn hn h2 h3 h4] at h; cases h
    rw [stepG_ok hn h2 h3 h4, List.length_drop]
    omega
  · rw [stepG_er hn he] at h; exact absurd h he
/-- All groups. -/
def decL (m : Nat) (bs : List UInt8) (out : List Sec) : Nat × List Sec :=
  if bs.length = 0 then (0, out)
  else if h : (stepG m bs out).1 = 0 then decL m (stepG m bs out).2.1 (stepG m bs out).2.2 else ((stepG m bs out).1, [])
termination_by bs.length
decreasing_by exact stepG_dec m bs out h
theorem decL_nil (m : Nat) (out : List Sec) : decL m [] out = (0, out) := by rw [decL]; rfl
theorem decL_err {m : Nat} {bs : List UInt8} {out : List Sec} (h : bs.length ≠ 0) (he : (stepG m bs out).1 ≠ 0) : decL m bs out = ((stepG m bs out).1, []) := by rw [decL, if_neg h, dif_neg he]
theorem decL_ok {m : Nat} {bs : List UInt8} {out : List Sec} (h : bs.length ≠ 0) (he : (stepG m bs out).1 = 0) : decL m bs out = decL m (stepG m bs out).2.1 (stepG m bs out).2.2 := by rw [decL, if_neg h, dif_pos he]
/-- The greatest length that counts. -/
def mostN (most : Int) : Nat := (min (max most 0) 4096).toNat
/-- The decoding: the error, the list. -/
def decode (bs : List UInt8) (most : Int) : Nat × List Sec :=
  if (decL (mostN most) bs []).1 ≠ 0 then ((decL (mostN most) bs []).1, [])
  else if encode (decL (mostN most) bs []).2 = bs then (0, (decL (mostN most) bs []).2) else (3, [])
end Go.Proofs.Ytfdkhopionknaaa
