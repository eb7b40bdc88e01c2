/- Reckoning encodings and decodings of given lists. -/
import Derived.Test.YtfdkhopionknaaaDec
import Derived.Test.YtfdkhopionknaaaLaw
namespace Go.Proofs.Ytfdkhopionknaaa
open Go.RowKit
set_option linter.unusedVariables false

def putF : Nat → Nat → List UInt8
  | 0, _ => []
  | f + 1, n => if 128 ≤ n then UInt8.ofNat (n % 128 + 128) :: putF f (n / 128) else [UInt8.ofNat n]
theorem putF_eq (f : Nat) : ∀ n, n < f → putF f n = putN n := by
  induction f with
  | zero => intro n h; omega
  | succ f ih =>
    intro n h
    rw [putN, putF]
    by_cases h1 : 128 ≤ n
    · rw [if_pos h1, dif_neg (by omega), ih (n / 128) (by omega)]
    · rw [if_neg h1, dif_pos (by omega)]
def groupsF : Nat → List Sec → Nat → List (Nat × Nat × Nat)
  | 0, _, _ => []
  | f + 1, xs, at_ => if at_ < xs.length then ((groupOf (xs.drop at_)).1, at_, (groupOf (xs.drop at_)).2) :: groupsF f xs (at_ + (groupOf (xs.drop at_)).2) else []
theorem groupsF_eq (f : Nat) (xs : List Sec) : ∀ at_, xs.length < at_ + f → groupsF f xs at_ = groupsAt xs at_ := by
  induction f with
  | zero => intro at_ h; rw [groupsAt, dif_neg (by omega)]; rfl
  | succ f ih =>
    intro at_ h
    rw [groupsAt, groupsF]
    split
    · have := group_pos (xs.drop at_)
      rw [ih _ (by omega)]
    · rfl
def encF (xs : List Sec) : List UInt8 := (groupsF (xs.length + 1) xs 0).flatMap fun g => putF 200 (4 * g.2.2 + g.1) ++ flat ((xs.drop g.2.1).take (written g))
theorem encF_eq (xs : List Sec) (h : xs.length ≤ 40) : encode xs = encF xs := by
  unfold encode encF
  rw [groupsF_eq _ xs 0 (by omega)]
  have : ∀ g ∈ groupsAt xs 0, encG xs g = putF 200 (4 * g.2.2 + g.1) ++ flat ((xs.drop g.2.1).take (written g)) := by
    intro g hg
    obtain ⟨h1, _, _, h2⟩ := groupsAt_mem xs 0 g hg
    unfold encG
    rw [putF_eq 200 _ (by omega)]
  generalize groupsAt xs 0 = l at this
  induction l with
  | nil => rfl
  | cons g l ih => rw [List.flatMap_cons, List.flatMap_cons, this g (List.mem_cons_self ..), ih (fun x hx => this x (List.mem_cons_of_mem _ hx))]
def decF : Nat → Nat → List UInt8 → List Sec → Nat × List Sec
  | 0, _, _, _ => (0, [])
  | f + 1, m, bs, out => if bs.length = 0 then (0, out) else if (stepG m bs out).1 = 0 then decF f m (stepG m bs out).2.1 (stepG m bs out).2.2 else ((stepG m bs out).1, [])
theorem decF_eq (f m : Nat) : ∀ (bs : List UInt8) (out : List Sec), bs.length < f → decF f m bs out = decL m bs out := by
  induction f with
  | zero => intro bs out h; omega
  | succ f ih =>
    intro bs out h
    rw [decF]
    by_cases h0 : bs.length = 0
    · rw [if_pos h0, decL, if_pos h0]
    · rw [if_neg h0]
      by_cases he : (stepG m bs out).1 = 0
      · rw [if_pos he, decL_ok h0 he, ih _ _ (by have := stepG_dec m bs out he; omega)]
      · rw [if_neg he, decL_err h0 he]
/-- The decoding, reckoned. -/
def decodeF (bs : List UInt8) (m : Nat) : Nat × List Sec :=
  if (decF (bs.length + 1) m bs []).1 ≠ 0 then ((decF (bs.length + 1) m bs []).1, [])
  else if encF (decF (bs.length + 1) m bs []).2 = bs then (0, (decF (bs.length + 1) m bs []).2) else (3, [])

theorem decode_eqF (bs : List UInt8) (most : Int) (m : Nat) (hm : mostN most = m) (h : (decF (bs.length + 1) m bs []).2.length ≤ 40) : decode bs most = decodeF bs m := by
  subst hm
  unfold decode decodeF
  rw [decF_eq _ _ bs [] (by omega)] at h ⊢
  rw [encF_eq _ h]

def bsA : List UInt8 := [1, 1, 1, 2, 3, 0, 0]
def bsB : List UInt8 := [2, 3, 3]
def bsO : List UInt8 := [0]
def nsA : List Int := [13, -1, 8, -2, -3, 10]
def nsB : List Int := [4, -2, 9, -3]
def nsX : List Int := [8, -2, -2]
def nsY : List Int := [6, 6]
def nsZ : List Int := [10]
def nsU : List Int := [5, -1]
def encA : List UInt8 := itemsB nsA
def encB : List UInt8 := itemsB nsB
def encX : List UInt8 := itemsB nsX
def encY : List UInt8 := itemsB nsY
def encZ : List UInt8 := itemsB nsZ
def encU : List UInt8 := itemsB nsU
theorem enc_a : encode (secsB bsA) = encA := by
  rw [encF_eq _ (by decide)]
  decide
theorem enc_b : encode (secsB bsB) = encB := by
  rw [encF_eq _ (by decide)]
  decide
theorem enc_o : (encode (secsB bsO)).length = 1 := by
  rw [encF_eq _ (by decide)]
  decide
theorem dec_x : decode encX 9 = (3, []) := by
  rw [decode_eqF _ 9 9 (by decide) (by decide)]
  decide
theorem dec_y : decode encY 9 = (3, []) := by
  rw [decode_eqF _ 9 9 (by decide) (by decide)]
  decide
theorem dec_z : decode encZ 1 = (5, []) := by
  rw [decode_eqF _ 1 1 (by decide) (by decide)]
  decide
theorem dec_u : decode encU 9 = (3, []) := by
  rw [decode_eqF _ 9 9 (by decide) (by decide)]
  decide
theorem dec_a : decode encA 7 = (0, secsB bsA) := by
  rw [decode_eqF _ 7 7 (by decide) (by decide)]
  decide
end Go.Proofs.Ytfdkhopionknaaa
