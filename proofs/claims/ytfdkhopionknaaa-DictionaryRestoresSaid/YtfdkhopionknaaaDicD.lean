/- Layer 6, decoding: the plain function; byte strings that lie apart from what grows. -/
import Derived.Test.YtfdkhopionknaaaDicO
import Derived.Test.YtfdkhopionknaaaNumB
namespace Go.Proofs.Ytfdkhopionknaaa
open Go.RowKit
set_option linter.unusedVariables false
set_option linter.unusedSimpArgs false

/-- k bytes more, each that which stands d before the end. -/
def copyN (d : Nat) : Nat → List UInt8 → List UInt8
  | 0, a => a
  | k + 1, a => copyN d k a ++ [(copyN d k a).getD ((copyN d k a).length - d) 0]
theorem copyN_len (d k : Nat) (a : List UInt8) : (copyN d k a).length = a.length + k := by
  induction k with
  | zero => rfl
  | succ k ih => rw [copyN, List.length_append, ih]; rfl
theorem copyN_succ {d k : Nat} {a : List UInt8} {x : UInt8} (h : (copyN d k a)[(copyN d k a).length - d]? = some x) : copyN d (k + 1) a = copyN d k a ++ [x] := by
  rw [copyN, List.getD, h]; rfl

/-- One token: the error, the bytes left, what is known so far. -/
def stepD (dl m : Nat) (bs a : List UInt8) : Nat × List UInt8 × List UInt8 :=
  if (bs.getD 0 0).toNat = 0 then (3, [], [])
  else if (bs.getD 0 0).toNat ≤ 127 then
    if (bs.drop 1).length < (bs.getD 0 0).toNat then (10, [], [])
    else if m < a.length - dl + (bs.getD 0 0).toNat then (5, [], [])
    else (0, (bs.drop 1).drop (bs.getD 0 0).toNat, a ++ (bs.drop 1).take (bs.getD 0 0).toNat)
  else if (numG (bs.drop 1) 0 0).2.2 ≠ 0 then ((numG (bs.drop 1) 0 0).2.2, [], [])
  else if (numG (bs.drop 1) 0 0).1 < 1 ∨ 4096 < (numG (bs.drop 1) 0 0).1 ∨ a.length < (numG (bs.drop 1) 0 0).1 then (3, [], [])
  else if m < a.length - dl + ((bs.getD 0 0).toNat - 124) then (5, [], [])
  else (0, (bs.drop 1).drop (numG (bs.drop 1) 0 0).2.1, copyN (numG (bs.drop 1) 0 0).1 ((bs.getD 0 0).toNat - 124) a)
theorem stepD_dec (dl m : Nat) (bs a : List UInt8) (h0 : bs.length ≠ 0) (h : (stepD dl m bs a).1 = 0) : (stepD dl m bs a).2.1.length < bs.length := by
  unfold stepD at h ⊢
  have h1 : (bs.drop 1).length = bs.length - 1 := List.length_drop
  split at h
  · cases h
  · rename_i hc0
    rw [if_neg hc0]
    split at h
    · rename_i hc
      rw [if_pos hc]
      split at h
      · cases h
      · rename_i h2
        rw [if_neg h2]
        split at h
        · cases h
        · rename_i h3
          rw [if_neg h3]
          simp only [List.length_drop]
          omega
    · rename_i hc
      rw [if_neg hc]
      split at h
      · rename_i h2; exact absurd h h2
      · rename_i h2
        rw [if_neg h2]
        split at h
        · cases h
        · rename_i h3
          rw [if_neg h3]
          split at h
          · cases h
          · rename_i h4
            rw [if_neg h4]
            simp only [List.length_drop]
            omega
/-- All tokens. -/
def decT (dl m : Nat) (bs a : List UInt8) : Nat × List UInt8 :=
  if h0 : bs.length = 0 then (0, a.drop dl)
  else if h : (stepD dl m bs a).1 = 0 then decT dl m (stepD dl m bs a).2.1 (stepD dl m bs a).2.2 else ((stepD dl m bs a).1, [])
termination_by bs.length
decreasing_by exact stepD_dec dl m bs a h0 h
theorem decT_nil {dl m : Nat} {bs a : List UInt8} (h : bs.length = 0) : decT dl m bs a = (0, a.drop dl) := by rw [decT, dif_pos h]
theorem decT_err {dl m e : Nat} {bs a x y : List UInt8} (h : bs.length ≠ 0) (hs : stepD dl m bs a = (e, x, y)) (he : e ≠ 0) : decT dl m bs a = (e, []) := by rw [decT, dif_neg h, dif_neg (by rw [hs]; exact he), hs]
theorem decT_ok {dl m : Nat} {bs a x y : List UInt8} (h : bs.length ≠ 0) (hs : stepD dl m bs a = (0, x, y)) : decT dl m bs a = decT dl m x y := by rw [decT, dif_neg h, dif_pos (by rw [hs]), hs]
def decodeD (dict bs : List UInt8) (most : Int) : Nat × List UInt8 := if most < 0 then (2, []) else decT dict.length most.toNat bs dict

theorem stepD_zero {dl m c : Nat} {bs r a : List UInt8} (hc : bs.getD 0 0 = UInt8.ofNat c) (_hr : bs.drop 1 = r) (h256 : c < 256) (h : c = 0) : stepD dl m bs a = (3, [], []) := by
  have e : (bs.getD 0 0).toNat = c := by rw [hc]; simp; omega
  unfold stepD; rw [e, if_pos h]
section
variable {dl m c : Nat} {bs r a : List UInt8} (hc : bs.getD 0 0 = UInt8.ofNat c) (hr : bs.drop 1 = r) (h256 : c < 256)
include hc hr h256
theorem stepD_torn (h0 : c ≠ 0) (h1 : c ≤ 127) (h2 : r.length < c) : stepD dl m bs a = (10, [], []) := by
  have e : (bs.getD 0 0).toNat = c := by rw [hc]; simp; omega
  unfold stepD; rw [e, hr, if_neg h0, if_pos h1, if_pos h2]
theorem stepD_llong (h0 : c ≠ 0) (h1 : c ≤ 127) (h2 : ¬ r.length < c) (h3 : m < a.length - dl + c) : stepD dl m bs a = (5, [], []) := by
  have e : (bs.getD 0 0).toNat = c := by rw [hc]; simp; omega
  unfold stepD; rw [e, hr, if_neg h0, if_pos h1, if_neg h2, if_pos h3]
theorem stepD_lit (h0 : c ≠ 0) (h1 : c ≤ 127) (h2 : ¬ r.length < c) (h3 : ¬ m < a.length - dl + c) : stepD dl m bs a = (0, r.drop c, a ++ r.take c) := by
  have e : (bs.getD 0 0).toNat = c := by rw [hc]; simp; omega
  unfold stepD; rw [e, hr, if_neg h0, if_pos h1, if_neg h2, if_neg h3]
variable {n k er : Nat} (hn : numG r 0 0 = (n, k, er))
include hn
theorem stepD_er (h1 : ¬ c ≤ 127) (he : er ≠ 0) : stepD dl m bs a = (er, [], []) := by
  have e : (bs.getD 0 0).toNat = c := by rw [hc]; simp; omega
  unfold stepD; rw [e, hr, hn, if_neg (by omega), if_neg h1, if_pos he]
theorem stepD_form (h1 : ¬ c ≤ 127) (he : er = 0) (h2 : n < 1 ∨ 4096 < n ∨ a.length < n) : stepD dl m bs a = (3, [], []) := by
  have e : (bs.getD 0 0).toNat = c := by rw [hc]; simp; omega
  unfold stepD; rw [e, hr, hn, if_neg (by omega), if_neg h1, if_neg (by simp [he]), if_pos h2]
theorem stepD_mlong (h1 : ¬ c ≤ 127) (he : er = 0) (h2 : ¬ (n < 1 ∨ 4096 < n ∨ a.length < n)) (h3 : m < a.length - dl + (c - 124)) : stepD dl m bs a = (5, [], []) := by
  have e : (bs.getD 0 0).toNat = c := by rw [hc]; simp; omega
  unfold stepD; rw [e, hr, hn, if_neg (by omega), if_neg h1, if_neg (by simp [he]), if_neg h2, if_pos h3]
theorem stepD_match (h1 : ¬ c ≤ 127) (he : er = 0) (h2 : ¬ (n < 1 ∨ 4096 < n ∨ a.length < n)) (h3 : ¬ m < a.length - dl + (c - 124)) : stepD dl m bs a = (0, r.drop k, copyN n (c - 124) a) := by
  have e : (bs.getD 0 0).toNat = c := by rw [hc]; simp; omega
  unfold stepD; rw [e, hr, hn, if_neg (by omega), if_neg h1, if_neg (by simp [he]), if_neg h2, if_neg h3]
end

/-- Bytes that are read, and lie apart from what v owns. -/
def Apart (w : World) (A : Option Addr) (c : Nat) (bs : List UInt8) (v : Value) : Prop := Bytes w A c bs ∧ ∀ a, A = some a → bs.length ≠ 0 → a.block < w.heap.size ∧ some a.block ≠ v.ownBlock
theorem Apart.below {w w' : World} {A : Option Addr} {c : Nat} {bs : List UInt8} {v : Value} (h : Apart w A c bs v) (hb : Below w.heap.size w w') : Apart w' A c bs v :=
  ⟨h.1.below hb, fun a ha h0 => ⟨Nat.lt_of_lt_of_le (h.2 a ha h0).1 hb.size, (h.2 a ha h0).2⟩⟩
theorem Apart.grew {w w' : World} {A : Option Addr} {c : Nat} {bs : List UInt8} {v v' : Value} (h : Apart w A c bs v) (hg : Grew w w' v v') : Apart w' A c bs v' := by
  refine ⟨⟨h.1.le, h.1.max, h.1.nil, fun a ha j u hj => ?_⟩, fun a ha h0 => ⟨Nat.lt_of_lt_of_le (h.2 a ha h0).1 hg.size, ?_⟩⟩
  · have hz : bs.length ≠ 0 := by
      have := (List.getElem?_eq_some_iff.1 hj).1
      simp at this
      omega
    have h0 := h.1.row a ha j u hj
    have hbl : (a.add j).block = a.block := by unfold Addr.add; split <;> rfl
    rw [← h0]
    exact cell_of_block (by rw [hbl]; exact hg.block _ (h.2 a ha hz).1 (h.2 a ha hz).2)
  · rcases hg.own with e | ⟨k, e, hk⟩
    · rw [e]; exact (h.2 a ha h0).2
    · rw [e]
      intro x
      have := (h.2 a ha h0).1
      cases x
      omega
theorem Apart.slice {w : World} {A A' : Option Addr} {c c' l : Nat} {bs bs' : List UInt8} {v : Value} (h : Apart w A c bs v) (hl : l ≤ bs.length) (hb : Bytes w A' c' bs') (hle : bs'.length ≤ bs.length) {n' : Nat} (hr : (Instr.sliceAt 24 (.slice A bs.length c) (some (.int .i64 l)) none none).run Try.prog w = .ok (.slice A' n' c') w) : Apart w A' c' bs' v := by
  have hx := slice24_block hl h.1.le hr
  refine ⟨hb, fun a' ha' h0 => ?_⟩
  obtain ⟨a, ha, e⟩ := hx a' ha'
  rw [e]
  exact h.2 a ha (by omega)
theorem Apart.own {w : World} {base : Nat} {A : Option Addr} {c : Nat} {bs : List UInt8} {v : Value} (h : Own w base 5 1 (.slice A bs.length c) bs.length (bs.map B)) (hv : ∀ k, v.ownBlock = some k → k < base) : Apart w A c bs v := by
  refine ⟨own_bytes h, fun a ha _ => ?_⟩
  have hk := h.lt a.block (by rw [ha]; rfl)
  refine ⟨hk.2, fun e => ?_⟩
  have := hv _ e.symm
  omega
theorem Apart.start {w w' : World} {A : Option Addr} {c : Nat} {bs : List UInt8} {v : Value} {n : Nat} {xs : List Value} (h : Bytes w A c bs) (hb : Below w.heap.size w w') (hv : Own w' w.heap.size 5 1 v n xs) : Apart w' A c bs v := by
  refine ⟨h.below hb, fun a ha h0 => ?_⟩
  obtain ⟨x, hx⟩ : ∃ x, bs[0]? = some x := ⟨_, List.getElem?_eq_getElem (by omega)⟩
  have h1 := block_lt_of_cell (h.row a ha 0 (B x) (by rw [List.getElem?_map, hx]; rfl))
  have hbl : (a.add 0).block = a.block := by unfold Addr.add; split <;> rfl
  rw [hbl] at h1
  refine ⟨Nat.lt_of_lt_of_le h1 hb.size, fun e => ?_⟩
  have := (hv.lt _ e.symm).1
  omega
end Go.Proofs.Ytfdkhopionknaaa
