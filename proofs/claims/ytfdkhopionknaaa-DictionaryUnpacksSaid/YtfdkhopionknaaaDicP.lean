/- Layer 6, the plain functions: matches, literals, the encoding of bytes by a dictionary. -/
import Derived.Test.YtfdkhopionknaaaWire
namespace Go.Proofs.Ytfdkhopionknaaa
open Go.RowKit
set_option linter.unusedVariables false

/-- How many bytes from two places on are the same, from the n-th on. -/
def lenFrom (all : List UInt8) (at_ i : Nat) : Nat → Nat → Nat
  | 0, n => n
  | f + 1, n => if at_ + n < all.length ∧ all[i + n]? = all[at_ + n]? then lenFrom all at_ i f (n + 1) else n
def matchLen (all : List UInt8) (at_ i : Nat) : Nat := lenFrom all at_ i 131 0

theorem lenFrom_facts (all : List UInt8) (at_ i f : Nat) : ∀ n, at_ + n ≤ all.length → n ≤ lenFrom all at_ i f n ∧ lenFrom all at_ i f n ≤ n + f ∧ at_ + lenFrom all at_ i f n ≤ all.length ∧ (∀ m, n ≤ m → m < lenFrom all at_ i f n → all[i + m]? = all[at_ + m]?) ∧
    (lenFrom all at_ i f n < n + f → at_ + lenFrom all at_ i f n < all.length → all[i + lenFrom all at_ i f n]? ≠ all[at_ + lenFrom all at_ i f n]?) := by
  induction f with
  | zero => intro n h; simp only [lenFrom]; exact ⟨Nat.le_refl _, Nat.le_refl _, h, fun m h1 h2 => by omega, fun h => by omega⟩
  | succ f ih =>
    intro n h
    rw [lenFrom]
    by_cases hc : at_ + n < all.length ∧ all[i + n]? = all[at_ + n]?
    · rw [if_pos hc]
      obtain ⟨h1, h2, h3, h4, h5⟩ := ih (n + 1) (by omega)
      refine ⟨by omega, by omega, h3, fun m hm1 hm2 => ?_, fun hlt => h5 (by omega)⟩
      by_cases e : m = n
      · subst e; exact hc.2
      · exact h4 m (by omega) hm2
    · rw [if_neg hc]
      exact ⟨Nat.le_refl _, by omega, h, fun m h1 h2 => by omega, fun _ h2 h3 => hc ⟨h2, h3⟩⟩
theorem matchLen_le (all : List UInt8) (at_ i : Nat) (h : at_ ≤ all.length) : matchLen all at_ i ≤ 131 ∧ at_ + matchLen all at_ i ≤ all.length := by
  obtain ⟨_, h2, h3, _⟩ := lenFrom_facts all at_ i 131 0 (by omega)
  exact ⟨by unfold matchLen; omega, h3⟩
theorem matchLen_same (all : List UInt8) (at_ i m : Nat) (h : at_ ≤ all.length) (hm : m < matchLen all at_ i) : all[i + m]? = all[at_ + m]? :=
  (lenFrom_facts all at_ i 131 0 (by omega)).2.2.2.1 m (Nat.zero_le _) hm

/-- The four bytes at a place. -/
def key4 (all : List UInt8) (i : Nat) : List UInt8 := (all.drop i).take 4
theorem key4_len {all : List UInt8} {i : Nat} (h : i + 4 ≤ all.length) : (key4 all i).length = 4 := by simp [key4]; omega
theorem key4_get {all : List UInt8} {i k : Nat} (hk : k < 4) : (key4 all i)[k]? = all[i + k]? := by
  unfold key4
  rw [List.getElem?_take, if_pos hk, List.getElem?_drop]
theorem matchLen_key {all : List UInt8} {at_ i : Nat} (h : at_ + 4 ≤ all.length) : 4 ≤ matchLen all at_ i ↔ key4 all i = key4 all at_ := by
  obtain ⟨_, h2, h3, h4, h5⟩ := lenFrom_facts all at_ i 131 0 (by omega)
  constructor
  · intro hm
    apply List.ext_getElem?
    intro k
    by_cases hk : k < 4
    · rw [key4_get hk, key4_get hk]
      exact h4 k (Nat.zero_le _) (Nat.lt_of_lt_of_le hk hm)
    · have e : ∀ j, (key4 all j)[k]? = none := fun j => List.getElem?_eq_none (by simp [key4]; omega)
      rw [e, e]
  · intro he
    rcases Nat.lt_or_ge (matchLen all at_ i) 4 with hlt | hge
    · have hlt' : lenFrom all at_ i 131 0 < 4 := hlt
      have := h5 (by omega) (by omega)
      rw [← key4_get hlt', ← key4_get hlt', he] at this
      exact absurd rfl this
    · exact hge

/-- The reference's search: distances from d on. -/
def refBest (all : List UInt8) (at_ : Nat) : Nat → Nat → Nat → Nat → Nat × Nat
  | 0, _, dist, most => (dist, most)
  | f + 1, d, dist, most => if 4 ≤ matchLen all at_ (at_ - d) ∧ most < matchLen all at_ (at_ - d) then refBest all at_ f (d + 1) d (matchLen all at_ (at_ - d)) else refBest all at_ f (d + 1) dist most
def best (all : List UInt8) (at_ : Nat) : Nat × Nat := refBest all at_ (min 4096 at_) 1 0 0
/-- The program's search: places, the last first. -/
def progBest (all : List UInt8) (at_ : Nat) : List Nat → Nat → Nat → Nat × Nat
  | [], dist, most => (dist, most)
  | p :: ps, dist, most => if at_ - p ≤ 4096 ∧ most < 131 then (if most < matchLen all at_ p then progBest all at_ ps (at_ - p) (matchLen all at_ p) else progBest all at_ ps dist most) else (dist, most)
/-- The places before n with some four bytes. -/
def places (all : List UInt8) (n : Nat) (k : List UInt8) : List Nat := (List.range n).filter fun p => decide (p + 4 ≤ all.length ∧ key4 all p = k)

theorem places_zero (all : List UInt8) (k : List UInt8) : places all 0 k = [] := rfl
theorem places_succ (all : List UInt8) (n : Nat) (k : List UInt8) : places all (n + 1) k = if n + 4 ≤ all.length ∧ key4 all n = k then places all n k ++ [n] else places all n k := by
  unfold places
  rw [List.range_succ, List.filter_append]
  by_cases h : n + 4 ≤ all.length ∧ key4 all n = k
  · rw [if_pos h]; simp [h]
  · rw [if_neg h]; simp [h]
theorem places_lt {all : List UInt8} {n : Nat} {k : List UInt8} {p : Nat} (h : p ∈ places all n k) : p < n ∧ p + 4 ≤ all.length ∧ key4 all p = k := by
  unfold places at h
  rw [List.mem_filter] at h
  exact ⟨List.mem_range.1 h.1, by simpa using h.2⟩
theorem places_len (all : List UInt8) (n : Nat) (k : List UInt8) : (places all n k).length ≤ n := by
  unfold places
  have := List.length_filter_le (fun p => decide (p + 4 ≤ all.length ∧ key4 all p = k)) (List.range n)
  rwa [List.length_range] at this

theorem refBest_full (all : List UInt8) (at_ : Nat) (h : at_ ≤ all.length) (dist most : Nat) (hm : 131 ≤ most) (f : Nat) : ∀ d, refBest all at_ f d dist most = (dist, most) := by
  induction f with
  | zero => intro d; rfl
  | succ f ih =>
    intro d
    rw [refBest, if_neg (by have := (matchLen_le all at_ (at_ - d) h).1; omega), ih]
theorem best_eq (all : List UInt8) (at_ : Nat) (h : at_ + 4 ≤ all.length) : ∀ k, k ≤ at_ → ∀ dist most, progBest all at_ (places all k (key4 all at_)).reverse dist most = refBest all at_ (min 4096 at_ - (at_ - k)) (at_ - k + 1) dist most := by
  intro k
  induction k with
  | zero =>
    intro _ dist most
    rw [places_zero, Nat.sub_zero, show min 4096 at_ - at_ = 0 by omega]; rfl
  | succ k ih =>
    intro hk dist most
    have ih := ih (by omega)
    have hp : (k + 4 ≤ all.length ∧ key4 all k = key4 all at_) ↔ 4 ≤ matchLen all at_ k := by
      rw [matchLen_key h]; exact ⟨fun h => h.2, fun h' => ⟨by omega, h'⟩⟩
    have hl := (matchLen_le all at_ k (by omega)).1
    rw [places_succ]
    by_cases hd : at_ - k ≤ 4096
    · have hf : min 4096 at_ - (at_ - (k + 1)) = (min 4096 at_ - (at_ - k)) + 1 := by omega
      rw [hf, refBest, show at_ - (at_ - (k + 1) + 1) = k by omega, show at_ - (k + 1) + 1 = at_ - k by omega]
      by_cases hc : 4 ≤ matchLen all at_ k
      · rw [if_pos (hp.2 hc), List.reverse_append]
        show progBest all at_ (k :: (places all k (key4 all at_)).reverse) dist most = _
        rw [progBest]
        by_cases hm : most < 131
        · rw [if_pos ⟨hd, hm⟩]
          by_cases hx : most < matchLen all at_ k
          · rw [if_pos hx, if_pos ⟨hc, hx⟩, ih]
          · rw [if_neg hx, if_neg (by omega), ih]
        · rw [if_neg (by omega), if_neg (by omega), refBest_full all at_ (by omega) _ _ (by omega)]
      · rw [if_neg (fun x => hc (hp.1 x)), if_neg (by omega), ih]
    · have hf : min 4096 at_ - (at_ - (k + 1)) = 0 := by omega
      have hf2 : min 4096 at_ - (at_ - k) = 0 := by omega
      rw [hf2] at ih
      rw [hf]
      by_cases hc : 4 ≤ matchLen all at_ k
      · rw [if_pos (hp.2 hc), List.reverse_append]
        show progBest all at_ (k :: (places all k (key4 all at_)).reverse) dist most = _
        rw [progBest, if_neg (by omega)]; rfl
      · rw [if_neg (fun x => hc (hp.1 x)), ih]; rfl
theorem best_prog (all : List UInt8) (at_ : Nat) (h : at_ + 4 ≤ all.length) : progBest all at_ (places all at_ (key4 all at_)).reverse 0 0 = best all at_ := by
  rw [best_eq all at_ h at_ (Nat.le_refl _) 0 0, Nat.sub_self]; rfl
theorem refBest_none (all : List UInt8) (at_ : Nat) (h : at_ ≤ all.length) (hs : ¬ at_ + 4 ≤ all.length) (dist most : Nat) (f : Nat) : ∀ d, refBest all at_ f d dist most = (dist, most) := by
  induction f with
  | zero => intro d; rfl
  | succ f ih =>
    intro d
    rw [refBest, if_neg (by have := (matchLen_le all at_ (at_ - d) h).2; omega), ih]
theorem best_none (all : List UInt8) (at_ : Nat) (h : at_ ≤ all.length) (hs : ¬ at_ + 4 ≤ all.length) : best all at_ = (0, 0) := refBest_none all at_ h hs 0 0 _ _

/-- What a search finds: nothing, or a match. -/
def Found (all : List UInt8) (at_ : Nat) (r : Nat × Nat) : Prop := r = (0, 0) ∨ (1 ≤ r.1 ∧ r.1 ≤ 4096 ∧ r.1 ≤ at_ ∧ r.2 = matchLen all at_ (at_ - r.1) ∧ 4 ≤ r.2)
theorem refBest_found (all : List UInt8) (at_ : Nat) (f : Nat) : ∀ d dist most, 1 ≤ d → d + f ≤ min 4096 at_ + 1 → Found all at_ (dist, most) → Found all at_ (refBest all at_ f d dist most) := by
  induction f with
  | zero => intro d dist most _ _ h; exact h
  | succ f ih =>
    intro d dist most h1 h2 h
    rw [refBest]
    split
    · rename_i hc
      exact ih _ _ _ (by omega) (by omega) (.inr ⟨h1, by simp only; omega, by simp only; omega, rfl, hc.1⟩)
    · exact ih _ _ _ (by omega) (by omega) h
theorem best_found (all : List UInt8) (at_ : Nat) : Found all at_ (best all at_) := refBest_found all at_ _ 1 0 0 (Nat.le_refl _) (by omega) (.inl rfl)
theorem best_le (all : List UInt8) (at_ : Nat) (h : at_ ≤ all.length) : (best all at_).2 ≤ 131 ∧ at_ + (best all at_).2 ≤ all.length ∧ (best all at_).1 ≤ 4096 ∧ (best all at_).1 ≤ at_ := by
  rcases best_found all at_ with h1 | ⟨h1, h2, h3, h4, h5⟩
  · rw [h1]; exact ⟨by simp, by simpa using h, by simp, by simp⟩
  · have := matchLen_le all at_ (at_ - (best all at_).1) h
    rw [← h4] at this
    exact ⟨this.1, this.2, h2, h3⟩

/-- Literals, as tokens. -/
def lits (l : List UInt8) : List UInt8 := if h : l.length = 0 then [] else UInt8.ofNat (min l.length 127) :: (l.take (min l.length 127) ++ lits (l.drop (min l.length 127)))
termination_by l.length
decreasing_by simp only [List.length_drop]; omega
theorem lits_nil : lits [] = [] := by rw [lits]; simp
theorem lits_cons {l : List UInt8} {n : Nat} (h : l.length ≠ 0) (hn : min l.length 127 = n) : lits l = UInt8.ofNat n :: (l.take n ++ lits (l.drop n)) := by subst hn; rw [lits, dif_neg h]
theorem lits_len (l : List UInt8) : (lits l).length ≤ 2 * l.length := by
  induction l using lits.induct with
  | case1 l h => rw [lits, dif_pos h]; simp
  | case2 l h ih =>
    rw [lits, dif_neg h]
    simp only [List.length_cons, List.length_append, List.length_take, List.length_drop] at ih ⊢
    omega

/-- What is still to be written from a place on, while some literals wait. -/
def encD (all : List UInt8) (at_ : Nat) (run : List UInt8) : List UInt8 :=
  if h : at_ < all.length then
    if h0 : (best all at_).2 = 0 then encD all (at_ + 1) (run ++ (all.drop at_).take 1)
    else lits run ++ (UInt8.ofNat (124 + (best all at_).2) :: (putN (best all at_).1 ++ encD all (at_ + (best all at_).2) []))
  else lits run
termination_by all.length - at_
decreasing_by all_goals omega
theorem encD_end {all : List UInt8} {at_ : Nat} {run : List UInt8} (h : ¬ at_ < all.length) : encD all at_ run = lits run := by rw [encD, dif_neg h]
theorem encD_lit {all : List UInt8} {at_ : Nat} {run : List UInt8} (h : at_ < all.length) (h0 : (best all at_).2 = 0) : encD all at_ run = encD all (at_ + 1) (run ++ (all.drop at_).take 1) := by
  rw [encD, dif_pos h, dif_pos h0]
theorem encD_match {all : List UInt8} {at_ d n : Nat} {run : List UInt8} (h : at_ < all.length) (hb : best all at_ = (d, n)) (h0 : n ≠ 0) :
    encD all at_ run = lits run ++ (UInt8.ofNat (124 + n) :: (putN d ++ encD all (at_ + n) [])) := by
  rw [encD, dif_pos h, dif_neg (by rw [hb]; exact h0), hb]
def encodeD (dict b : List UInt8) : List UInt8 := encD (dict ++ b) dict.length []
end Go.Proofs.Ytfdkhopionknaaa
