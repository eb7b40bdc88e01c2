/- Layer 6, plain: what is encoded is decoded. -/
import Derived.Test.YtfdkhopionknaaaDicD
import Derived.Test.YtfdkhopionknaaaBack
namespace Go.Proofs.Ytfdkhopionknaaa
open Go.RowKit
set_option linter.unusedVariables false
set_option linter.unusedSimpArgs false

theorem dec_lits (dl m : Nat) (rest : List UInt8) (run : List UInt8) : ∀ a : List UInt8, dl ≤ a.length → a.length + run.length ≤ dl + m → decT dl m (lits run ++ rest) a = decT dl m rest (a ++ run) := by
  induction run using lits.induct with
  | case1 l h =>
    intro a _ _
    have : l = [] := List.eq_nil_of_length_eq_zero h
    subst this
    rw [lits_nil]; simp
  | case2 l h ih =>
    intro a hd hm
    obtain ⟨N, hN⟩ : ∃ N, min l.length 127 = N := ⟨_, rfl⟩
    rw [hN] at ih
    have hNl : N ≤ l.length := by omega
    have hr : (UInt8.ofNat N :: (l.take N ++ lits (l.drop N)) ++ rest).drop 1 = l.take N ++ (lits (l.drop N) ++ rest) := by simp
    have htk : (l.take N).length = N := by rw [List.length_take]; omega
    have hs := stepD_lit (dl := dl) (m := m) (c := N) (bs := UInt8.ofNat N :: (l.take N ++ lits (l.drop N)) ++ rest) (a := a) rfl hr (by omega) (by omega) (by omega) (by rw [List.length_append, htk]; omega) (by omega)
    rw [List.drop_left' htk, List.take_left' htk] at hs
    rw [lits_cons h hN, decT_ok (by simp) hs, ih _ (by rw [List.length_append]; omega) (by rw [List.length_append, htk, List.length_drop]; omega), List.append_assoc, List.take_append_drop]
theorem dec_lits_long (dl m : Nat) (rest : List UInt8) (run : List UInt8) : ∀ a : List UInt8, dl ≤ a.length → a.length ≤ dl + m → dl + m < a.length + run.length → decT dl m (lits run ++ rest) a = (5, []) := by
  induction run using lits.induct with
  | case1 l h => intro a _ h1 h2; omega
  | case2 l h ih =>
    intro a hd hm hlong
    obtain ⟨N, hN⟩ : ∃ N, min l.length 127 = N := ⟨_, rfl⟩
    rw [hN] at ih
    have hNl : N ≤ l.length := by omega
    have hr : (UInt8.ofNat N :: (l.take N ++ lits (l.drop N)) ++ rest).drop 1 = l.take N ++ (lits (l.drop N) ++ rest) := by simp
    have htk : (l.take N).length = N := by rw [List.length_take]; omega
    rw [lits_cons h hN]
    by_cases hx : m < a.length - dl + N
    · rw [decT_err (by simp) (stepD_llong (dl := dl) (m := m) (c := N) (a := a) rfl hr (by omega) (by omega) (by omega) (by rw [List.length_append, htk]; omega) hx) (by decide)]
    · have hs := stepD_lit (dl := dl) (m := m) (c := N) (bs := UInt8.ofNat N :: (l.take N ++ lits (l.drop N)) ++ rest) (a := a) rfl hr (by omega) (by omega) (by omega) (by rw [List.length_append, htk]; omega) hx
      rw [List.drop_left' htk, List.take_left' htk] at hs
      rw [decT_ok (by simp) hs, ih _ (by rw [List.length_append]; omega) (by rw [List.length_append, htk]; omega) (by rw [List.length_append, htk, List.length_drop]; omega)]
theorem tok_num (d : Nat) (hd : d ≤ 4096) (rest : List UInt8) : numG (putN d ++ rest) 0 0 = (d, (putN d).length, 0) := by
  have := numG_put d 0 0 rest (by omega) (.inr rfl)
  simpa using this
theorem dec_match (dl m d n : Nat) (rest a : List UInt8) (hn : 4 ≤ n) (hn2 : n ≤ 131) (hd1 : 1 ≤ d) (hd : d ≤ 4096) (hda : d ≤ a.length) (hdl : dl ≤ a.length) (hm : a.length + n ≤ dl + m) :
    decT dl m (UInt8.ofNat (124 + n) :: (putN d ++ rest)) a = decT dl m rest (copyN d n a) := by
  have hs := stepD_match (dl := dl) (m := m) (c := 124 + n) (bs := UInt8.ofNat (124 + n) :: (putN d ++ rest)) (a := a) (r := putN d ++ rest) rfl rfl (by omega) (tok_num d hd rest) (by omega) rfl (by omega) (by omega)
  rw [List.drop_left' rfl, show 124 + n - 124 = n by omega] at hs
  exact decT_ok (by simp) hs
theorem dec_match_long (dl m d n : Nat) (rest a : List UInt8) (hn : 4 ≤ n) (hn2 : n ≤ 131) (hd1 : 1 ≤ d) (hd : d ≤ 4096) (hda : d ≤ a.length) (hdl : dl ≤ a.length) (hm : dl + m < a.length + n) :
    decT dl m (UInt8.ofNat (124 + n) :: (putN d ++ rest)) a = (5, []) :=
  decT_err (by simp) (stepD_mlong (dl := dl) (m := m) (c := 124 + n) (bs := UInt8.ofNat (124 + n) :: (putN d ++ rest)) (a := a) (r := putN d ++ rest) rfl rfl (by omega) (tok_num d hd rest) (by omega) rfl (by omega) (by omega)) (by decide)
theorem copy_match (all : List UInt8) (at_ d : Nat) (hd : d ≤ at_) (hd1 : 1 ≤ d) : ∀ n, at_ + n ≤ all.length → (∀ k, k < n → all[at_ - d + k]? = all[at_ + k]?) → copyN d n (all.take at_) = all.take (at_ + n) := by
  intro n
  induction n with
  | zero => intro _ _; rfl
  | succ n ih =>
    intro hl hk
    have h1 := ih (by omega) (fun k h => hk k (by omega))
    have hlen : (all.take (at_ + n)).length = at_ + n := by rw [List.length_take]; omega
    obtain ⟨x, hx⟩ : ∃ x, all[at_ + n]? = some x := ⟨_, List.getElem?_eq_getElem (by omega)⟩
    have hs : (copyN d n (all.take at_))[(copyN d n (all.take at_)).length - d]? = some x := by
      rw [h1, hlen, List.getElem?_take, if_pos (by omega), show at_ + n - d = at_ - d + n by omega, hk n (by omega), hx]
    rw [copyN_succ hs, h1]
    obtain ⟨hj, e⟩ := List.getElem?_eq_some_iff.1 hx
    rw [show at_ + (n + 1) = (at_ + n) + 1 by omega, List.take_succ_eq_append_getElem hj, e]
theorem take_snoc (all : List UInt8) (at_ : Nat) (h : at_ < all.length) : all.take at_ ++ (all.drop at_).take 1 = all.take (at_ + 1) := by
  rw [List.take_succ_eq_append_getElem h, List.drop_eq_getElem_cons h]; rfl

theorem found_of {all : List UInt8} {at_ : Nat} (h0 : (best all at_).2 ≠ 0) : 1 ≤ (best all at_).1 ∧ (best all at_).1 ≤ 4096 ∧ (best all at_).1 ≤ at_ ∧ (best all at_).2 = matchLen all at_ (at_ - (best all at_).1) ∧ 4 ≤ (best all at_).2 := by
  rcases best_found all at_ with e | h
  · rw [e] at h0; exact absurd rfl h0
  · exact h

/-- What is encoded from a place on is decoded to all bytes. -/
theorem dec_enc (all : List UInt8) (dl m : Nat) (hm : all.length ≤ dl + m) (rest : List UInt8) (at_ : Nat) (run : List UInt8) : ∀ P : List UInt8, at_ ≤ all.length → dl ≤ P.length → P ++ run = all.take at_ → decT dl m (encD all at_ run ++ rest) P = decT dl m rest all := by
  induction at_, run using encD.induct all with
  | case1 at_ run hlt h0 ih =>
    intro P ha hP he
    rw [encD_lit hlt h0, ih P (by omega) hP (by rw [← List.append_assoc, he, take_snoc all at_ hlt])]
  | case2 at_ run hlt h0 ih =>
    intro P ha hP he
    have hb := best_le all at_ ha
    obtain ⟨h1, h2, h3, h4, h5⟩ := found_of h0
    have hl : (all.take at_).length = at_ := by rw [List.length_take]; omega
    have hpl : P.length + run.length = at_ := by rw [← List.length_append, he, hl]
    rw [encD_match hlt (d := (best all at_).1) (n := (best all at_).2) rfl h0, List.append_assoc, dec_lits dl m _ run P hP (by omega), he]
    have hcons : UInt8.ofNat (124 + (best all at_).2) :: (putN (best all at_).1 ++ encD all (at_ + (best all at_).2) []) ++ rest = UInt8.ofNat (124 + (best all at_).2) :: (putN (best all at_).1 ++ (encD all (at_ + (best all at_).2) [] ++ rest)) := by simp
    rw [hcons, dec_match dl m _ _ _ _ h5 hb.1 h1 h2 (by rw [hl]; exact h3) (by rw [hl]; omega) (by rw [hl]; omega),
      copy_match all at_ _ h3 h1 _ hb.2.1 (fun k hk => matchLen_same all at_ _ k ha (by rw [← h4]; exact hk))]
    have hl2 : (all.take (at_ + (best all at_).2)).length = at_ + (best all at_).2 := by rw [List.length_take]; omega
    exact ih _ hb.2.1 (by rw [hl2]; omega) (by rw [List.append_nil])
  | case3 at_ run hlt =>
    intro P ha hP he
    have hat : at_ = all.length := by omega
    have he' : P ++ run = all := by rw [he, hat, List.take_length]
    have hl := congrArg List.length he'
    rw [List.length_append] at hl
    rw [encD_end hlt, dec_lits dl m rest run P hP (by omega), he']
/-- With a smaller bound it is not. -/
theorem dec_enc_long (all : List UInt8) (dl m : Nat) (hm : dl + m < all.length) (rest : List UInt8) (at_ : Nat) (run : List UInt8) : ∀ P : List UInt8, at_ ≤ all.length → dl ≤ P.length → P.length ≤ dl + m → P ++ run = all.take at_ → decT dl m (encD all at_ run ++ rest) P = (5, []) := by
  induction at_, run using encD.induct all with
  | case1 at_ run hlt h0 ih =>
    intro P ha hP hPm he
    rw [encD_lit hlt h0, ih P (by omega) hP hPm (by rw [← List.append_assoc, he, take_snoc all at_ hlt])]
  | case2 at_ run hlt h0 ih =>
    intro P ha hP hPm he
    have hb := best_le all at_ ha
    obtain ⟨h1, h2, h3, h4, h5⟩ := found_of h0
    have hl : (all.take at_).length = at_ := by rw [List.length_take]; omega
    have hpl : P.length + run.length = at_ := by rw [← List.length_append, he, hl]
    rw [encD_match hlt (d := (best all at_).1) (n := (best all at_).2) rfl h0, List.append_assoc]
    by_cases hx : dl + m < at_
    · exact dec_lits_long dl m _ run P hP hPm (by omega)
    · rw [dec_lits dl m _ run P hP (by omega), he]
      have hcons : UInt8.ofNat (124 + (best all at_).2) :: (putN (best all at_).1 ++ encD all (at_ + (best all at_).2) []) ++ rest = UInt8.ofNat (124 + (best all at_).2) :: (putN (best all at_).1 ++ (encD all (at_ + (best all at_).2) [] ++ rest)) := by simp
      rw [hcons]
      by_cases hy : dl + m < at_ + (best all at_).2
      · exact dec_match_long dl m _ _ _ _ h5 hb.1 h1 h2 (by rw [hl]; exact h3) (by rw [hl]; omega) (by rw [hl]; exact hy)
      · rw [dec_match dl m _ _ _ _ h5 hb.1 h1 h2 (by rw [hl]; exact h3) (by rw [hl]; omega) (by rw [hl]; omega),
          copy_match all at_ _ h3 h1 _ hb.2.1 (fun k hk => matchLen_same all at_ _ k ha (by rw [← h4]; exact hk))]
        have hl2 : (all.take (at_ + (best all at_).2)).length = at_ + (best all at_).2 := by rw [List.length_take]; omega
        exact ih _ hb.2.1 (by rw [hl2]; omega) (by rw [hl2]; omega) (by rw [List.append_nil])
  | case3 at_ run hlt =>
    intro P ha hP hPm he
    have hat : at_ = all.length := by omega
    have he' : P ++ run = all := by rw [he, hat, List.take_length]
    have hl := congrArg List.length he'
    rw [List.length_append] at hl
    rw [encD_end hlt, dec_lits_long dl m rest run P hP hPm (by omega)]

theorem decode_encodeD (dict b : List UInt8) (m : Nat) (hm : b.length ≤ m) : decodeD dict (encodeD dict b) (m : Int) = (0, b) := by
  unfold decodeD
  rw [if_neg (by omega), Int.toNat_natCast]
  have := dec_enc (dict ++ b) dict.length m (by rw [List.length_append]; omega) [] dict.length [] dict (by simp) (Nat.le_refl _) (by simp)
  rw [List.append_nil] at this
  unfold encodeD
  rw [this, decT_nil rfl, List.drop_left' rfl]
theorem decode_shortD (dict b : List UInt8) (m : Nat) (hm : m < b.length) : decodeD dict (encodeD dict b) (m : Int) = (5, []) := by
  unfold decodeD
  rw [if_neg (by omega), Int.toNat_natCast]
  have := dec_enc_long (dict ++ b) dict.length m (by rw [List.length_append]; omega) [] dict.length [] dict (by simp) (Nat.le_refl _) (by omega) (by simp)
  rw [List.append_nil] at this
  unfold encodeD
  exact this
theorem decode_two (dict a b : List UInt8) : decodeD dict (encodeD dict a ++ encodeD (dict ++ a) b) ((a.length + b.length : Nat) : Int) = (0, a ++ b) := by
  unfold decodeD
  rw [if_neg (by omega), Int.toNat_natCast]
  have h1 := dec_enc (dict ++ a) dict.length (a.length + b.length) (by rw [List.length_append]; omega) (encodeD (dict ++ a) b) dict.length [] dict (by simp) (Nat.le_refl _) (by simp)
  have h2 := dec_enc (dict ++ a ++ b) dict.length (a.length + b.length) (by rw [List.length_append, List.length_append]; omega) [] (dict ++ a).length [] (dict ++ a) (by simp) (by simp) (by rw [List.append_nil]; exact (List.take_left' rfl).symm)
  rw [List.append_nil] at h2
  have e1 : encodeD dict a = encD (dict ++ a) dict.length [] := rfl
  have e2 : encodeD (dict ++ a) b = encD (dict ++ a ++ b) (dict ++ a).length [] := rfl
  rw [e1, h1, e2, h2, decT_nil rfl, List.append_assoc, List.drop_left' rfl]

theorem refBest_max (all : List UInt8) (at_ : Nat) (f : Nat) : ∀ d dist most, most ≤ (refBest all at_ f d dist most).2 ∧ ∀ d', d ≤ d' → d' < d + f → 4 ≤ matchLen all at_ (at_ - d') → matchLen all at_ (at_ - d') ≤ (refBest all at_ f d dist most).2 := by
  induction f with
  | zero => intro d dist most; exact ⟨Nat.le_refl _, fun d' h1 h2 => by omega⟩
  | succ f ih =>
    intro d dist most
    rw [refBest]
    split
    · rename_i hc
      obtain ⟨i1, i2⟩ := ih (d + 1) d (matchLen all at_ (at_ - d))
      refine ⟨by omega, fun d' h1 h2 h4 => ?_⟩
      by_cases e : d' = d
      · subst e; exact i1
      · exact i2 d' (by omega) (by omega) h4
    · rename_i hc
      obtain ⟨i1, i2⟩ := ih (d + 1) dist most
      refine ⟨i1, fun d' h1 h2 h4 => ?_⟩
      by_cases e : d' = d
      · subst e
        have : ¬ most < matchLen all at_ (at_ - d') := fun h => hc ⟨h4, h⟩
        omega
      · exact i2 d' (by omega) (by omega) h4
/-- A string at the dictionary's end. -/
theorem enc_known (dict b : List UInt8) (h4 : 4 ≤ b.length) (h131 : b.length ≤ 131) : ∃ D : Nat, D ≤ 4096 ∧ encodeD (dict ++ b) b = UInt8.ofNat (124 + b.length) :: putN D := by
  obtain ⟨all, hall⟩ : ∃ x, x = dict ++ b ++ b := ⟨_, rfl⟩
  obtain ⟨at_, hat⟩ : ∃ x, x = (dict ++ b).length := ⟨_, rfl⟩
  have hl : all.length = at_ + b.length := by rw [hall, hat, List.length_append]
  have hatl : b.length ≤ at_ := by rw [hat, List.length_append]; omega
  have hm : matchLen all at_ (at_ - b.length) = b.length := by
    obtain ⟨_, f2, f3, f4, f5⟩ := lenFrom_facts all at_ (at_ - b.length) 131 0 (by omega)
    have hle : matchLen all at_ (at_ - b.length) ≤ b.length := by unfold matchLen; omega
    rcases Nat.lt_or_ge (matchLen all at_ (at_ - b.length)) b.length with hlt | hge
    · exfalso
      have := f5 (by unfold matchLen at hlt; omega) (by unfold matchLen at hlt; omega)
      have hk : lenFrom all at_ (at_ - b.length) 131 0 < b.length := hlt
      generalize lenFrom all at_ (at_ - b.length) 131 0 = k at this hk
      apply this
      have hd : at_ - b.length = dict.length := by rw [hat, List.length_append]; omega
      rw [hd, hall, List.append_assoc, List.getElem?_append_right (by omega), List.getElem?_append_left (by omega), ← List.append_assoc, List.getElem?_append_right (by rw [← hat]; omega), ← hat]
      congr 1
      omega
    · omega
  have hbl := best_le all at_ (by omega)
  have hmax := (refBest_max all at_ (min 4096 at_) 1 0 0).2 b.length (by omega) (by omega) (by rw [hm]; exact h4)
  rw [hm] at hmax
  have hb2 : (best all at_).2 = b.length := by
    have : b.length ≤ (best all at_).2 := hmax
    omega
  refine ⟨(best all at_).1, hbl.2.2.1, ?_⟩
  have e : encodeD (dict ++ b) b = encD all at_ [] := by unfold encodeD; rw [hall, hat]
  rw [e, encD_match (by omega) (d := (best all at_).1) (n := (best all at_).2) rfl (by omega), lits_nil, hb2, encD_end (by omega), lits_nil]
  simp
end Go.Proofs.Ytfdkhopionknaaa
