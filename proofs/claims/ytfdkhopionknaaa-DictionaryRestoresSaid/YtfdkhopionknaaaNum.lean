/- Reading a number: the plain function, the reference's walk and the program's. -/
import Derived.Test.YtfdkhopionknaaaWireB
namespace Go.Proofs.Ytfdkhopionknaaa
open Go.RowKit

/-- From group i on, n so far: the number, how many bytes it has, the error. -/
def numG : List UInt8 → Nat → Nat → Nat × Nat × Nat
  | [], i, _ => if i < 8 then (0, 0, 10) else (0, 0, 3)
  | b :: l, i, n =>
    if i < 8 then
      if 128 ≤ b.toNat then numG l (i + 1) (n + b.toNat % 128 * 128 ^ i)
      else if b.toNat = 0 ∧ 0 < i ∨ 9007199254740991 < n + b.toNat % 128 * 128 ^ i then (0, 0, 3)
      else (n + b.toNat % 128 * 128 ^ i, i + 1, 0)
    else (0, 0, 3)

theorem numG_end (l : List UInt8) (n : Nat) : numG l 8 n = (0, 0, 3) := by cases l <;> simp [numG]
theorem numG_nil (i n : Nat) (h : i < 8) : numG [] i n = (0, 0, 10) := by simp [numG, h]

theorem byte_at {w : World} {a : Addr} {c : Nat} {bs : List UInt8} (h : Bytes w (some a) c bs) {k : Nat} (hk : k < bs.length) :
    ∃ x : UInt8, bs[k]? = some x ∧ w.cell? (a.add k) = some (.int .u8 x.toNat) ∧ x.toNat < 256 ∧ bs.drop k = x :: bs.drop (k + 1) := by
  refine ⟨bs[k], List.getElem?_eq_getElem hk, ?_, UInt8.toNat_lt _, List.drop_eq_getElem_cons hk⟩
  exact h.row a rfl k (B bs[k]) (by simp [hk])

/-- One group more. -/
theorem numG_step {j acc : Nat} {x : UInt8} {l : List UInt8} {r : Nat × Nat × Nat} (hj : j < 8) (h : numG (x :: l) j acc = r) :
    (128 ≤ x.toNat → numG l (j + 1) (acc + x.toNat % 128 * 128 ^ j) = r) ∧
    (x.toNat < 128 → x.toNat = 0 ∧ 0 < j → r = (0, 0, 3)) ∧
    (x.toNat < 128 → 9007199254740991 < acc + x.toNat % 128 * 128 ^ j → r = (0, 0, 3)) ∧
    (x.toNat < 128 → ¬ (x.toNat = 0 ∧ 0 < j) → ¬ 9007199254740991 < acc + x.toNat % 128 * 128 ^ j → r = (acc + x.toNat % 128 * 128 ^ j, j + 1, 0)) := by
  rw [numG, if_pos hj] at h
  refine ⟨fun h1 => ?_, fun h1 h2 => ?_, fun h1 h2 => ?_, fun h1 h2 h3 => ?_⟩
  · rwa [if_pos h1] at h
  · rw [if_neg (by omega), if_pos (.inl h2)] at h; exact h.symm
  · rw [if_neg (by omega), if_pos (.inr h2)] at h; exact h.symm
  · rw [if_neg (by omega), if_neg (by rintro (h | h) <;> contradiction)] at h; exact h.symm

theorem Bytes.some_of {w : World} {A : Option Addr} {cap : Nat} {bs : List UInt8} (h : Bytes w A cap bs) {k : Nat} (hk : k < bs.length) : ∃ a, A = some a := by
  rcases h.parts with ⟨_, _, rfl⟩ | h
  · simp at hk
  · exact h
theorem Secs.some_of {w : World} {A : Option Addr} {cap : Nat} {xs : List Sec} (h : Secs w A cap xs) {k : Nat} (hk : k < xs.length) : ∃ a, A = some a := by
  rcases h.parts with ⟨_, _, rfl⟩ | h
  · simp at hk
  · exact h
theorem tup3 {a b c a' b' c' : Nat} (h : (a', b', c') = (a, b, c)) : Ending.returned (.tuple #[.int .i64 (a : Int), .int .i64 (b : Int), .int .i64 (c : Int)]) = .returned (.tuple #[.int .i64 (a' : Int), .int .i64 (b' : Int), .int .i64 (c' : Int)]) := by
  cases h; rfl

set_option maxRecDepth 20000 in
set_option maxHeartbeats 1000000 in
theorem refnumber_calls (A : Option Addr) (c : Nat) (bs : List UInt8) (w : World) (h : Bytes w A c bs) (hlen : bs.length ≤ 1099511627776) (n k e : Nat) (hn : numG bs 0 0 = (n, k, e)) :
    Calls Try.prog 73 #[.slice A bs.length c] w fun e' w' => e' = .returned (.tuple #[.int .i64 n, .int .i64 k, .int .i64 e]) ∧ w' = w := by
  have HN := Lib.hid hn
  clear hn
  go_enter Try.func73, Try.ntmps73
  go_wp2
  go_loop [5, 6, 7, 8] (fun n' wt i b => ∃ (acc W j : Nat), n' = .int .i64 acc ∧ wt = .int .i64 W ∧ i = .int .i64 j ∧ Hid (W = 128 ^ j) ∧ j ≤ 8 ∧ acc < W ∧ W ≤ 72057594037927936 ∧ Hid (numG (bs.drop j) j acc = (n, k, e))) (fun _ _ i _ => 8 - (intOf i).toNat)
  case atStart => exact ⟨0, 1, 0, rfl, rfl, rfl, rfl, by omega, by omega, by omega, HN.out⟩
  case round =>
    obtain ⟨acc, W, j, rfl, rfl, rfl, hW, hj, ha, hWb, hN⟩ := hrel
    by_cases hj8 : j < 8
    · by_cases hjl : j < bs.length
      · obtain ⟨a, rfl⟩ := h.some_of hjl
        obtain ⟨x, hx, hc, hx2, hdr⟩ := byte_at h hjl
        have hst := numG_step hj8 (hdr ▸ hN.out)
        rw [← hW.out] at hst
        have hWb' : W ≤ 562949953421312 := by rw [hW.out]; exact Nat.pow_le_pow_right (by decide) (show j ≤ 7 by omega)
        generalize x.toNat = y at *
        obtain ⟨p, hp, hpb⟩ : ∃ p : Nat, y % 128 * W = p ∧ p ≤ 127 * W := ⟨_, rfl, Nat.mul_le_mul_right _ (by omega)⟩
        rw [hp] at hst
        have hpi : ((y : Int) % 128) * (W : Int) = (p : Int) := by rw [← hp]; simp
        have HP := Lib.hid hp
        have HS := Lib.hid hst
        clear hx hdr hst hp
        by_cases hy : 128 ≤ y
        · go_wp2
          refine ⟨⟨acc + p, W * 128, j + 1, rfl, rfl, rfl, ?_, by omega, by omega, by omega, HS.out.1 hy⟩, by simp [intOf]; omega⟩
          show W * 128 = 128 ^ (j + 1)
          rw [hW.out, Nat.pow_succ]
        · by_cases hz : y = 0 ∧ 0 < j
          · have hb1 : ((y : Int) == 0) = true := by simp [hz.1]
            have hz2 := hz.2
            have HZ := Lib.hid hz
            clear hz
            go_wp2
            go_ret3
            exact ⟨tup3 (HS.out.2.1 (by omega) HZ.out), rfl⟩
          · by_cases hm : 9007199254740991 < acc + p
            · have HZ := Lib.hid hz
              clear hz
              by_cases hy0 : y = 0
              · have hj0 : ¬ 0 < j := fun h => HZ.out ⟨hy0, h⟩
                have hb1 : ((y : Int) == 0) = true := by simp [hy0]
                have HY := Lib.hid hy0
                clear hy0
                go_wp2
                go_ret3
                exact ⟨tup3 (HS.out.2.2.1 (by omega) hm), rfl⟩
              · have hb1 : ((y : Int) == 0) = false := by simp; omega
                have HY := Lib.hid hy0
                clear hy0
                go_wp2
                go_ret3
                exact ⟨tup3 (HS.out.2.2.1 (by omega) hm), rfl⟩
            · have HZ := Lib.hid hz
              clear hz
              by_cases hy0 : y = 0
              · have hj0 : ¬ 0 < j := fun h => HZ.out ⟨hy0, h⟩
                have hb1 : ((y : Int) == 0) = true := by simp [hy0]
                have HY := Lib.hid hy0
                clear hy0
                go_wp2
                go_ret3
                exact ⟨tup3 (HS.out.2.2.2 (by omega) HZ.out hm), rfl⟩
              · have hb1 : ((y : Int) == 0) = false := by simp; omega
                have HY := Lib.hid hy0
                clear hy0
                go_wp2
                go_ret3
                exact ⟨tup3 (HS.out.2.2.2 (by omega) HZ.out hm), rfl⟩
      · have h10 : (n, k, e) = (0, 0, 10) := by
          have := hN.out
          rw [List.drop_eq_nil_of_le (by omega), numG_nil _ _ hj8] at this
          exact this.symm
        have H10 := Lib.hid h10
        clear h10
        go_wp2
        go_ret3
        exact ⟨tup3 H10.out, rfl⟩
    · have hj8' : j = 8 := by omega
      have h10 : (n, k, e) = (0, 0, 3) := by
        have := hN.out
        rw [hj8', numG_end] at this
        exact this.symm
      have H10 := Lib.hid h10
      clear h10 hj8'
      go_wp2
      go_ret3
      exact ⟨tup3 H10.out, rfl⟩

set_option maxRecDepth 20000 in
set_option maxHeartbeats 1000000 in
theorem rest_calls (A : Option Addr) (c : Nat) (bs : List UInt8) (w : World) (h : Bytes w A c bs) (hlen : bs.length ≤ 1099511627776) (k : Nat) (hk : k ≤ bs.length) :
    Calls Try.prog 74 #[.slice A bs.length c, .int .i64 k] w (Fresh w (bs.drop k)) := by
  obtain ⟨A', c', bs', hbs, hsl, hb'⟩ := bslice_lo h k hk
  have hl' : bs'.length ≤ 1099511627776 := by rw [hbs.out, List.length_drop]; omega
  go_enter Try.func74, Try.ntmps74
  go_wp2_with (at_builtin; refine Stop.at ?_)
  refine Stop.go ?_
  refine step_append E24 rfl (.tmp 6) (.tmp 9) rfl w.heap.size rfl (Own.nil _ _ _ _) rfl hb' (by simp) (oneCell_B _) (by omega) (by decide) (by simp) ?_
  intro v1 w1 h1 hg1
  have H1 := Lib.hid h1
  clear h1
  go_wp2
  go_ret
  rw [← hbs.out]
  exact ⟨v1, rfl, by simpa using H1.out, hg1.below (Own.nil w w.heap.size 5 1) (Nat.le_refl _)⟩

theorem numG_le (l : List UInt8) : ∀ (i a n k e : Nat), numG l i a = (n, k, e) → (e = 0 → i < k ∧ k ≤ i + l.length ∧ n ≤ 9007199254740991) ∧ (e ≠ 0 → n = 0 ∧ k = 0) ∧ (e = 0 ∨ e = 3 ∨ e = 10) := by
  induction l with
  | nil => intro i a n k e h; simp only [numG] at h; split at h <;> (cases h; simp)
  | cons b l ih =>
    intro i a n k e h
    simp only [numG] at h
    split at h
    · split at h
      · have := ih _ _ _ _ _ h; refine ⟨fun he => ?_, this.2⟩; have := this.1 he; simp; omega
      · split at h
        · cases h; simp
        · rename_i h2
          cases h
          simp; omega
    · cases h; simp

/-- The result of reading a number at the beginning of bs. -/
def IntRes (w : World) (bs : List UInt8) (e : Ending) (w' : World) : Prop :=
  ∃ (n k er : Nat) (v' : Value), numG bs 0 0 = (n, k, er) ∧ e = .returned (.tuple #[.int .i64 n, v', .int .i64 er]) ∧ Below w.heap.size w w' ∧
    (er = 0 → Own w' w.heap.size 5 1 v' (bs.length - k) ((bs.drop k).map B)) ∧ (er ≠ 0 → v' = .slice none 0 0)

set_option maxRecDepth 20000 in
set_option maxHeartbeats 1000000 in
theorem refInt_calls (A : Option Addr) (c : Nat) (bs : List UInt8) (w : World) (h : Bytes w A c bs) (hlen : bs.length ≤ 1099511627776) :
    Calls Try.prog 48 #[.slice A bs.length c] w (IntRes w bs) := by
  obtain ⟨⟨n, k, er⟩, hn⟩ : ∃ r, numG bs 0 0 = r := ⟨_, rfl⟩
  have hle := numG_le bs 0 0 n k er hn
  have HN := Lib.hid hn
  clear hn
  by_cases he : er = 0
  · obtain ⟨h1, h2, h3⟩ := hle.1 he
    subst he
    clear hle
    go_enter Try.func48, Try.ntmps48
    go_wp2_with fail
    refine (refnumber_calls _ _ _ _ h hlen n k 0 HN.out).mono ?_
    rintro e w1 ⟨rfl, rfl⟩
    go_wp2_with fail
    refine (rest_calls _ _ _ _ h hlen k (by omega)).mono ?_
    rintro e w2 ⟨v2, rfl, ho2, hb2⟩
    have HO := Lib.hid ho2
    clear ho2
    go_wp2
    go_ret3
    exact ⟨n, k, 0, v2, HN.out, rfl, hb2, fun _ => by simpa using HO.out, fun h => absurd rfl h⟩
  · obtain ⟨rfl, rfl⟩ := hle.2.1 he
    have hb : ((er : Int) != 0) = true := by simp; omega
    have HE := Lib.hid he
    clear hle he
    go_enter Try.func48, Try.ntmps48
    go_wp2_with fail
    refine (refnumber_calls _ _ _ _ h hlen 0 0 er HN.out).mono ?_
    rintro e w1 ⟨rfl, rfl⟩
    go_wp2
    go_ret3
    exact ⟨0, 0, er, _, HN.out, rfl, Below.refl _ _, fun h => absurd h HE.out, fun _ => rfl⟩
end Go.Proofs.Ytfdkhopionknaaa
