/- The sites of this law and their lineages; Apply, Isolate, Promote at them. -/
import Derived.Test.YtcalfnncjkaekaaFj
namespace Go.Proofs.Ytcalfnncjkaekaa
open Go.RowKit
set_option linter.unusedVariables false
set_option linter.unusedSimpArgs false
set_option maxRecDepth 20000

/-- The lineage of n cycles of epoch 1; and with k more of epoch 2. -/
def linA (n : Nat) : List Sp := if n = 0 then [] else [⟨1, 1, n⟩]
def linB (m k : Nat) : List Sp := if k = 0 then linA m else linA m ++ [⟨2, m + 1, m + k⟩]
def siteA (n : Nat) : St := ⟨0, 1, 1, n, -1, true, true⟩
def siteB (m : Nat) : St := ⟨1, 2, 1, m, 0, true, true⟩
def siteC (m : Nat) : St := ⟨1, 1, 2, m, -1, true, true⟩

theorem ext_linA (n : Nat) : ext (linA n) 1 n (n + 1) = linA (n + 1) := by
  cases n with
  | zero => rfl
  | succ n => simp [ext, linA, lastD]
theorem ext_linB (m k : Nat) : ext (linB m k) 2 (m + k) (m + k + 1) = linB m (k + 1) := by
  cases k with
  | zero =>
    cases m with
    | zero => rfl
    | succ m => simp [ext, linA, linB, lastD]
  | succ k =>
    cases m with
    | zero => simp [ext, linA, linB, lastD]
    | succ m => simp [ext, linA, linB, lastD]; omega
theorem linA_len (n : Nat) : (linA n).length ≤ 1 := by unfold linA; split <;> simp
theorem linB_len (m k : Nat) : (linB m k).length ≤ 2 := by
  have := linA_len m
  unfold linB; split <;> simp <;> omega
theorem linA_last (n : Nat) : (lastD (linA n)).t = n := by cases n <;> rfl
theorem linB_last (m k : Nat) : (lastD (linB m k)).t = m + k := by
  cases k with
  | zero => exact linA_last m
  | succ k => simp [linB, lastD]
theorem linA_ep (n : Nat) : (lastD (linA n)).e ≤ 1 := by cases n <;> simp [linA, lastD]
theorem linB_ep (m k : Nat) : (lastD (linB m k)).e ≤ 2 := by
  cases k with
  | zero => have := linA_ep m; simp [linB]; omega
  | succ k => simp [linB, lastD]
theorem linA_gl (n : Nat) (h : n ≤ 1000) : gl 0 0 (linA n) := by
  cases n with
  | zero => trivial
  | succ n => simp [linA, gl]; omega
theorem linB_gl (m k : Nat) (h : m + k ≤ 1000) : gl 0 0 (linB m k) := by
  cases k with
  | zero => exact linA_gl m (by omega)
  | succ k =>
    cases m with
    | zero => simp [linA, linB, gl]; omega
    | succ m => simp [linA, linB, gl]; omega
theorem goodA (n : Nat) (h : n ≤ 1000) : Good (siteA n) (linA n) :=
  ⟨by simp [siteA], by simp [siteA], by simp [siteA], by simp [siteA]; omega, by simp [siteA], linA_gl n h, by have := linA_ep n; simp [siteA]; omega, linA_last n, by have := linA_len n; omega, by simp [siteA], by simp [siteA]⟩
theorem goodB (n : Nat) (h : n ≤ 1000) : Good (siteB n) (linA n) :=
  ⟨by simp [siteB], by simp [siteB], by simp [siteB], by simp [siteB]; omega, by simp [siteB], linA_gl n h, by have := linA_ep n; simp [siteB]; omega, linA_last n, by have := linA_len n; omega, fun _ => ⟨0, rfl, by omega, by simp [siteB]⟩, by simp [siteB]⟩
theorem goodC (m k : Nat) (h : m + k ≤ 1000) : Good (siteC (m + k)) (linB m k) :=
  ⟨by simp [siteC], by simp [siteC], by simp [siteC], by simp [siteC]; omega, by simp [siteC], linB_gl m k h, by have := linB_ep m k; simp [siteC]; omega, linB_last m k, by have := linB_len m k; omega, by simp [siteC], by simp [siteC]⟩
theorem linB_zero (m : Nat) : linB m 0 = linA m := rfl

/-- What a transition of this law hands back. -/
def Res (w : World) (nm rl ep : Int) (ap : Int) (sr : Int) (L : List Sp) : Ending → World → Prop := fun e w' => ∃ A c, e = .returned (.tuple #[.agg #[.int .i64 nm, .int .i64 rl, .int .i64 ep, .int .i64 ap, .slice A L.length c, .int .i64 sr, .bool true, .bool true], .int .i64 0]) ∧ Own w' w.heap.size 65 3 (.slice A L.length c) L.length (fl L) ∧ (L = [] → A = none ∧ c = 0) ∧ Below w.heap.size w w'
theorem applyA (k : Nat) (A : Option Addr) (c : Nat) (w : World) (hk : k ≤ 900) (hr : Rd w A (linA k).length c (fl (linA k))) (h0 : linA k = [] → A = none ∧ c = 0) :
    Calls Try.prog 11 #[.agg #[.int .i64 0, .int .i64 1, .int .i64 1, .int .i64 k, .slice A (linA k).length c, .int .i64 (-1), .bool true, .bool true], .int .i64 1, .int .i64 ((k : Int) + 1)] w (Res w 0 1 1 ((k : Int) + 1) (-1) (linA (k + 1))) := by
  have h := apply11 (siteA k) A c (linA k) (k + 1) w hr h0 (goodA k (by omega)) (.inl rfl) (by simp [siteA]) (by simp [siteA]) (by omega) (by have := linA_len k; omega)
  rw [show (siteA k).ep = 1 from rfl, show (siteA k).ap = k from rfl, ext_linA] at h
  exact h
theorem applyB (k : Nat) (A : Option Addr) (c : Nat) (w : World) (hk : k ≤ 900) (hr : Rd w A (linA k).length c (fl (linA k))) (h0 : linA k = [] → A = none ∧ c = 0) :
    Calls Try.prog 11 #[.agg #[.int .i64 1, .int .i64 2, .int .i64 1, .int .i64 k, .slice A (linA k).length c, .int .i64 0, .bool true, .bool true], .int .i64 1, .int .i64 ((k : Int) + 1)] w (Res w 1 2 1 ((k : Int) + 1) 0 (linA (k + 1))) := by
  have h := apply11 (siteB k) A c (linA k) (k + 1) w hr h0 (goodB k (by omega)) (.inr rfl) (by simp [siteB]) (by simp [siteB]) (by omega) (by have := linA_len k; omega)
  rw [show (siteB k).ep = 1 from rfl, show (siteB k).ap = k from rfl, ext_linA] at h
  exact h
theorem applyC (m k : Nat) (A : Option Addr) (c : Nat) (w : World) (hk : m + k ≤ 900) (hr : Rd w A (linB m k).length c (fl (linB m k))) (h0 : linB m k = [] → A = none ∧ c = 0) :
    Calls Try.prog 11 #[.agg #[.int .i64 1, .int .i64 1, .int .i64 2, .int .i64 ((m + k : Nat) : Int), .slice A (linB m k).length c, .int .i64 (-1), .bool true, .bool true], .int .i64 2, .int .i64 (((m + k : Nat) : Int) + 1)] w (Res w 1 1 2 (((m + k : Nat) : Int) + 1) (-1) (linB m (k + 1))) := by
  have h := apply11 (siteC (m + k)) A c (linB m k) (m + k + 1) w hr h0 (goodC m k (by omega)) (.inl rfl) (by simp [siteC]) (by simp [siteC]) (by omega) (by have := linB_len m k; omega)
  rw [show (siteC (m + k)).ep = 2 from rfl, show (siteC (m + k)).ap = m + k from rfl, ext_linB] at h
  exact h
theorem promoteA (w : World) : Calls Try.prog 10 #[.agg #[.int .i64 0, .int .i64 0, .int .i64 0, .int .i64 0, .slice none 0 0, .int .i64 (-1), .bool true, .bool true], .int .i64 1] w (Res w 0 1 1 0 (-1) (linA 0)) := by
  have h := promote10 ⟨0, 0, 0, 0, -1, true, true⟩ none 0 [] 1 w ⟨Nat.le_refl _, by simp, fun _ => ⟨rfl, rfl, rfl⟩, fun a ha => by cases ha⟩ (fun _ => ⟨rfl, rfl⟩)
    ⟨by simp, by simp, by simp, by simp, by simp, trivial, by simp [lastD], by simp [lastD], by simp, by simp, by simp⟩ (.inl ⟨rfl, rfl⟩) rfl (by simp) (by omega)
  exact h
theorem isolateB (m : Nat) (A : Option Addr) (c : Nat) (w : World) (hk : m ≤ 900) (hr : Rd w A (linA m).length c (fl (linA m))) (h0 : linA m = [] → A = none ∧ c = 0) :
    Calls Try.prog 9 #[.agg #[.int .i64 1, .int .i64 2, .int .i64 1, .int .i64 m, .slice A (linA m).length c, .int .i64 0, .bool true, .bool true]] w (Res w 1 3 1 m (-1) (linA m)) :=
  isolate9 (siteB m) A c (linA m) w hr h0 (goodB m (by omega)) rfl
theorem promoteC (m : Nat) (A : Option Addr) (c : Nat) (w : World) (hk : m ≤ 900) (hr : Rd w A (linA m).length c (fl (linA m))) (h0 : linA m = [] → A = none ∧ c = 0) :
    Calls Try.prog 10 #[.agg #[.int .i64 1, .int .i64 3, .int .i64 1, .int .i64 m, .slice A (linA m).length c, .int .i64 (-1), .bool true, .bool true], .int .i64 2] w (Res w 1 1 2 m (-1) (linA m)) := by
  have hg : Good ⟨1, 3, 1, m, -1, true, true⟩ (linA m) := 
    ⟨by simp, by simp, by simp, by simp; omega, by simp, linA_gl m (by omega), by have := linA_ep m; simp; omega, linA_last m, by have := linA_len m; omega, by simp, by simp⟩
  exact promote10 ⟨1, 3, 1, m, -1, true, true⟩ A c (linA m) 2 w hr h0 hg (.inr rfl) rfl (by simp) (by omega)
end Go.Proofs.Ytcalfnncjkaekaa
