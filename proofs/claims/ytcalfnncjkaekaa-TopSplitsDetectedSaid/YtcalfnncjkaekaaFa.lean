/- Small functions of sites; a lineage is correct (27); its head (31). -/
import Derived.Test.YtcalfnncjkaekaaBas
namespace Go.Proofs.Ytcalfnncjkaekaa
open Go.RowKit
set_option linter.unusedVariables false
set_option linter.unusedSimpArgs false
set_option maxRecDepth 20000

theorem below_then {a b c : World} (h : Below a.heap.size a b) (k : Below b.heap.size b c) : Below a.heap.size a c := h.trans (k.mono h.size)
theorem below_new (w : World) (o : Obj) : Below w.heap.size w (w.alloc o) := (Below.refl _ _).alloc (Nat.le_refl _) _
theorem cell_k {w : World} {b i : Nat} {cs : Array Value} {t : TypeId} {v : Value} (h : w.heap[b]? = some (.cells cs t (0, 0))) (hv : cs[i]? = some v) : w.cell? ⟨b, i, none⟩ = some v := by
  rw [cell_of_row _ _ i _ _ _ h]; exact hv
theorem frozen_k {w : World} {b i : Nat} {cs : Array Value} {t : TypeId} (h : w.heap[b]? = some (.cells cs t (0, 0))) : w.frozen? ⟨b, i, none⟩ = false := by
  unfold World.frozen?
  simp [h]
theorem fl_get (L : List Sp) : ∀ (i j : Nat) (s : Sp), L[i]? = some s → j < 3 → (fl L)[i * 3 + j]? = s.cells[j]? := by
  induction L with
  | nil => intro i j s h; simp at h
  | cons x L ih =>
    intro i j s h hj
    show (x.cells ++ fl L)[i * 3 + j]? = _
    cases i with
    | zero =>
      simp at h; subst h
      rw [Nat.zero_mul, Nat.zero_add, List.getElem?_append_left (by simpa [Sp.cells] using hj)]
    | succ i =>
      simp at h
      rw [List.getElem?_append_right (by simp [Sp.cells]; omega), show (i + 1) * 3 + j - x.cells.length = i * 3 + j from by simp [Sp.cells]; omega]
      exact ih i j s h hj
theorem sp_cells {w : World} {a : Addr} {n c k : Nat} {L : List Sp} {s : Sp} (h : Rd w (some a) n c (fl L)) (hs : L[k]? = some s) :
    w.cell? (a.add (k * 3)) = some (.int .i64 s.e) ∧ w.cell? ⟨(a.add (k * 3)).block, (a.add (k * 3)).off + 1, none⟩ = some (.int .i64 s.f) ∧ w.cell? ⟨(a.add (k * 3)).block, (a.add (k * 3)).off + 2, none⟩ = some (.int .i64 s.t) := by
  have hr := h.row a rfl
  have h0 := hr (k * 3 + 0) (.int .i64 s.e) (by rw [fl_get L k 0 s hs (by omega)]; rfl)
  have h1 := hr (k * 3 + 1) (.int .i64 s.f) (by rw [fl_get L k 1 s hs (by omega)]; rfl)
  have h2 := hr (k * 3 + 2) (.int .i64 s.t) (by rw [fl_get L k 2 s hs (by omega)]; rfl)
  rw [← Addr.add_add'] at h1 h2
  exact ⟨h0, h1, h2⟩

theorem in29 (n l h : Nat) (w : World) (h1 : l ≤ n) (h2 : n ≤ h) : Calls Try.prog 29 #[.int .i64 n, .int .i64 l, .int .i64 h] w fun e w' => e = .returned (.bool true) ∧ w' = w := by
  have b1 : decide ((l : Int) ≤ (n : Int)) = true := decide_eq_true (by omega)
  have b2 : decide ((n : Int) ≤ (h : Int)) = true := decide_eq_true (by omega)
  go_enter Try.func29, Try.ntmps29
  go_wp2
  go_ret
  exact ⟨rfl, rfl⟩
theorem in34 (n : Nat) (w : World) (h1 : 1 ≤ n) (h2 : n ≤ 1073741824) : Calls Try.prog 34 #[.int .i64 n, .int .i64 1] w fun e w' => e = .returned (.bool true) ∧ w' = w := by
  have b1 : decide ((1 : Int) ≤ (n : Int)) = true := decide_eq_true (by omega)
  have b2 : decide ((n : Int) ≤ 1073741824) = true := decide_eq_true (by omega)
  go_enter Try.func34, Try.ntmps34
  go_wp2
  go_ret
  exact ⟨rfl, rfl⟩
theorem receives32 (n : Nat) (w : World) : Calls Try.prog 32 #[.int .i64 n] w fun e w' => e = .returned (.bool (decide (n = 2 ∨ n = 4))) ∧ w' = w := by
  by_cases h2 : n = 2
  · subst h2
    go_enter Try.func32, Try.ntmps32
    go_wp2
    go_ret
    exact ⟨rfl, rfl⟩
  · by_cases h4 : n = 4
    · subst h4
      go_enter Try.func32, Try.ntmps32
      go_wp2
      go_ret
      exact ⟨rfl, rfl⟩
    · have b2 : ((n : Int) == 2) = false := by simp; omega
      have b4 : ((n : Int) == 4) = false := by simp; omega
      have hd : decide (n = 2 ∨ n = 4) = false := by simp; omega
      rw [hd]
      clear hd
      go_enter Try.func32, Try.ntmps32
      go_wp2
      go_ret
      exact ⟨rfl, rfl⟩
theorem other33 (s : St) (A : Option Addr) (n c : Nat) (m : Nat) (w : World) (h1 : m ≤ 3) (h2 : m ≠ s.num) :
    Calls Try.prog 33 #[stV s (.slice A n c), .int .i64 m] w fun e w' => e = .returned (.bool true) ∧ Below w.heap.size w w' := by
  have b1 : ((m : Int) != (s.num : Int)) = true := by simp; omega
  unfold stV
  go_enter Try.func33, Try.ntmps33
  go_wp2_with fail
  refine (in29 m 0 3 _ (by omega) h1).mono ?_
  rintro e w1 ⟨rfl, rfl⟩
  go_wp2
  go_ret
  exact ⟨rfl, below_new _ _⟩
def lastD (L : List Sp) : Sp := L.getLast?.getD ⟨0, 0, 0⟩
theorem lt_of_cells {w : World} {a : Addr} {v : Value} (h : w.cell? a = some v) : a.block < w.heap.size ∧ a.block ≠ w.heap.size := by
  have := block_lt_of_cell h
  exact ⟨this, by omega⟩
theorem head31 (A : Option Addr) (c : Nat) (L : List Sp) (w : World) (hr : Rd w A L.length c (fl L)) :
    Calls Try.prog 31 #[.slice A L.length c] w fun e w' => e = .returned (spV (lastD L)) ∧ Below w.heap.size w w' := by
  by_cases h0 : L.length = 0
  · have : L = [] := List.eq_nil_of_length_eq_zero h0
    subst this
    go_enter Try.func31, Try.ntmps31
    go_wp2
    go_returns
    exact ⟨rfl, by go_grown⟩
  · obtain ⟨N, hN⟩ : ∃ N, L.length = N + 1 := ⟨L.length - 1, by omega⟩
    obtain ⟨s, hs⟩ : ∃ s, L[N]? = some s := ⟨_, List.getElem?_eq_getElem (by omega)⟩
    obtain ⟨a, rfl⟩ : ∃ a, A = some a := by
      cases A with
      | none => have := (hr.nil rfl).1; omega
      | some a => exact ⟨a, rfl⟩
    obtain ⟨c0, c1, c2⟩ := sp_cells hr hs
    obtain ⟨l1, l2⟩ := lt_of_cells c0
    have hl : lastD L = s := by
      unfold lastD; rw [List.getLast?_eq_getElem?, show L.length - 1 = N by omega, hs]; rfl
    have hmx : N + 1 ≤ maxLen := by rw [← hN]; exact Nat.le_trans hr.le hr.max
    unfold maxLen at hmx
    have b0 : ((N : Int) + 1 == 0) = false := by simp; omega
    have b1 : wrap64 (N : Int) = (N : Int) := by unfold wrap64; omega
    rw [hl, hN]
    clear hl hs hN hr h0
    go_enter Try.func31, Try.ntmps31
    go_wp2
    go_returns
    exact ⟨rfl, by go_grown⟩
end Go.Proofs.Ytcalfnncjkaekaa
