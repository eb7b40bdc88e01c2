/- A lineage is correct (27). -/
import Derived.Test.YtcalfnncjkaekaaFa
namespace Go.Proofs.Ytcalfnncjkaekaa
open Go.RowKit
set_option linter.unusedVariables false
set_option linter.unusedSimpArgs false
set_option maxRecDepth 20000

theorem gl_drop {L : List Sp} {k : Nat} {s : Sp} {e t : Nat} (hs : L[k]? = some s) (h : gl e t (L.drop k)) : s.f = t + 1 ∧ s.f ≤ s.t ∧ s.t ≤ 1073741824 ∧ e < s.e ∧ s.e ≤ 1073741824 ∧ gl s.e s.t (L.drop (k + 1)) := by
  have hd : L.drop k = s :: L.drop (k + 1) := by
    obtain ⟨hk, he⟩ := List.getElem?_eq_some_iff.1 hs
    rw [List.drop_eq_getElem_cons hk, he]
  rw [hd] at h
  exact h
theorem alloc_old {w : World} {k : Nat} {o x : Obj} (h : w.heap[k]? = some x) : (w.alloc o).heap[k]? = some x := by
  rw [Below.heap_alloc _ _ _ (lt_of_heap h)]; exact h
theorem some_of {w : World} {A : Option Addr} {n c k : Nat} {L : List Value} (h : Rd w A n c L) (hk : k < n) : ∃ a, A = some a := by
  cases A with
  | none => have := (h.nil rfl).1; omega
  | some a => exact ⟨a, rfl⟩

set_option maxHeartbeats 400000 in
theorem correct27 (A : Option Addr) (c : Nat) (L : List Sp) (w : World) (hr : Rd w A L.length c (fl L)) (hg : gl 0 0 L) (hl : L.length ≤ 100) :
    Calls Try.prog 27 #[.slice A L.length c] w fun e w' => e = .returned (.bool true) ∧ Below w.heap.size w w' := by
  have HR := Lib.hid hr
  have HG := Lib.hid hg
  clear hr hg
  go_enter Try.func27, Try.ntmps27
  go_wp2_with fail
  go_loopw [9] (fun n w' => ∃ (k : Nat) (x : Sp), n = .int .i64 k ∧ k ≤ L.length ∧ Hid (w'.heap[w.heap.size]? = some (.cells #[.int .i64 x.e, .int .i64 x.f, .int .i64 x.t] 65 (0, 0))) ∧ Hid (gl x.e x.t (L.drop k)) ∧ x.t ≤ 1073741824 ∧ Hid (Below w.heap.size w w')) (fun n w' => L.length - (intOf n).toNat)
  case atStart =>
    exact ⟨0, ⟨0, 0, 0⟩, rfl, Nat.zero_le _, heap_alloc_new _ _, HG.out, by simp, below_new _ _⟩
  case round =>
    obtain ⟨k, x, rfl, hk, hx, hgx, hxt, hb⟩ := hrel
    by_cases hlt : k < L.length
    · obtain ⟨s, hs⟩ : ∃ s, L[k]? = some s := ⟨_, List.getElem?_eq_getElem hlt⟩
      obtain ⟨a, rfl⟩ := some_of HR.out hlt
      have hr' := HR.out.below hb.out
      obtain ⟨c0, c1, c2⟩ := sp_cells hr' hs
      obtain ⟨l1, l2⟩ := lt_of_cells c0
      obtain ⟨g1, g2, g3, g4, g5, g6⟩ := gl_drop hs hgx.out
      have x0 := cell_k (i := 0) hx.out rfl
      have x1 := cell_k (i := 1) hx.out rfl
      have x2 := cell_k (i := 2) hx.out rfl
      have z0 := frozen_k (i := 0) hx.out
      have z1 := frozen_k (i := 1) hx.out
      have z2 := frozen_k (i := 2) hx.out
      have hwl : w.heap.size < wr.heap.size := lt_of_heap hx.out
      have hne : w.heap.size ≠ wr.heap.size := by omega
      obtain ⟨se, sf, st⟩ := s
      simp only at g1 g2 g3 g4 g5 g6 c0 c1 c2
      subst g1
      have c1' : wr.cell? ⟨(a.add (k * 3)).block, (a.add (k * 3)).off + 1, none⟩ = some (.int .i64 ((x.t : Int) + 1)) := c1
      have b2 : decide ((st : Int) < (x.t : Int) + 1) = false := decide_eq_false (by omega)
      have b3 : decide ((1073741824 : Int) < (st : Int)) = false := decide_eq_false (by omega)
      have b4 : decide ((se : Int) ≤ (x.e : Int)) = false := decide_eq_false (by omega)
      have b4' : ¬ (se ≤ x.e) := by omega
      have b2' : ¬ ((st : Int) < (x.t : Int) + 1) := by omega
      have v2 : wrap64 ((k : Int) + 1) = (k : Int) + 1 := by unfold wrap64; omega
      have HS := Lib.hid hs
      have HG6 := Lib.hid g6
      have HG3 := Lib.hid g3
      have HG5 := Lib.hid g5
      have g51 : 1 ≤ se := by omega
      have HB2 := Lib.hid hb.out.size
      clear hs g6 hr' g2 g3 g4 c1
      go_wp2_with fail
      refine (in34 se _ g51 g5).mono ?_
      rintro e w1 ⟨rfl, rfl⟩
      go_wp2
      refine ⟨⟨k + 1, ⟨se, x.t + 1, st⟩, rfl, by omega, ?_, HG6.out, HG3.out, ?_⟩, by simp [intOf]; omega⟩
      · have h1 := set_facts hx.out 0 (.int .i64 se)
        have h2 := set_facts h1 1 (.int .i64 ((x.t : Int) + 1))
        have h3 := set_facts h2 2 (.int .i64 st)
        exact alloc_old h3
      · exact (((hb.out.setCell (Nat.le_refl _) _).setCell (Nat.le_refl _) _).setCell (Nat.le_refl _) _).alloc (by simpa using HB2.out) _
    · go_wp2
      go_returns
      exact ⟨rfl, hb.out⟩
end Go.Proofs.Ytcalfnncjkaekaa
