/- extend (24). -/
import Derived.Test.YtcalfnncjkaekaaFe
namespace Go.Proofs.Ytcalfnncjkaekaa
open Go.RowKit
set_option linter.unusedVariables false
set_option linter.unusedSimpArgs false
set_option maxRecDepth 20000

/-- The lineage with the cycles up to a number in an epoch, behind a cycle. -/
def ext (L : List Sp) (e behind t : Nat) : List Sp :=
  if L ≠ [] ∧ (lastD L).e = e then L.dropLast ++ [⟨e, (lastD L).f, t⟩] else L ++ [⟨e, behind + 1, t⟩]

theorem own_set {w : World} {base : Nat} {e : TypeId} {size n c : Nat} {a : Addr} {xs : List Value} (h : Own w base e size (.slice (some a) n c) n xs) (j : Nat) (u : Value) :
    w.frozen? (a.add j) = false ∧ base ≤ (a.add j).block ∧ Own (w.setCell (a.add j) u) base e size (.slice (some a) n c) n (xs.set j u) := by
  obtain ⟨hl, ⟨h1, _⟩ | ⟨g, off, cap, cur, h1, hb, hgg, hn, hm, hsz, htake⟩⟩ := h
  · cases h1
  · cases h1
    rw [Addr.add_lit]
    refine ⟨frozen_k hgg, hb, by simpa using hl, .inr ⟨g, off, _, cur.setIfInBounds (off + j) u, rfl, hb, set_facts hgg (off + j) u, hn, hm, by simpa using hsz, ?_⟩⟩
    rw [← htake, Array.toList_setIfInBounds, List.drop_set, if_neg (by omega), List.take_set, show off + j - off = j by omega]
theorem own_setCell_other {w : World} {base : Nat} {e : TypeId} {size n k : Nat} {v : Value} {xs : List Value} (h : Own w base e size v n xs) (hne : v.ownBlock ≠ some k) (i : Nat) (u : Value) : Own (w.setCell ⟨k, i, none⟩ u) base e size v n xs :=
  h.kept (row := some k) ⟨rfl, rfl, rfl, by simp, fun j _ hj => Below.heap_setCell w ⟨k, i, none⟩ u j (fun e => hj (by simp [e]))⟩ (.inr hne)
theorem fl_append (L M : List Sp) : fl (L ++ M) = fl L ++ fl M := by simp [fl]
theorem own_form {w : World} {base : Nat} {e : TypeId} {size n : Nat} {v : Value} {xs : List Value} (h : Own w base e size v n xs) : ∃ A c, v = .slice A n c := by
  obtain ⟨A, c, e, _⟩ := h.rd
  exact ⟨A, c, e⟩

set_option maxHeartbeats 2000000 in
theorem extend24 (k base : Nat) (s : St) (A : Option Addr) (c : Nat) (L : List Sp) (e b t : Nat) (w : World) (h : TrAt w k s A L.length c) (ho : Own w base 65 3 (.slice A L.length c) L.length (fl L)) (h0 : L = [] → A = none ∧ c = 0) (hne : (Value.slice A L.length c).ownBlock ≠ some k) (hl : L.length ≤ 90) (hbk : base ≤ k) (hb : b ≤ 1073741824) :
    Calls Try.prog 24 #[.pointer (some ⟨k, 0, none⟩), .int .i64 e, .int .i64 b, .int .i64 t] w fun en w' => en = .returned (.tuple #[]) ∧ ∃ A' c', TrAt w' k s A' (ext L e b t).length c' ∧ Own w' base 65 3 (.slice A' (ext L e b t).length c') (ext L e b t).length (fl (ext L e b t)) ∧ Below base w w' := by
  obtain ⟨x0, x1, x2, x3, x4, x5, x6, x7, x8⟩ := h.cells
  have f4 := frozen_k (i := 4) h
  have hlt := lt_of_heap h
  have hne2 : k ≠ w.heap.size := by omega
  have hbw : base ≤ w.heap.size := by omega
  have H := Lib.hid h
  have HO := Lib.hid ho
  have HN := Lib.hid hne
  clear h ho hne
  by_cases hL : L = []
  · have hx : ext L e b t = [⟨e, b + 1, t⟩] := by subst hL; rfl
    rw [hx]
    obtain ⟨rfl, rfl⟩ := h0 hL
    subst hL
    clear hx h0
    go_enter Try.func24, Try.ntmps24
    go_wp2_with (at_builtin; refine Stop.at ?_)
    refine Stop.go ?_
    refine step_append E32 rfl (.tmp 46) (.tmp 52) rfl base (v := .slice none 0 0) (n := 0) (xs := []) (by rfl) (HO.out.alloc _) (X := some ⟨w.heap.size, 0, none⟩) (m := 1) (c := 1) (news := fl [⟨e, b + 1, t⟩]) (by rfl) (Rd.new w 65 #[.int .i64 e, .int .i64 ((b : Int) + 1), .int .i64 t] 1 (by decide)) (by rfl) (fl_one _) (by omega) (by decide) (by simp; omega) ?_
    intro v1 w1 h1 hg1
    obtain ⟨A1, c1, rfl⟩ := own_form h1
    have ht1 : TrAt w1 k s none 0 0 := (hg1.block k (by simp; omega) (fun e => HN.out e.symm)).trans (alloc_old H.out)
    have hb1 := (Below.refl w.heap.size w).alloc (Nat.le_refl _) (.cells #[.int .i64 e, .int .i64 ((b : Int) + 1), .int .i64 t] 65)
    have HB1 := Lib.hid ((hb1.mono hbw).trans (hg1.below (HO.out.alloc _) (by simp; omega)))
    have HO1 := Lib.hid h1
    have hN1 : (Value.slice A1 (0 + 1) c1).ownBlock ≠ some k := by
      intro hE
      rcases hg1.own with h | h
      · exact HN.out (h.symm.trans hE)
      · obtain ⟨k', h1', h2'⟩ := h
        rw [hE] at h1'; cases h1'; simp at h2'; omega
    have HT1 : Hid (TrAt w1 k s none 0 0) := ht1
    obtain ⟨y0, y1, y2, y3, y4, y5, y6, y7, y8⟩ := ht1.cells
    have g4 := frozen_k (i := 4) ht1
    clear h1 hg1 ht1 hb1 x0 x1 x2 x3 x4 x5 x6 x7 x8
    go_wp2
    go_end0
    refine ⟨rfl, A1, c1, set_facts HT1.out 4 (.slice A1 1 c1), ?_, HB1.out.setCell hbk _⟩
    have h5 := own_setCell_other HO1.out hN1 4 (.slice A1 1 c1)
    simpa using h5
  · obtain ⟨N, hN⟩ : ∃ N, L.length = N + 1 := ⟨L.length - 1, by have := List.length_pos_iff.2 hL; omega⟩
    obtain ⟨p, hp⟩ : ∃ s, L[N]? = some s := ⟨_, List.getElem?_eq_getElem (by omega)⟩
    have hlp : lastD L = p := by
      unfold lastD; rw [List.getLast?_eq_getElem?, show L.length - 1 = N by omega, hp]; rfl
    have hr : Rd w A L.length c (fl L) := by
      obtain ⟨A', c', e, h⟩ := HO.out.rd
      cases e
      exact h
    obtain ⟨a, rfl⟩ := some_of hr (show N < L.length by omega)
    obtain ⟨c0, c1, c2⟩ := sp_cells hr hp
    have v1 : wrap64 (N : Int) = (N : Int) := by unfold wrap64; omega
    by_cases he : p.e = e
    · have hM : L = L.dropLast ++ [p] := by
        have h1 : L.getLast? = some p := by rw [List.getLast?_eq_getElem?, show L.length - 1 = N by omega]; exact hp
        have h2 := List.dropLast_concat_getLast hL
        rw [List.getLast?_eq_some_getLast hL] at h1
        rw [Option.some.inj h1] at h2
        exact h2.symm
      have hML : L.dropLast.length = N := by rw [List.length_dropLast]; omega
      have hx : ext L e b t = L.dropLast ++ [⟨e, p.f, t⟩] := by unfold ext; rw [if_pos ⟨hL, by rw [hlp]; exact he⟩, hlp]
      have hxl : (ext L e b t).length = N + 1 := by rw [hx, List.length_append, hML]; rfl
      obtain ⟨z1, z2, z3⟩ := own_set HO.out (N * 3 + 2) (.int .i64 t)
      have hfl : (fl L).set (N * 3 + 2) (.int .i64 t) = fl (ext L e b t) := by
        rw [hx, fl_append]
        conv => lhs; rw [hM, fl_append]
        rw [List.set_append_right _ _ (by rw [fl_length, hML]; omega), fl_length, hML, show N * 3 + 2 - N * 3 = 2 by omega]
        rw [← he]; rfl
      have hae : a.add (N * 3 + 2) = ⟨(a.add (N * 3)).block, (a.add (N * 3)).off + 2, none⟩ := by rw [← Addr.add_add']; rfl
      rw [hae] at z1 z2 z3
      rw [hfl] at z3
      rw [hxl]
      rw [hN] at x4 z3 H
      have hblk : k ≠ (a.add (N * 3)).block := by
        intro hk
        apply HN.out
        have : (a.add (N * 3)).block = a.block := by unfold Addr.add; split <;> rfl
        rw [this] at hk
        simp [Value.ownBlock, hk]
      have Z3 := Lib.hid z3
      subst he
      clear hx hxl hfl hM hML hlp hp HO HN hr z3 hae h0
      go_enter Try.func24, Try.ntmps24
      go_wp2
      go_returns
      exact ⟨rfl, some a, c, (Below.heap_setCell w ⟨(a.add (N * 3)).block, (a.add (N * 3)).off + 2, none⟩ _ k hblk).trans H.out, Z3.out, (Below.refl base w).setCell (p := ⟨(a.add (N * 3)).block, (a.add (N * 3)).off + 2, none⟩) z2 _⟩
    · have be : ((p.e : Int) == (e : Int)) = false := by simp; omega
      have hx : ext L e b t = L ++ [⟨e, b + 1, t⟩] := by unfold ext; rw [if_neg (by rw [hlp]; exact fun h => he h.2)]
      rw [hx]
      rw [hN] at x4
      rw [hN] at H HO HN
      clear hx
      go_enter Try.func24, Try.ntmps24
      go_wp2_with (at_builtin; refine Stop.at ?_)
      refine Stop.go ?_
      refine step_append E32 rfl (.tmp 46) (.tmp 52) rfl base (v := .slice (some a) (N + 1) c) (n := (N + 1)) (xs := fl L) (by rfl) (HO.out.alloc _) (X := some ⟨w.heap.size, 0, none⟩) (m := 1) (c := 1) (news := fl [⟨e, b + 1, t⟩]) (by rfl) (Rd.new w 65 #[.int .i64 e, .int .i64 ((b : Int) + 1), .int .i64 t] 1 (by decide)) (by rfl) (fl_one _) (by omega) (by decide) (by simp; omega) ?_
      intro v1 w1 h1 hg1
      obtain ⟨A1, c1, rfl⟩ := own_form h1
      have ht1 : TrAt w1 k s (some a) (N + 1) c := (hg1.block k (by simp; omega) (fun e => HN.out e.symm)).trans (alloc_old H.out)
      have hb1 := (Below.refl w.heap.size w).alloc (Nat.le_refl _) (.cells #[.int .i64 e, .int .i64 ((b : Int) + 1), .int .i64 t] 65)
      have HB1 := Lib.hid ((hb1.mono hbw).trans (hg1.below (HO.out.alloc _) (by simp; omega)))
      have HO1 := Lib.hid h1
      have hN1 : (Value.slice A1 ((N + 1) + 1) c1).ownBlock ≠ some k := by
        intro hE
        rcases hg1.own with h | h
        · exact HN.out (h.symm.trans hE)
        · obtain ⟨k', h1', h2'⟩ := h
          rw [hE] at h1'; cases h1'; simp at h2'; omega
      have HT1 : Hid (TrAt w1 k s (some a) (N + 1) c) := ht1
      obtain ⟨y0, y1, y2, y3, y4, y5, y6, y7, y8⟩ := ht1.cells
      have g4 := frozen_k (i := 4) ht1
      clear h1 hg1 ht1 hb1 x0 x1 x2 x3 x4 x5 x6 x7 x8
      go_wp2
      go_end0
      have hlen : (L ++ [⟨e, b + 1, t⟩] : List Sp).length = N + 1 + 1 := by rw [List.length_append, hN]; rfl
      rw [hlen, fl_append]
      exact ⟨rfl, A1, c1, set_facts HT1.out 4 (.slice A1 (N + 1 + 1) c1), own_setCell_other HO1.out hN1 4 _, HB1.out.setCell hbk _⟩
end Go.Proofs.Ytcalfnncjkaekaa
