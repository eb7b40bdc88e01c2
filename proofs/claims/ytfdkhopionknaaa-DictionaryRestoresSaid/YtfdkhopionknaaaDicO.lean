/- Layer 6, the output: literal (56), flush (57), match (55). -/
import Derived.Test.YtfdkhopionknaaaDicP
import Derived.Test.YtfdkhopionknaaaWireB
import Derived.Test.YtfdkhopionknaaaZeros
import Derived.Test.YtfdkhopionknaaaRdr
import Derived.Lib.MinMax
namespace Go.Proofs.Ytfdkhopionknaaa
open Go.RowKit
set_option linter.unusedVariables false
set_option linter.unusedSimpArgs false

/-- x[k:], x owned. -/
theorem own_lo {w : World} {base : Nat} {A : Option Addr} {c : Nat} {bs : List UInt8} (h : Own w base 5 1 (.slice A bs.length c) bs.length (bs.map B)) (k : Nat) (hk : k ≤ bs.length) :
    ∃ A' c' bs', Hid (bs' = bs.drop k) ∧ (∀ w', (Instr.sliceAt 24 (.slice A bs.length c) (some (.int .i64 k)) none none).run Try.prog w' = .ok (.slice A' bs'.length c') w') ∧ Own w base 5 1 (.slice A' bs'.length c') bs'.length (bs'.map B) ∧
      (Value.slice A' bs'.length c').ownBlock = (Value.slice A bs.length c).ownBlock := by
  have hl : (bs.drop k).length = bs.length - k := List.length_drop
  obtain ⟨hlen, ⟨e, h0⟩ | ⟨g, off, cap, cur, e, hb, hg, hn, hm, hsz, ht⟩⟩ := h
  · simp only [Value.slice.injEq] at e
    obtain ⟨rfl, _, rfl⟩ := e
    obtain rfl : bs = [] := List.eq_nil_of_length_eq_zero h0
    obtain rfl : k = 0 := by simpa using hk
    refine ⟨none, 0, [], rfl, fun w' => ?_, Own.nil _ _ _ _, rfl⟩
    have e1 : Try.prog.elem 24 = 5 := by simp [Program.elem, E24.und]
    rw [run_sliceAt_slice w' _ _ _ _ _ (by rw [e1]; exact E24.und), run_slice_l w' 24 _ _ _ (by rw [e1]; exact E24.und) _ _ (by simp) (by simp), e1, E24.run_size]
    simp [Result.andThen, sliced_none]
  · simp only [Value.slice.injEq] at e
    obtain ⟨rfl, _, rfl⟩ := e
    have e1 : Try.prog.elem 24 = 5 := by simp [Program.elem, E24.und]
    refine ⟨some (if c = k then ⟨g, off, none⟩ else ⟨g, off + k, none⟩), c - k, bs.drop k, rfl, fun w' => ?_, ?_, ?_⟩
    · rw [run_sliceAt_slice w' _ _ _ _ _ (by rw [e1]; exact E24.und), run_slice_l w' 24 _ _ _ (by rw [e1]; exact E24.und) _ _ (by omega) (by omega), e1, E24.run_size, hl]
      simp only [Result.andThen_ok, Int.toNat_natCast, sliced_some, Nat.mul_one, Addr.add_lit]
    · refine ⟨by simp, .inr ?_⟩
      by_cases hc : c = k
      · refine ⟨g, off, c - k, cur, by simp [hc], hb, hg, by rw [hl]; omega, by omega, by omega, ?_⟩
        have : bs.drop k = [] := List.drop_eq_nil_of_le (by omega)
        rw [this]; simp
      · refine ⟨g, off + k, c - k, cur, by simp [hc], hb, hg, by rw [hl]; omega, by omega, by omega, ?_⟩
        rw [List.map_drop, ← ht, hl, Nat.mul_one, Nat.mul_one, List.drop_take, List.drop_drop]
    · by_cases hc : c = k <;> simp [hc, Value.ownBlock]

/-- From w to w': blocks below base are as they were, but for eb; and every block that holds no bytes, but for eb. -/
structure K5 (base eb : Nat) (w w' : World) : Prop where
  os : w'.os = w.os
  tape : w'.tape = w.tape
  output : w'.output = w.output
  size : w.heap.size ≤ w'.heap.size
  low : ∀ k, k < base → k ≠ eb → k < w.heap.size → w'.heap[k]? = w.heap[k]?
  typed : ∀ (k : Nat) (o : Obj), w.heap[k]? = some o → (∀ cs fr, o ≠ .cells cs 5 fr) → k ≠ eb → w'.heap[k]? = some o
theorem K5.refl (base eb : Nat) (w : World) : K5 base eb w w := ⟨rfl, rfl, rfl, Nat.le_refl _, fun _ _ _ _ => rfl, fun _ _ h _ _ => h⟩
theorem K5.trans {base eb : Nat} {a b c : World} (h : K5 base eb a b) (k : K5 base eb b c) : K5 base eb a c :=
  ⟨k.os.trans h.os, k.tape.trans h.tape, k.output.trans h.output, Nat.le_trans h.size k.size, fun i h1 h2 h3 => (k.low i h1 h2 (Nat.lt_of_lt_of_le h3 h.size)).trans (h.low i h1 h2 h3), fun i o h1 h2 h3 => k.typed i o (h.typed i o h1 h2 h3) h2 h3⟩
theorem K5.of_below {base eb : Nat} {w w' : World} (h : Below w.heap.size w w') : K5 base eb w w' :=
  ⟨h.os, h.tape, h.output, h.size, fun k _ _ hk => h.block k hk, fun k o hk _ _ => (h.block k (lt_of_heap hk)).trans hk⟩
theorem K5.of_grew {base eb : Nat} {w w' : World} {v v' : Value} {n : Nat} {xs : List Value} (hown : Own w base 5 1 v n xs) (h : Grew w w' v v') : K5 base eb w w' := by
  refine ⟨h.grown.os, h.grown.tape, h.grown.output, h.grown.size, fun k hk _ hl => h.block k hl (fun e => by have := (hown.lt _ e.symm).1; omega), fun k o hk ho _ => ?_⟩
  rw [h.block k (lt_of_heap hk) (fun e => ?_)]
  · exact hk
  · rcases hown.2 with ⟨rfl, _⟩ | ⟨g, off, cap, cur, rfl, hb, hg, _⟩
    · cases e
    · have e' : k = g := by simpa [Value.ownBlock] using e
      subst e'
      rw [hg] at hk
      cases hk
      exact ho _ _ rfl
theorem K5.of_eb {base eb : Nat} {w w' : World} (h : w.grownBy w' (some eb)) : K5 base eb w w' :=
  ⟨h.os, h.tape, h.output, h.size, fun k _ hne hl => h.block k hl (fun e => hne (Option.some.inj e)), fun k o hk _ hne => (h.block k (lt_of_heap hk) (fun e => hne (Option.some.inj e))).trans hk⟩
theorem K5.drews {base eb : Nat} {w w' : World} (h : K5 base eb w w') (n : Nat) : K5 base eb w (w'.drewN n) := ⟨h.os, h.tape, h.output, h.size, h.low, h.typed⟩
theorem K5.drews_left {base eb : Nat} {w w' : World} {n : Nat} (h : K5 base eb (w.drewN n) w') : K5 base eb w w' := ⟨h.os, h.tape, h.output, h.size, h.low, h.typed⟩
theorem K5.below {base eb : Nat} {w w' : World} (h : K5 base eb w w') (B0 : Nat) (h1 : B0 ≤ eb) (h2 : B0 ≤ base) (h3 : B0 ≤ w.heap.size) : Below B0 w w' :=
  ⟨h.os, h.tape, h.output, h.size, fun k hk => h.low k (by omega) (by omega) (by omega)⟩

/-- The output's state: tokens and literals that wait, at the block eb; the encoder's other fields stand beside them. -/
def OutS (base eb : Nat) (w : World) (ts ws : List UInt8) (va vat vm : Value) : Prop :=
  eb < base ∧ base ≤ w.heap.size ∧ ∃ T tc W wc, w.heap[eb]? = some (.cells #[.slice T ts.length tc, .slice W ws.length wc, va, vat, vm] 89 (0, 0)) ∧
    Own w base 5 1 (.slice T ts.length tc) ts.length (ts.map B) ∧ Own w base 5 1 (.slice W ws.length wc) ws.length (ws.map B) ∧
    ((Value.slice T ts.length tc).ownBlock = none ∨ (Value.slice T ts.length tc).ownBlock ≠ (Value.slice W ws.length wc).ownBlock)
theorem OutS.start {base eb : Nat} {w : World} {va vat vm : Value} (h1 : eb < base) (h2 : base ≤ w.heap.size) (h : w.heap[eb]? = some (.cells #[.slice none 0 0, .slice none 0 0, va, vat, vm] 89 (0, 0))) : OutS base eb w [] [] va vat vm :=
  ⟨h1, h2, none, 0, none, 0, h, Own.nil _ _ _ _, Own.nil _ _ _ _, .inl rfl⟩
theorem OutS.drews {base eb : Nat} {w : World} {ts ws : List UInt8} {va vat vm : Value} (h : OutS base eb w ts ws va vat vm) (n : Nat) : OutS base eb (w.drewN n) ts ws va vat vm := h

theorem cell_k {w : World} {b i : Nat} {cs : Array Value} {t : TypeId} {v : Value} (h : w.heap[b]? = some (.cells cs t (0, 0))) (hv : cs[i]? = some v) : w.cell? ⟨b, i, none⟩ = some v := by
  rw [cell_of_row _ _ i _ _ _ h]; exact hv
theorem frozen_k {w : World} {b i : Nat} {cs : Array Value} {t : TypeId} (h : w.heap[b]? = some (.cells cs t (0, 0))) : w.frozen? ⟨b, i, none⟩ = false := by
  unfold World.frozen?
  simp [h]

/-- An owned slice, while another that is owned grows. -/
theorem own_beside {w w' : World} {base e e' size size' n n' : Nat} {v u u' : Value} {xs ys : List Value} (hv : Own w base e size v n xs) (hu : Own w base e' size' u n' ys) (hg : Grew w w' u u') (hne : v.ownBlock = none ∨ v.ownBlock ≠ u.ownBlock) :
    Own w' base e size v n xs ∧ (v.ownBlock = none ∨ v.ownBlock ≠ u'.ownBlock) := by
  refine ⟨hv.kept hg.grown hne, ?_⟩
  rcases hne with h | h
  · exact .inl h
  · rcases hg.own with e | ⟨k, e, hk⟩
    · exact .inr (by rw [e]; exact h)
    · refine .inr (fun x => ?_)
      rw [e] at x
      have := (hv.lt _ x).2
      omega
theorem ne_symm' {a b : Option Nat} (h : a = none ∨ a ≠ b) : b = none ∨ b ≠ a := by
  rcases h with h | h
  · cases b with
    | none => exact .inl rfl
    | some x => exact .inr (by rw [h]; exact fun e => by cases e)
  · exact .inr (fun e => h e.symm)
theorem own_eb {w w' : World} {base eb e size n : Nat} {v : Value} {xs : List Value} (hv : Own w base e size v n xs) (hg : w.grownBy w' (some eb)) (hb : eb < base) : Own w' base e size v n xs :=
  hv.kept hg (.inr (fun x => by have := (hv.lt _ x).1; omega))
theorem eb_beside {w w' : World} {base eb n : Nat} {v v' : Value} {xs : List Value} {o : Obj} (hv : Own w base 5 1 v n xs) (hg : Grew w w' v v') (hb : eb < base) (h : w.heap[eb]? = some o) : w'.heap[eb]? = some o :=
  (hg.block eb (lt_of_heap h) (fun e => by have := (hv.lt _ e.symm).1; omega)).trans h
theorem own_slice {w : World} {base n : Nat} {v : Value} {xs : List Value} (h : Own w base 5 1 v n xs) : ∃ A c, v = .slice A n c := by
  obtain ⟨A, c, e, _⟩ := h.rd
  exact ⟨A, c, e⟩

set_option maxRecDepth 20000 in
set_option maxHeartbeats 2000000 in
theorem literal_calls (base eb : Nat) (ts ws : List UInt8) (va vat vm : Value) (b : UInt8) (w : World) (h : OutS base eb w ts ws va vat vm) (hl : ws.length ≤ 1099511627776) :
    Calls Try.prog 56 #[.pointer (some ⟨eb, 0, none⟩), .int .u8 b.toNat] w fun e w' => e = .returned (.tuple #[]) ∧ OutS base eb w' ts (ws ++ [b]) va vat vm ∧ K5 base eb w w' := by
  obtain ⟨hb1, hb2, T, tc, W, wc, hE, hT, hW, hne⟩ := h
  have hc0 : w.cell? ⟨eb, 1, none⟩ = some (.slice W ws.length wc) := cell_k hE rfl
  have HE := Lib.hid hE
  have HT := Lib.hid hT
  have HW := Lib.hid hW
  have HNE := Lib.hid hne
  clear hE hT hW hne
  go_enter Try.func56, Try.ntmps56
  go_wp2_with (at_builtin; refine Stop.at ?_)
  refine Stop.go ?_
  refine step_append E24 rfl (.tmp 8) (.tmp 10) rfl base rfl (HW.out.alloc (.cells #[B b] 5)) rfl (Rd.new _ 5 #[B b] 1 (by decide)) rfl (by simp [Value.oneCell', B]) (by omega) (by decide) (by simp; omega) ?_
  intro v1 w1 ho hg
  have hba : Below w.heap.size w (w.alloc (.cells #[B b] 5)) := (Below.refl _ _).alloc (Nat.le_refl _) _
  have hE1 := eb_beside (HW.out.alloc (.cells #[B b] 5)) hg hb1 ((hba.block _ (lt_of_heap HE.out)).trans HE.out)
  obtain ⟨hT1, hne1⟩ := own_beside (HT.out.alloc (.cells #[B b] 5)) (HW.out.alloc (.cells #[B b] 5)) hg HNE.out
  have hk1 : K5 base eb w w1 := (K5.of_below hba).trans (K5.of_grew (HW.out.alloc (.cells #[B b] 5)) hg)
  obtain ⟨W1, wc1, rfl⟩ := own_slice ho
  have hl1 : (ws ++ [b]).length = ws.length + 1 := by simp
  have ho1 : Own w1 base 5 1 (.slice W1 (ws.length + 1) wc1) (ws.length + 1) ((ws ++ [b]).map B) := by rw [List.map_append]; exact ho
  have hf1 : w1.frozen? ⟨eb, 1, none⟩ = false := frozen_k hE1
  have hc1 : w1.cell? ⟨eb, 1, none⟩ = some (.slice W ws.length wc) := cell_k hE1 rfl
  have hs1 := hg.size
  have HE1 := Lib.hid hE1
  have HT1 := Lib.hid hT1
  have HNE1 := Lib.hid hne1
  have HK1 := Lib.hid hk1
  have HO1 := Lib.hid ho1
  have HB := Lib.hid (show base ≤ w1.heap.size by simp at hs1; omega)
  clear hE1 hT1 hne1 hk1 ho ho1 hg hba hs1
  go_wp2
  refine bodyPost_end (results_none rfl _ _ _) rfl ⟨rfl, ⟨hb1, by simpa using HB.out, T, tc, W1, wc1, ?_, own_eb HT1.out (grown_setCell _ _ _ _) hb1, ?_, ?_⟩, HK1.out.trans (K5.of_eb (grown_setCell _ _ _ _))⟩
  · rw [set_facts HE1.out, hl1]; rfl
  · rw [hl1]; exact own_eb HO1.out (grown_setCell _ _ _ _) hb1
  · rw [hl1]; exact HNE1.out
/-- How many bytes wait. -/
def waitN (eb : Nat) (w : World) : Nat := match w.cell? ⟨eb, 1, none⟩ with | some (.slice _ n _) => n | _ => 0
theorem waitN_eq {eb : Nat} {w : World} {A : Option Addr} {n c : Nat} (h : w.cell? ⟨eb, 1, none⟩ = some (.slice A n c)) : waitN eb w = n := by unfold waitN; rw [h]
theorem own_bytes {w : World} {base : Nat} {A : Option Addr} {c : Nat} {bs : List UInt8} (h : Own w base 5 1 (.slice A bs.length c) bs.length (bs.map B)) : Bytes w A c bs := by
  obtain ⟨A', c', e, hr⟩ := h.rd
  cases e
  exact hr
/-- x[:k], x owned, read in whatever world x stands. -/
theorem own_hi {w : World} {base : Nat} {A : Option Addr} {c : Nat} {ws : List UInt8} (h : Own w base 5 1 (.slice A ws.length c) ws.length (ws.map B)) (k : Nat) (hk : k ≤ ws.length) :
    ∃ A' c', (∀ w', (Instr.sliceAt 24 (.slice A ws.length c) none (some (.int .i64 k)) none).run Try.prog w' = .ok (.slice A' k c') w') ∧ ∀ (w2 : World) (base2 : Nat), Own w2 base2 5 1 (.slice A ws.length c) ws.length (ws.map B) → Rd w2 A' k c' ((ws.take k).map B) := by
  obtain ⟨A', c', h1, h2⟩ := slice_hi E24 (own_bytes h) (by simp) k hk
  refine ⟨A', c', h1, fun w2 base2 h' => ?_⟩
  obtain ⟨A2, c2, h3, h4⟩ := slice_hi E24 (own_bytes h') (by simp) k hk
  have e := (h1 w).symm.trans (h3 w)
  cases e
  simpa using h4

set_option maxRecDepth 20000 in
set_option maxHeartbeats 4000000 in
theorem flush_calls (base eb : Nat) (ts ws : List UInt8) (va vat vm : Value) (w : World) (h : OutS base eb w ts ws va vat vm) (hl : ts.length + 2 * ws.length ≤ 1099511627776) :
    Calls Try.prog 57 #[.pointer (some ⟨eb, 0, none⟩)] w fun e w' => e = .returned (.tuple #[]) ∧ OutS base eb w' (ts ++ lits ws) [] va vat vm ∧ K5 base eb w w' := by
  have HH := Lib.hid h
  clear h
  go_enter Try.func57, Try.ntmps57
  go_wp2
  go_loopw [2] (fun (n : Value) wr => ∃ ts' ws' : List UInt8, Hid (ts' ++ lits ws' = ts ++ lits ws) ∧ ts'.length + 2 * ws'.length ≤ ts.length + 2 * ws.length ∧ Hid (OutS base eb wr ts' ws' va vat vm) ∧ Hid (K5 base eb w wr)) (fun n wr => waitN eb wr)
  case atStart => exact ⟨ts, ws, rfl, Nat.le_refl _, HH.out, K5.refl _ _ _⟩
  case round =>
    obtain ⟨ts', ws', heq, hlen, hos, hk⟩ := hrel
    obtain ⟨hb1, hb2, T, tc, W, wc, hE, hT, hW, hne⟩ := hos.out
    have hc1 : wr.cell? ⟨eb, 1, none⟩ = some (.slice W ws'.length wc) := cell_k hE rfl
    have hc0 : wr.cell? ⟨eb, 0, none⟩ = some (.slice T ts'.length tc) := cell_k hE rfl
    have HE := Lib.hid hE
    have HT := Lib.hid hT
    have HW := Lib.hid hW
    have HNE := Lib.hid hne
    clear hE hT hW hne
    by_cases h0 : 0 < ws'.length
    · have b0 : (0 : Int) < (ws'.length : Int) := by omega
      obtain ⟨N, hN⟩ : ∃ N, min ws'.length 127 = N := ⟨_, rfl⟩
      have hmin : min (ws'.length : Int) 127 = (N : Int) := by omega
      have hN1 : 1 ≤ N := by omega
      have hN2 : N ≤ 127 := by omega
      have hN3 : N ≤ ws'.length := by omega
      have HLC := Lib.hid (lits_cons (l := ws') (by omega) hN)
      have hw8 : IntKind.u8.wrap (N : Int) = (N : Int) := by rw [IntKind.wrap_u8]; omega
      have hWN := waitN_eq hc1
      clear hN
      go_wp2_with fail
      obtain ⟨S, sc, hsl, hS0⟩ := own_hi HW.out N hN3
      have HS0 := Lib.hid hS0
      obtain ⟨wsn, hwsn⟩ : ∃ x, x = ws'.take N := ⟨_, rfl⟩
      have HWSN := Lib.hid hwsn
      have HLN := Lib.hid (show wsn.length = N by rw [hwsn, List.length_take]; omega)
      rw [← hwsn] at hS0
      have HS0 := Lib.hid hS0
      have hcA0 : (wr.alloc (.cells #[.int .u8 N] 5)).cell? ⟨eb, 0, none⟩ = some (.slice T ts'.length tc) := cell_k ((((Below.refl _ _).alloc (Nat.le_refl _) _).block _ (lt_of_heap HE.out)).trans HE.out) rfl
      have hcA1 : (wr.alloc (.cells #[.int .u8 N] 5)).cell? ⟨eb, 1, none⟩ = some (.slice W ws'.length wc) := cell_k ((((Below.refl _ _).alloc (Nat.le_refl _) _).block _ (lt_of_heap HE.out)).trans HE.out) rfl
      have HTD := Lib.hid (((HT.out.drew).alloc (.cells #[.int .u8 N] 5)))
      have HWD := Lib.hid (((HW.out.drew).alloc (.cells #[.int .u8 N] 5)))
      have hbd : Below wr.heap.size wr (wr.drew.alloc (.cells #[.int .u8 N] 5)) := (Below.refl _ _).drew.alloc (Nat.le_refl _) _
      have HED := Lib.hid ((hbd.block _ (lt_of_heap HE.out)).trans HE.out)
      have HBD := Lib.hid (show base ≤ (wr.drew.alloc (.cells #[.int .u8 N] 5)).heap.size from Nat.le_trans hb2 hbd.size)
      have HBN : Hid (B (UInt8.ofNat N) = .int .u8 N) := B_of N (by omega)
      have HRN := Lib.hid (cell_new_B wr.drew N (UInt8.ofNat N) HBN.out)
      have hzb : (ts'.length + 1) * 1 ≤ 140737488355328 := by omega
      have hzc : (ts'.length + 1 + N) * 1 ≤ 140737488355328 := by omega
      clear hS0 hbd hwsn
      go_region_law (first | ((refine step_appendD (t := 24) (e := 5) (size := 1) (bytes := 1) E24 rfl (.tmp 19) (.tmp 22) rfl base (v := .slice T ts'.length tc) (n := ts'.length) (xs := ts'.map B) (by rfl) HTD.out (Y := some ⟨wr.heap.size, 0, none⟩) (m := 1) (c := 1) (news := [UInt8.ofNat N].map B) (by rfl) HRN.out (by rfl) (oneCell_B _) hzb (by decide) HBD.out ?_; intro v2 w2 HO2 HG2; obtain ⟨T2, tc2, rfl⟩ := own_slice HO2; have HE2 := Lib.hid (eb_beside HTD.out HG2 hb1 HED.out); have HC2 : w2.cell? ⟨eb, 1, none⟩ = some (.slice W ws'.length wc) := cell_k HE2.out rfl; have HW2 := Lib.hid (own_beside HWD.out HTD.out HG2 (ne_symm' HNE.out)))) | ((refine step_appendD (t := 24) (e := 5) (size := 1) (bytes := 1) E24 rfl (.tmp 23) (.tmp 29) rfl base (v := .slice T2 (ts'.length + 1) tc2) (n := ts'.length + 1) (xs := (ts' ++ [UInt8.ofNat N]).map B) (by rfl) (by rw [List.map_append]; exact HO2) (Y := S) (m := N) (c := sc) (news := wsn.map B) (by rfl) (HS0.out w2 base HW2.out.1) (by rw [List.length_map, HLN.out, Nat.mul_one]) (oneCell_B _) hzc (by decide) (Nat.le_trans HBD.out HG2.size) ?_; intro v3 w3 HO3 HG3; obtain ⟨T3, tc3, rfl⟩ := own_slice HO3; have HE3 := Lib.hid (eb_beside HO2 HG3 hb1 HE2.out); have HC3 : w3.cell? ⟨eb, 0, none⟩ = some (.slice T ts'.length tc) := cell_k HE3.out rfl; have HF3 : w3.frozen? ⟨eb, 0, none⟩ = false := frozen_k HE3.out)))
      all_goals (
        obtain ⟨ts4, hts4⟩ : ∃ x, x = ts' ++ [UInt8.ofNat N] ++ wsn := ⟨_, rfl⟩
        have hl4 : ts4.length = ts'.length + 1 + N := by rw [hts4]; simp [HLN.out]; omega
        have hO4 : Own w3 base 5 1 (.slice T3 ts4.length tc3) ts4.length (ts4.map B) := by rw [hl4, hts4, List.map_append]; exact HO3
        have hW3 := own_beside HW2.out.1 HO2 HG3 HW2.out.2
        obtain ⟨w4, hw4⟩ : ∃ x, x = w3.setCell ⟨eb, 0, none⟩ (.slice T3 ts4.length tc3) := ⟨_, rfl⟩
        have hg4 : w3.grownBy w4 (some eb) := by rw [hw4]; exact grown_setCell _ _ _ _
        have hE4 : w4.heap[eb]? = some (.cells #[.slice T3 ts4.length tc3, .slice W ws'.length wc, va, vat, vm] 89 (0, 0)) := by rw [hw4, set_facts HE3.out]; rfl
        have hO4' := own_eb hO4 hg4 hb1
        have hW4 := own_eb hW3.1 hg4 hb1
        have hk4 : K5 base eb wr w4 := ((((K5.of_below ((Below.refl _ _).drew.alloc (Nat.le_refl _) _)).trans (K5.of_grew HTD.out HG2)).trans (K5.of_grew HO2 HG3)).trans (K5.of_eb hg4))
        have hc4 : w4.cell? ⟨eb, 1, none⟩ = some (.slice W ws'.length wc) := cell_k hE4 rfl
        have hf4 : w4.frozen? ⟨eb, 1, none⟩ = false := frozen_k hE4
        obtain ⟨W5, wc5, ws5, hws5, hsl5, hW5, hbk5⟩ := own_lo hW4 N hN3
        have hn5 : (Value.slice W5 ws5.length wc5).ownBlock = none ∨ (Value.slice W5 ws5.length wc5).ownBlock ≠ (Value.slice T3 ts4.length tc3).ownBlock := by rw [hbk5, hl4]; exact hW3.2
        have hz5 : ws5.length = ws'.length - N := by rw [hws5.out, List.length_drop]
        have HEQ4 := Lib.hid (show ts4 ++ lits ws5 = ts ++ lits ws by rw [← heq.out, HLC.out, hts4, HWSN.out, hws5.out]; simp)
        rw [show ts'.length + 1 + N = ts4.length from hl4.symm, ← hw4]
        have HE4 := Lib.hid hE4
        have HO4 := Lib.hid hO4'
        have HK4 := Lib.hid (hk.out.trans hk4)
        have HN5 := Lib.hid (ne_symm' hn5)
        have HB4 := Lib.hid (show base ≤ w4.heap.size from Nat.le_trans hb2 hk4.size)
        have HW5 := Lib.hid hW5
        have hlen5 : ts4.length + 2 * ws5.length ≤ ts.length + 2 * ws.length := by omega
        have hlt5 : ws5.length < ws'.length := by omega
        clear hts4 hl4 hO4 hW3 hw4 hg4 hE4 hO4' hW4 hk4 hbk5 hn5 HO2 HG2 HO3 HG3 hz5 hW5 hcA0 hcA1 hc0 hc1
        go_wp2
        refine ⟨⟨ts4, ws5, HEQ4, hlen5, ?_, ?_⟩, ?_⟩
        · exact ⟨hb1, by simpa using HB4.out, T3, tc3, W5, wc5, by rw [set_facts HE4.out]; rfl, own_eb HO4.out (grown_setCell _ _ _ _) hb1, own_eb HW5.out (grown_setCell _ _ _ _) hb1, HN5.out⟩
        · exact HK4.out.trans (K5.of_eb (grown_setCell _ _ _ _))
        · rw [hWN, waitN_eq (cell_k (by rw [set_facts HE4.out]) rfl)]
          exact hlt5)
    · have hw0 : ws' = [] := List.eq_nil_of_length_eq_zero (by omega)
      have HX := Lib.hid (show OutS base eb wr (ts ++ lits ws) [] va vat vm by rw [← heq.out, hw0, lits_nil, List.append_nil]; rw [hw0] at hos; exact hos.out)
      have b0 : ¬ (0 : Int) < (ws'.length : Int) := by omega
      clear hw0
      go_wp2
      exact bodyPost_end (results_none rfl _ _ _) rfl ⟨rfl, HX.out, hk.out⟩

end Go.Proofs.Ytfdkhopionknaaa
