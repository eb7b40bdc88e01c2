/- Layer 6: note (53). -/
import Derived.Test.YtfdkhopionknaaaDicN
namespace Go.Proofs.Ytfdkhopionknaaa
open Go.RowKit
set_option linter.unusedVariables false
set_option linter.unusedSimpArgs false

/-- From w to w': blocks below base are as they were, but for mb; and every block that holds no ints, but for mb. -/
structure K3 (base mb : Nat) (w w' : World) : Prop where
  os : w'.os = w.os
  tape : w'.tape = w.tape
  output : w'.output = w.output
  size : w.heap.size ≤ w'.heap.size
  low : ∀ k, k < base → k ≠ mb → k < w.heap.size → w'.heap[k]? = w.heap[k]?
  typed : ∀ (k : Nat) (o : Obj), w.heap[k]? = some o → (∀ cs fr, o ≠ .cells cs 3 fr) → k ≠ mb → w'.heap[k]? = some o
theorem K3.refl (base mb : Nat) (w : World) : K3 base mb w w := ⟨rfl, rfl, rfl, Nat.le_refl _, fun _ _ _ _ => rfl, fun _ _ h _ _ => h⟩
theorem K3.trans {base mb : Nat} {a b c : World} (h : K3 base mb a b) (k : K3 base mb b c) : K3 base mb a c :=
  ⟨k.os.trans h.os, k.tape.trans h.tape, k.output.trans h.output, Nat.le_trans h.size k.size, fun i h1 h2 h3 => (k.low i h1 h2 (Nat.lt_of_lt_of_le h3 h.size)).trans (h.low i h1 h2 h3), fun i o h1 h2 h3 => k.typed i o (h.typed i o h1 h2 h3) h2 h3⟩
theorem K3.of_below {base mb : Nat} {w w' : World} (h : Below w.heap.size w w') : K3 base mb w w' :=
  ⟨h.os, h.tape, h.output, h.size, fun k _ _ hk => h.block k hk, fun k o hk _ _ => (h.block k (lt_of_heap hk)).trans hk⟩
theorem K3.of_grew {base mb : Nat} {w w' : World} {v v' : Value} {n : Nat} {xs : List Value} (hown : Own w base 3 1 v n xs) (h : Grew w w' v v') : K3 base mb w w' := by
  refine ⟨h.grown.os, h.grown.tape, h.grown.output, h.grown.size, fun k hk _ hl => h.block k hl (fun e => by have := (hown.lt _ e.symm).1; omega), fun k o hk ho _ => ?_⟩
  rw [h.block k (lt_of_heap hk) (fun e => ?_)]
  · exact hk
  · rcases hown.2 with ⟨rfl, _⟩ | ⟨g, off, cap, cur, rfl, hb, hg, _⟩
    · cases e
    · have e' : k = g := by simpa [Value.ownBlock] using e
      subst e'
      rw [hg] at hk
      cases hk
      exact ho _ _ rfl
theorem K3.of_mb {base mb : Nat} {w w' : World} (h : w.grownBy w' (some mb)) : K3 base mb w w' :=
  ⟨h.os, h.tape, h.output, h.size, fun k _ hne hl => h.block k hl (fun e => hne (Option.some.inj e)), fun k o hk _ hne => (h.block k (lt_of_heap hk) (fun e => hne (Option.some.inj e))).trans hk⟩
theorem K3.below {base mb : Nat} {w w' : World} (h : K3 base mb w w') (B0 : Nat) (h1 : B0 ≤ mb) (h2 : B0 ≤ base) (h3 : B0 ≤ w.heap.size) : Below B0 w w' :=
  ⟨h.os, h.tape, h.output, h.size, fun k hk => h.low k (by omega) (by omega) (by omega)⟩
theorem Own.k3 {base mb base' n : Nat} {w w' : World} {v : Value} {xs : List Value} (h : Own w base' 5 1 v n xs) (k : K3 base mb w w') (hmb : mb < base') : Own w' base' 5 1 v n xs := by
  refine ⟨h.1, ?_⟩
  rcases h.2 with hn | ⟨g, off, cap, cur, e, hb, hg, rest⟩
  · exact .inl hn
  · exact .inr ⟨g, off, cap, cur, e, hb, k.typed g _ hg (fun cs fr e => by cases e) (by omega), rest⟩
theorem Own.k5 {base eb base' n : Nat} {w w' : World} {v : Value} {xs : List Value} (h : Own w base' 3 1 v n xs) (k : K5 base eb w w') (heb : eb < base') : Own w' base' 3 1 v n xs := by
  refine ⟨h.1, ?_⟩
  rcases h.2 with hn | ⟨g, off, cap, cur, e, hb, hg, rest⟩
  · exact .inl hn
  · exact .inr ⟨g, off, cap, cur, e, hb, k.typed g _ hg (fun cs fr e => by cases e) (by omega), rest⟩

theorem MapS.keep {base mb : Nat} {w w' : World} {f : List UInt8 → List Nat} (h : MapS base mb w f) (hm : ∀ es clock, w.heap[mb]? = some (.map es clock) → w'.heap[mb]? = some (.map es clock)) (ho : ∀ (v : Value) (n : Nat) (xs : List Value), Own w base 3 1 v n xs → Own w' base 3 1 v n xs) : MapS base mb w' f := by
  obtain ⟨es, clock, h1, h2, h3, h4, h5⟩ := h
  exact ⟨es, clock, hm _ _ h1, h2, fun x hx => by obtain ⟨k, a, b, c⟩ := h3 x hx; exact ⟨k, a, b, ho _ _ _ c⟩, h4, h5⟩
theorem MapS.below {base mb : Nat} {w w' : World} {f : List UInt8 → List Nat} (h : MapS base mb w f) (hb : Below w.heap.size w w') : MapS base mb w' f :=
  h.keep (fun es clock hm => (hb.block _ (lt_of_heap hm)).trans hm) (fun v n xs ho => ho.below hb)
theorem MapS.k5 {base mb eb : Nat} {w w' : World} {f : List UInt8 → List Nat} (h : MapS base mb w f) (k : K5 base eb w w') (heb : eb < base) (hne : mb ≠ eb) : MapS base mb w' f :=
  h.keep (fun es clock hm => k.typed mb _ hm (fun cs fr e => by cases e) hne) (fun v n xs ho => ho.k5 k heb)
theorem MapS.congr {base mb : Nat} {w : World} {f g : List UInt8 → List Nat} (h : MapS base mb w f) (e : ∀ k, f k = g k) : MapS base mb w g := by
  have : f = g := funext e
  rw [← this]; exact h

theorem step_valD {P : Program} {ops : Array Oper} {o : Oper} {a : Act} {w w' : World} {K : Act → World → Prop} {Q : Exit → Act → World → Prop} {X : Prop} {v : Value} (hgd : o.guard = none) (hd : ∀ c, o.op ≠ .defer c) (hrun : (execOp a.eval o).run P w = .ok (.value v) w')
    (h : K (a.put o.dst v) w') : if Region.wanted o (yielded ops a.tmps) = true then Oper.wp P o a w K Q else X := by
  have hw : Region.wanted o (yielded ops a.tmps) = true := by simp [Region.wanted, hgd]
  rw [if_pos hw]
  unfold Oper.wp
  simp only [hrun]
  exact h
theorem step_unitD {P : Program} {ops : Array Oper} {o : Oper} {a : Act} {w w' : World} {K : Act → World → Prop} {Q : Exit → Act → World → Prop} {X : Prop} (hgd : o.guard = none) (hrun : (execOp a.eval o).run P w = .ok .skip w')
    (h : K (a.put o.dst undef) w') : if Region.wanted o (yielded ops a.tmps) = true then Oper.wp P o a w K Q else X := by
  have hw : Region.wanted o (yielded ops a.tmps) = true := by simp [Region.wanted, hgd]
  rw [if_pos hw]
  unfold Oper.wp
  simp only [hrun]
  exact h
theorem run_load108 {w : World} {ev : Operand → Value} {o : Oper} {x : Operand} {g : Nat} {k : List UInt8} (ho : o.op = .load 108 x) (hx : ev x = .pointer (some ⟨g, 0, none⟩)) (hg : w.heap[g]? = some (.cells (k.map B).toArray 108 (0, 0))) (h4 : k.length = 4) :
    (execOp ev o).run Try.prog w = .ok (.value (keyV k)) w := by
  have hl := run_loadCells_list (P := Try.prog) w ⟨g, 0, none⟩ (k.map B) (fun j u hj => by rw [Addr.add_lit, Nat.zero_add, cell_of_row _ _ j _ _ _ hg]; simpa using hj)
  rw [List.length_map, h4] at hl
  have hv : (loadVar 108 ⟨g, 0, none⟩).run Try.prog w = .ok (keyV k) w := by simp [loadVar, agg108, size108, hl, keyV]
  unfold execOp
  simp only [ho, Instr.loadAt, Instr.sureAddr, hx, Sem.run_bind, Sem.run_pure, Result.andThen_ok, hv]
theorem run_mapEntry85 {w w' : World} {ev : Operand → Value} {o : Oper} {x y : Operand} {m k v : Value} (ho : o.op = .mapEntry 85 x y) (hx : ev x = m) (hy : ev y = k) (h : (Instr.mapEntry 85 m k).run Try.prog w = .ok v w') : (execOp ev o).run Try.prog w = .ok (.value v) w' := by
  unfold execOp
  simp only [ho, hx, hy, Sem.run_bind, Sem.run_pure, Result.andThen_ok, h]
theorem run_entryStore85 {w w' : World} {ev : Operand → Value} {o : Oper} {x y z : Operand} {m k v : Value} (ho : o.op = .entryStore 85 x y z) (hx : ev x = m) (hy : ev y = k) (hz : ev z = v) (h : (Instr.entryStore 85 m k v).run Try.prog w = .ok () w') : (execOp ev o).run Try.prog w = .ok .skip w' := by
  unfold execOp
  simp only [ho, hx, hy, hz, Sem.run_bind, Sem.run_pure, Result.andThen_ok, h]
theorem rd_block {w : World} {g n : Nat} {cs : List Value} {e : TypeId} (h : w.heap[g]? = some (.cells cs.toArray e (0, 0))) (hn : n ≤ maxLen) : Rd w (some ⟨g, 0, none⟩) n n cs :=
  ⟨Nat.le_refl _, hn, (fun e => by cases e), fun a ha j u hj => by
    cases ha
    rw [Addr.add_lit, Nat.zero_add, cell_of_row _ _ j _ _ _ h]
    simpa using hj⟩

set_option maxRecDepth 20000 in
set_option maxHeartbeats 4000000 in
theorem note_calls (base mb eb : Nat) (all : List UInt8) (n : Nat) (A : Option Addr) (ac : Nat) (vt vw vat : Value) (w : World) (hE : w.heap[eb]? = some (.cells #[vt, vw, .slice A all.length ac, vat, .map (some mb)] 89 (0, 0))) (hA : Bytes w A ac all)
    (hM : MapS base mb w (places all n)) (hmb : mb < base) (hbs : base ≤ w.heap.size) (hne : eb ≠ mb) (hl : all.length ≤ 1000000) (hn : n ≤ 1000000) :
    Calls Try.prog 53 #[.pointer (some ⟨eb, 0, none⟩), .int .i64 n] w fun e w' => e = .returned (.tuple #[]) ∧ MapS base mb w' (places all (n + 1)) ∧ K3 base mb w w' := by
  have HE := Lib.hid hE
  have HA := Lib.hid hA
  have HM := Lib.hid hM
  clear hE hA hM
  go_enter Try.func53, Try.ntmps53
  go_wp2_with fail
  refine (key_calls eb all n w ⟨A, ac, vt, vw, vat, _, HE.out, HA.out⟩ hl hn).mono ?_
  rintro e w1 ⟨hb1, ks, h4, rfl, hks⟩
  obtain ⟨w2, e2, hg2, hb2, hz2⟩ := alloc_facts w1 #[.int .u8 0, .int .u8 0, .int .u8 0, .int .u8 0] 108
  have HB1 := Lib.hid hb1
  have HKS := Lib.hid hks
  have H4 := Lib.hid h4
  have HB2 := Lib.hid hb2
  clear hb1 hks h4 hb2 hz2
  unfold keyV
  go_wp2_with ((with_reducible refine Stop.store 108 ?hst ?_); (case hst => rfl))
  refine Stop.go ?_
  refine step_store_row rfl 108 (.tmp 4) (.tmp 10) rfl rfl hg2 (vs := (ks.map B).toArray) rfl (by rw [List.size_toArray, List.length_map, H4.out]; exact inf108s) (by rw [List.size_toArray, List.length_map, H4.out]; rfl) (oneCell_B _) ?_
  intro w3 hg3 hgr3 hz3
  have hb3 : Below w.heap.size w w3 := HB1.out.trans ((HB2.out.grown hgr3 HB2.out.size (fun k hk => by cases hk; exact Nat.le_refl _)).mono HB1.out.size)
  have hE3 := (hb3.block _ (lt_of_heap HE.out)).trans HE.out
  have hc4 : w3.cell? ⟨eb, 4, none⟩ = some (.map (some mb)) := cell_k hE3 rfl
  have HG3 := Lib.hid hg3
  have HM3 := Lib.hid (HM.out.below hb3)
  have HB3 := Lib.hid hb3
  clear hg2 hg3 hgr3 hz3 hb3 hE3 e2
  by_cases hc : n + 4 ≤ all.length
  · rw [decide_eq_true hc]
    have hke := HKS.out hc
    obtain ⟨k0, k1, k2, k3, hk⟩ : ∃ a b c d, ks = [a, b, c, d] := by
      have := H4.out
      match ks, this with
      | [a, b, c, d], _ => exact ⟨a, b, c, d, rfl⟩
    have hbd : Below w3.heap.size w3 (w3.alloc (.cells #[.int .i64 n] 3)).drew := ((Below.refl _ _).alloc (Nat.le_refl _) _).drew
    obtain ⟨v0, st, w4, hrun, ho4, hg4, hafter⟩ := map_note (HM3.out.below hbd) hmb ks H4.out
    subst hk
    have hrun' : (Instr.mapEntry 85 (.map (some mb)) (.agg #[B k0, B k1, B k2, B k3])).run Try.prog (w3.alloc (.cells #[.int .i64 n] 3)).drew = .ok (.tuple #[v0, .int .i64 (st : Int)]) w4 := hrun
    have HO4 := Lib.hid ho4
    have HG4 := Lib.hid hg4
    have HAF := Lib.hid hafter
    have HKE := Lib.hid hke
    have hnb : w3.heap.size ≠ mb := by have := HB3.out.size; omega
    have HRN := Lib.hid (rd_block (n := 1) (((hg4.block w3.heap.size (by simp) (fun e => hnb (Option.some.inj e))).trans (heap_alloc_new w3 (.cells #[.int .i64 n] 3)))) (by decide))
    have hsz : (places all n [k0, k1, k2, k3]).length ≤ n := places_len _ _ _
    have hal : ∀ i : Nat, (w3.alloc (.cells #[.int .i64 n] 3)).heap[i]? = some (.cells #[.int .i64 n] 3) ∨ True := fun _ => .inr trivial
    have hE3 := (HB3.out.block _ (lt_of_heap HE.out)).trans HE.out
    have hA3 := (((Below.refl w3.heap.size w3).alloc (Nat.le_refl _) (.cells #[.int .i64 n] 3)).block _ (lt_of_heap hE3)).trans hE3
    have hcA4 : (w3.alloc (.cells #[.int .i64 n] 3)).cell? ⟨eb, 4, none⟩ = some (.map (some mb)) := cell_k hA3 rfl
    have hG3A := (((Below.refl w3.heap.size w3).alloc (Nat.le_refl _) (.cells #[.int .i64 n] 3)).block _ (lt_of_heap HG3.out)).trans HG3.out
    have x0 : w3.cell? ⟨w1.heap.size, 0, none⟩ = some (B k0) := cell_k HG3.out rfl
    have x1 : w3.cell? ⟨w1.heap.size, 1, none⟩ = some (B k1) := cell_k HG3.out rfl
    have x2 : w3.cell? ⟨w1.heap.size, 2, none⟩ = some (B k2) := cell_k HG3.out rfl
    have x3 : w3.cell? ⟨w1.heap.size, 3, none⟩ = some (B k3) := cell_k HG3.out rfl
    have y0 : (w3.alloc (.cells #[.int .i64 n] 3)).cell? ⟨w1.heap.size, 0, none⟩ = some (B k0) := cell_k hG3A rfl
    have y1 : (w3.alloc (.cells #[.int .i64 n] 3)).cell? ⟨w1.heap.size, 1, none⟩ = some (B k1) := cell_k hG3A rfl
    have y2 : (w3.alloc (.cells #[.int .i64 n] 3)).cell? ⟨w1.heap.size, 2, none⟩ = some (B k2) := cell_k hG3A rfl
    have y3 : (w3.alloc (.cells #[.int .i64 n] 3)).cell? ⟨w1.heap.size, 3, none⟩ = some (B k3) := cell_k hG3A rfl
    have HBS4 := Lib.hid (show base ≤ w4.heap.size by have h1 := HB3.out.size; have h2 := hbd.size; have h3 := hg4.size; omega)
    have HBD := Lib.hid hbd
    clear hrun ho4 hg4 hafter hbd hG3A hA3 hE3 hal hke
    go_wp2_with fail
    go_region_law (first | ((refine step_appendD (t := 100) (e := 3) (size := 1) (bytes := 8) E100 rfl (.tmp 18) (.tmp 20) rfl base (v := v0) (by rfl) HO4.out (Y := some ⟨w3.heap.size, 0, none⟩) (m := 1) (c := 1) (news := [natV n]) (by rfl) HRN.out (by rfl) (by simp [Value.oneCell', natV]) (by omega) (by decide) HBS4.out ?_; intro v5 w5 HO5 HG5; obtain ⟨w6, hrun6, hg6, hm6⟩ := HAF.out w5 v5 n (by rw [List.map_append]; exact HO5) HG5; have HG6 := Lib.hid hg6; have HM6 := Lib.hid hm6; clear hg6 hm6)))
    all_goals (
      refine bodyPost_end (results_none rfl _ _ _) rfl ⟨rfl, HM6.out.congr (fun k => ?_), ?_⟩
      · rw [places_succ]
        have hke := HKE.out
        by_cases e : k = [k0, k1, k2, k3]
        · subst e
          rw [if_pos rfl, if_pos ⟨hc, hke.symm⟩]
        · rw [if_neg e, if_neg (fun h => e (by rw [hke]; exact h.2.symm))]
      · exact (((((K3.of_below HB3.out).trans (K3.of_below HBD.out)).trans (K3.of_mb HG4.out)).trans (K3.of_grew HO4.out HG5)).trans (K3.of_mb HG6.out)))
  · rw [decide_eq_false hc]
    go_wp2
    refine bodyPost_end (results_none rfl _ _ _) rfl ⟨rfl, HM3.out.congr (fun k => ?_), K3.of_below HB3.out⟩
    rw [places_succ, if_neg (fun h => hc h.1)]
end Go.Proofs.Ytfdkhopionknaaa
