/- The reader's two small methods (program's text): a number, a sector; each may panic. -/
import Derived.Test.YtfdkhopionknaaaNumB
import Derived.Test.YtfdkhopionknaaaRep
namespace Go.Proofs.Ytfdkhopionknaaa
open Go.RowKit
set_option linter.unusedVariables false
set_option linter.unusedSimpArgs false

attribute [local go_sem ↓] run_load_sec

theorem cell_of_block {w w' : World} {a : Addr} (h : w'.heap[a.block]? = w.heap[a.block]?) : w'.cell? a = w.cell? a := by
  unfold World.cell?
  rw [h]
/-- Bytes stay where one block has turned that holds none of them. -/
theorem Bytes.grown {w w' : World} {A : Option Addr} {c R : Nat} {bs : List UInt8} {cs : Array Value} {t : TypeId} (h : Bytes w A c bs) (hR : w.heap[R]? = some (.cells cs t (0, 0))) (hne : ∀ (i : Nat) (u : Value), cs[i]? = some u → ∀ b, u ≠ B b)
    (hg : w.grownBy w' (some R)) : Bytes w' A c bs := by
  refine ⟨h.le, h.max, h.nil, fun a ha j u hj => ?_⟩
  have h0 := h.row a ha j u hj
  rw [← h0]
  refine cell_of_block (hg.block _ (block_lt_of_cell h0) (fun e => ?_))
  have e' : (a.add j).block = R := Option.some.inj e
  obtain ⟨b, hb⟩ : ∃ b, u = B b := by
    rw [List.getElem?_map] at hj
    obtain ⟨b, _, rfl⟩ := Option.map_eq_some_iff.1 hj
    exact ⟨b, rfl⟩
  subst hb
  have h1 := h0
  unfold World.cell? at h1
  rw [e', hR] at h1
  simp only at h1
  split at h1
  · cases h1
  · exact hne _ _ h1 b rfl

theorem no_bytes {A O : Option Addr} {n c on oc : Nat} {m : Int} : ∀ (i : Nat) (u : Value), (#[Value.slice A n c, .int .i64 m, .slice O on oc])[i]? = some u → ∀ b, u ≠ B b := by
  intro i u h b e
  subst e
  match i with
  | 0 | 1 | 2 => simp [B] at h
  | i + 3 => simp at h

theorem inf38s' : (Try.prog.info? 38).map (·.size) = some 8 := by kernel_rfl
/-- The panic's chain with a failure of number er. -/
def failure (er : Nat) : Ending := .panicked [{ v := .iface 72 (.agg #[.int .i64 er]), recovered := false }]

theorem grown_of_below {w w' : World} (h : Below w.heap.size w w') (r : Option Nat) : w.grownBy w' r := ⟨h.os, h.tape, h.output, h.size, fun k hk _ => h.block k hk⟩
theorem grown_trans {a b c : World} {r : Option Nat} (h : a.grownBy b r) (k : b.grownBy c r) : a.grownBy c r :=
  ⟨k.os.trans h.os, k.tape.trans h.tape, k.output.trans h.output, Nat.le_trans h.size k.size, fun i hi hn => (k.block i (Nat.lt_of_lt_of_le hi h.size) hn).trans (h.block i hi hn)⟩

set_option maxRecDepth 20000 in
set_option maxHeartbeats 1000000 in
theorem rnumber_calls (R : Nat) (A : Option Addr) (c : Nat) (bs : List UInt8) (m : Int) (O : Option Addr) (on oc : Nat) (w : World) (hR : w.heap[R]? = some (.cells #[.slice A bs.length c, .int .i64 m, .slice O on oc] 78 (0, 0))) (hb : Bytes w A c bs) (hlen : bs.length ≤ 1099511627776)
    (n k er : Nat) (hn : numG bs 0 0 = (n, k, er)) :
    Calls Try.prog 70 #[.pointer (some ⟨R, 0, none⟩)] w fun e w' => w.grownBy w' (some R) ∧
      ((er ≠ 0 ∧ e = failure er ∧ w'.heap[R]? = w.heap[R]?) ∨
       (er = 0 ∧ e = .returned (.int .i64 n) ∧ ∃ A' c', w'.heap[R]? = some (.cells #[.slice A' (bs.length - k) c', .int .i64 m, .slice O on oc] 78 (0, 0)) ∧ Own w' w.heap.size 5 1 (.slice A' (bs.length - k) c') (bs.length - k) ((bs.drop k).map B))) := by
  have hc0 : w.cell? ⟨R, 0, none⟩ = some (.slice A bs.length c) := by rw [cell_of_row _ _ 0 _ _ _ hR]; rfl
  have HR := Lib.hid hR
  have HN := Lib.hid hn
  clear hR hn
  go_enter Try.func70, Try.ntmps70
  go_wp2_with fail
  refine (Int_calls A c bs w hb hlen).mono ?_
  rintro e w1 ⟨n', k', er', v', hn', rfl, hb1, ho, hz⟩
  rw [HN.out] at hn'
  cases hn'
  by_cases he : er = 0
  · subst he
    have ho' := ho rfl
    obtain ⟨A', c', rfl, _⟩ := ho'.rd
    have hR1 : w1.heap[R]? = some (.cells #[.slice A bs.length c, .int .i64 m, .slice O on oc] 78 (0, 0)) := (hb1.block _ (lt_of_heap HR.out)).trans HR.out
    have HO := Lib.hid ho'
    have HR1 := Lib.hid hR1
    have HB1 := Lib.hid hb1
    clear ho ho' hR1 hb1 hz hc0
    go_wp2_with ((with_reducible refine Stop.store 24 ?hst ?_); (case hst => rfl))
    refine Stop.go ?_
    refine step_store_one rfl 24 (.tmp 23) (.tmp 21) rfl rfl HR1.out (by simp) rfl (by kernel_rfl) rfl rfl ?_
    intro w2 hR2 hg2 hz2
    have ho2 : Own w2 w.heap.size 5 1 (.slice A' (bs.length - k) c') (bs.length - k) ((bs.drop k).map B) :=
      HO.out.kept hg2 (.inr (fun e => by have := (HO.out.lt _ e).1; have := lt_of_heap HR.out; omega))
    have hgr : w.grownBy w2 (some R) := grown_trans (grown_of_below HB1.out (some R)) hg2
    go_wp2
    go_ret
    rw [List.map_drop] at ho2
    exact ⟨hgr, rfl, A', c', hR2, ho2⟩
  · have hne : (er : Int) ≠ 0 := by omega
    go_wp2
    refine ⟨rfl, ?_⟩
    exact ⟨grown_of_below hb1 (some R), .inl ⟨he, rfl, hb1.block _ (lt_of_heap HR.out)⟩⟩

theorem step_copyNone {P : Program} {dT sT e : TypeId} {bytes : Nat} (E : Elem P dT e 1 bytes) {ops : Array Oper} {o : Oper} {a : Act} {w : World} {K : Act → World → Prop} {Q : Exit → Act → World → Prop} {X : Prop} (hgd : o.guard = none) (d s : Operand)
    (ho : o.op = .call { callee := .builtin .copy, args := #[d, s], argTypes := #[dT, sT] }) {D A : Option Addr} {dLen dCap sCap : Nat}
    (hd : a.eval d = .slice D dLen dCap) (hs : a.eval s = .slice A 0 sCap) (h : K (a.put o.dst (goInt 0)) w) :
    if Region.wanted o (yielded ops a.tmps) = true then Oper.wp P o a w K Q else X := by
  have hw : Region.wanted o (yielded ops a.tmps) = true := by simp [Region.wanted, hgd]
  rw [if_pos hw]
  obtain ⟨i, z, hi, hz, hs1, hb, hzs⟩ := E.info
  have hrun := run_copy_none (P := P) w dT sT o.type e D A dLen dCap 0 sCap E.und (by simp [hi, hs1]) (by simp [Nat.min_def])
  unfold Oper.wp
  simp [execOp, ho, resolve, invoke, builtin, hd, hs, hrun, Result.andThen]
  exact h

theorem slice24_block {A A' : Option Addr} {n c n' c' l : Nat} (hl : l ≤ n) (hc : n ≤ c) {w : World} (h : (Instr.sliceAt 24 (.slice A n c) (some (.int .i64 l)) none none).run Try.prog w = .ok (.slice A' n' c') w) :
    ∀ a', A' = some a' → ∃ a, A = some a ∧ a'.block = a.block := by
  have e1 : Try.prog.elem 24 = 5 := by simp [Program.elem, E24.und]
  rw [run_sliceAt_slice w _ _ _ _ _ (by rw [e1]; exact E24.und), run_slice_l w 24 A n c (by rw [e1]; exact E24.und) _ _ (by omega) (by omega), e1, E24.run_size] at h
  simp only [Result.andThen, Result.ok.injEq, and_true] at h
  intro a' ha'
  subst ha'
  cases A with
  | none => rw [sliced_none] at h; cases h
  | some a =>
    rw [sliced_some] at h
    refine ⟨a, rfl, ?_⟩
    simp only [Value.slice.injEq, Option.some.injEq] at h
    rw [← h.1]
    split
    · rfl
    · unfold Addr.add; split <;> rfl

set_option maxRecDepth 20000 in
set_option maxHeartbeats 1000000 in
theorem rsector_calls (R : Nat) (A : Option Addr) (c : Nat) (bs : List UInt8) (m : Int) (O : Option Addr) (on oc : Nat) (w : World) (hR : w.heap[R]? = some (.cells #[.slice A bs.length c, .int .i64 m, .slice O on oc] 78 (0, 0))) (hb : Bytes w A c bs) :
    Calls Try.prog 71 #[.pointer (some ⟨R, 0, none⟩)] w fun e w' => w.grownBy w' (some R) ∧
      ((bs.length < 8 ∧ e = failure 10 ∧ w'.heap[R]? = w.heap[R]?) ∨
       (8 ≤ bs.length ∧ e = .returned (secV (secOf bs)) ∧ ∃ A' c', w'.heap[R]? = some (.cells #[.slice A' (bs.length - 8) c', .int .i64 m, .slice O on oc] 78 (0, 0)) ∧ Bytes w' A' c' (bs.drop 8) ∧ ∀ a', A' = some a' → ∃ a, A = some a ∧ a'.block = a.block)) := by
  obtain ⟨w1, e1, hg1, hb1, hz1⟩ := alloc_facts w #[.int .u8 0, .int .u8 0, .int .u8 0, .int .u8 0, .int .u8 0, .int .u8 0, .int .u8 0, .int .u8 0] 38
  obtain ⟨w2, e2, hg2, hb2, hz2⟩ := alloc_facts w1 #[.int .u8 0, .int .u8 0, .int .u8 0, .int .u8 0, .int .u8 0, .int .u8 0, .int .u8 0, .int .u8 0] 38
  have hR2 : w2.heap[R]? = some (.cells #[.slice A bs.length c, .int .i64 m, .slice O on oc] 78 (0, 0)) := by rw [hb2.block _ (by have := lt_of_heap hR; omega), hb1.block _ (lt_of_heap hR)]; exact hR
  have hc0 : w2.cell? ⟨R, 0, none⟩ = some (.slice A bs.length c) := by rw [cell_of_row _ _ 0 _ _ _ hR2]; rfl
  have hb02 : Below w.heap.size w w2 := hb1.trans (hb2.mono (by omega))
  have hb2' : Bytes w2 A c bs := hb.below hb02
  rw [hz1] at hg2
  have hg1' : w2.heap[w.heap.size]? = some (.cells Sec.zero.cells.toArray 38 (0, 0)) := (hb2.block _ (by omega)).trans hg1
  have HG1 := Lib.hid hg1'
  have hRl : R < w.heap.size := lt_of_heap hR
  have HR2 := Lib.hid hR2
  have HB := Lib.hid hb2'
  have HG2 := Lib.hid hg2
  have HB02 := Lib.hid hb02
  have HB0 := Lib.hid hb
  clear hb hb2' hR2 hg2 hb1 hb2 hg1 hg1' hb02
  have hkeep : ∀ wx : World, w2.drew.grownBy wx (some (w.heap.size + 1)) → wx.cell? ⟨R, 0, none⟩ = some (.slice A bs.length c) := fun wx hx => by
    rw [cell_of_row _ _ 0 _ _ _ ((hx.block R (lt_of_heap HR2.out) (fun e => by cases e; omega)).trans HR2.out)]; rfl
  by_cases h8 : 8 ≤ bs.length
  · obtain ⟨A3, c3, bs3, hbs3, hsl, hb3⟩ := bslice_lo HB0.out 8 h8
    have b1 : (8 : Int) ≤ (bs.length : Int) := by omega
    obtain ⟨a, rfl⟩ := HB.out.some_of (show 0 < bs.length by omega)
    have hsl' : ∀ w', (Instr.sliceAt 24 (.slice (some a) bs.length c) (some (.int .i64 8)) none none).run Try.prog w' = .ok (.slice A3 bs3.length c3) w' := hsl
    have HBL := Lib.hid (slice24_block (l := 8) h8 HB0.out.le (hsl w))
    clear hsl
    have hrow : Row w2 a ((bs.take 8).map B) := by
      intro j u hj
      rw [← List.map_take.symm, List.getElem?_take] at hj
      split at hj
      · exact HB.out.row a rfl j u hj
      · cases hj
    have hl8 : (bs.take 8).length = 8 := by rw [List.length_take]; omega
    go_enter Try.func71, Try.ntmps71
    go_wp2_with fail
    go_region_held3 (fun wx => wx.cell? ⟨R, 0, none⟩ = some (.slice (some a) bs.length c)) (first | exact hc0 | exact hkeep _ hgr4)
        (first | ((refine step_copyEls E24 rfl (.tmp 4) (.tmp 8) rfl (g := w.heap.size + 1) (off := 0) (dLen := 8) (dCap := 8) (sLen := bs.length) (sCap := c) (k := 8) (cs := (bs.take 8).map B) (by rfl) (by rfl) HG2.out (Nat.min_eq_right h8) (by rw [List.length_map, hl8]) hrow (by rw [List.length_map, hl8]; exact Nat.le_refl _) (oneCell_B _) ?_; intro w4 hg4 hgr4 hz4)))
    have hg4' : w4.heap[w.heap.size + 1]? = some (.cells (secOf bs).cells.toArray 38 (0, 0)) := by
      rw [hg4]
      have e : (secOf bs).cells = (bs.take 8).map B := by unfold Sec.cells; rw [bytes_secOf bs h8]
      rw [e, List.take_zero, List.nil_append, List.length_map, hl8]
      simp
    have hR4 : w4.heap[R]? = some (.cells #[.slice (some a) bs.length c, .int .i64 m, .slice O on oc] 78 (0, 0)) := (hgr4.block R (lt_of_heap HR2.out) (fun e => by cases e; have h1 := HR2.out; rw [HG2.out] at h1; cases h1)).trans HR2.out
    have hz4' : w4.heap.size = w.heap.size + 2 := by rw [hz4]; show w2.heap.size = _; omega
    have hc4 : w4.cell? ⟨R, 0, none⟩ = some (.slice (some a) bs.length c) := by rw [cell_of_row _ _ 0 _ _ _ hR4]; rfl
    have HG4 := Lib.hid hg4'
    have HGR := Lib.hid hgr4
    clear hg4 hg4' hgr4 hc0
    go_wp2_with ((with_reducible refine Stop.store 24 ?hst ?_); (case hst => rfl))
    refine Stop.go ?_
    refine step_store_one rfl 24 (.tmp 20) (.tmp 18) rfl rfl hR4 (by simp) rfl (by kernel_rfl) rfl rfl ?_
    intro w5 hR5 hg5 hz5
    have hG5 : w5.heap[w.heap.size + 1]? = some (.cells (secOf bs).cells.toArray 38 (0, 0)) := (hg5.block _ (lt_of_heap HG4.out) (fun e => by cases e; omega)).trans HG4.out
    have hG0 : w5.heap[w.heap.size]? = some (.cells Sec.zero.cells.toArray 38 (0, 0)) := (hg5.block _ (by omega) (fun e => by cases e; omega)).trans ((HGR.out.block _ (by show _ < w2.heap.size; omega) (fun e => by have := Option.some.inj e; omega)).trans HG1.out)
    have hs5 : SecAt w5 ⟨w.heap.size + 1, 0, none⟩ (secOf bs) := by
      intro j u hj
      rw [Addr.add_lit, Nat.zero_add, cell_of_row _ _ j _ _ _ hG5]
      simpa using hj
    obtain ⟨p1, q1⟩ := secP_of hs5
    have hl3 : bs3.length = bs.length - 8 := by rw [hbs3.out, List.length_drop]
    have hg25 : w.grownBy w5 (some R) := ⟨(hg5.os.trans HGR.out.os).trans HB02.out.os, (hg5.tape.trans HGR.out.tape).trans HB02.out.tape, (hg5.output.trans HGR.out.output).trans HB02.out.output, by omega,
      fun k hk hn => by
        rw [hg5.block k (by omega) hn, HGR.out.block k (by show k < w2.heap.size; omega) (fun e => by cases e; omega)]
        exact HB02.out.block k hk⟩
    have hb5 : Bytes w5 A3 c3 bs3 := Bytes.grown hb3 hR no_bytes hg25
    have HG25 := Lib.hid hg25
    have HB5 := Lib.hid hb5
    have HR5 := Lib.hid hR5
    clear hg25 hb5 hR5 hG5 hs5 hR4 hc4
    go_wp2_with ((with_reducible refine Stop.store 38 ?hst ?_); (case hst => rfl))
    refine Stop.go ?_
    refine step_store_row rfl 38 (.tmp 2) (.tmp 21) rfl rfl hG0 (by kernel_rfl) (vs := (secOf bs).cells.toArray) rfl rfl (oneCell_B _) ?_
    intro w6 hg6 hgr6 hz6
    have HG6 := Lib.hid hg6
    have hgr06 : w.grownBy w6 (some R) := ⟨hgr6.os.trans HG25.out.os, hgr6.tape.trans HG25.out.tape, hgr6.output.trans HG25.out.output, by omega,
      fun k hk hn => (hgr6.block k (by omega) (fun e => by cases e; omega)).trans (HG25.out.block k hk hn)⟩
    have hR6 : w6.heap[R]? = some (.cells #[.slice A3 bs3.length c3, .int .i64 m, .slice O on oc] 78 (0, 0)) := (hgr6.block R (by omega) (fun e => by cases e; omega)).trans HR5.out
    have hb6 : Bytes w6 A3 c3 bs3 := Bytes.grown hb3 hR no_bytes hgr06
    have HGR6 := Lib.hid hgr06
    have HR6 := Lib.hid hR6
    have HB6 := Lib.hid hb6
    clear hgr06 hR6 hb6
    clear hg6
    go_wp2
    refine bodyPost_ret (results_cell_row (fn := Try.f71) (p := 2) (ty := 38) rfl _ _ w.heap.size 38 _ (0, 0) _ rfl HG6.out Try.underlying38 rfl inf38s') rfl ?_
    refine ⟨HGR6.out, .inr ⟨h8, rfl, A3, c3, ?_, ?_, HBL.out⟩⟩
    · rw [← hl3]; exact HR6.out
    · have := HB6.out
      rw [hbs3.out] at this
      exact this
  · have b1 : (bs.length : Int) < 8 := by omega
    go_enter Try.func71, Try.ntmps71
    go_wp2_with fail
    by_cases h0 : bs.length = 0
    · have hnil : bs = [] := List.eq_nil_of_length_eq_zero h0
      subst hnil
      go_region_held3 (fun wx => wx.cell? ⟨R, 0, none⟩ = some (.slice A 0 c)) (exact hc0)
        (first | (refine step_copyNone E24 rfl (.tmp 4) (.tmp 8) rfl (D := some ⟨w.heap.size + 1, 0, none⟩) (dLen := 8) (dCap := 8) (A := A) (sCap := c) (by rfl) (by rfl) ?_))
      go_wp2
      refine ⟨rfl, ?_⟩
      exact ⟨⟨HB02.out.os, HB02.out.tape, HB02.out.output, HB02.out.size, fun k hk _ => HB02.out.block k hk⟩, .inl ⟨by simp, rfl, HB02.out.block R hRl⟩⟩
    · obtain ⟨a, rfl⟩ := HB.out.some_of (show 0 < bs.length by omega)
      have hrow : Row w2 a (bs.map B) := HB.out.row a rfl
      go_region_held3 (fun wx => wx.cell? ⟨R, 0, none⟩ = some (.slice (some a) bs.length c)) (first | exact hc0 | exact hkeep _ hgr4)
        (first | ((refine step_copyEls E24 rfl (.tmp 4) (.tmp 8) rfl (g := w.heap.size + 1) (off := 0) (dLen := 8) (dCap := 8) (sLen := bs.length) (sCap := c) (k := bs.length) (cs := bs.map B) (by rfl) (by rfl) HG2.out (Nat.min_eq_left (by omega)) (by rw [List.length_map, Nat.mul_one]) hrow (by rw [List.length_map]; simp; omega) (oneCell_B _) ?_; intro w4 hg4 hgr4 hz4)))
      have hR4 : w4.heap[R]? = w.heap[R]? := (hgr4.block R (lt_of_heap HR2.out) (fun e => by cases e; omega)).trans (HB02.out.block R hRl)
      have hgr04 : w.grownBy w4 (some R) := ⟨hgr4.os.trans HB02.out.os, hgr4.tape.trans HB02.out.tape, hgr4.output.trans HB02.out.output, by have := HB02.out.size; have : w2.heap.size = w4.heap.size := hz4.symm; omega,
        fun k hk hn => (hgr4.block k (by show k < w2.heap.size; omega) (fun e => by cases e; omega)).trans (HB02.out.block k hk)⟩
      have HGR := Lib.hid hgr04
      have HR4 := Lib.hid hR4
      clear hg4 hgr4 hgr04 hR4
      go_wp2
      refine ⟨rfl, ?_⟩
      exact ⟨HGR.out, .inl ⟨by omega, rfl, HR4.out⟩⟩
end Go.Proofs.Ytfdkhopionknaaa
