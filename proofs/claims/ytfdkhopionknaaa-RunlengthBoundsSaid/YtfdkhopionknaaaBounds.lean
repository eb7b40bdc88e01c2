/- RunlengthBounds: the walk. -/
import Derived.Test.YtfdkhopionknaaaAwake
import Derived.Test.YtfdkhopionknaaaEncR
namespace Go.Proofs.Ytfdkhopionknaaa
open Go.RowKit
set_option linter.unusedVariables false
set_option linter.unusedSimpArgs false

/-- A whole row stored into the midst of a known block. -/
theorem run_storeVar_mid {P : Program} {w : World} {t e : TypeId} {g i : Nat} {cs vs : Array Value} (hg : w.heap[g]? = some (.cells cs e (0, 0))) (hi : i + vs.size ≤ cs.size) (hsz : (P.info? t).map (·.size) = some vs.size)
    (h1 : ∀ u ∈ vs.toList, u.oneCell' = true) : (storeVar t ⟨g, i, none⟩ (.agg vs)).run P w = .ok () (w.setRow g (cs.toList.take i ++ vs.toList ++ cs.toList.drop (i + vs.size)).toArray) := by
  cases hi' : P.info? t with
  | none => simp [hi'] at hsz
  | some inf =>
    have hsz' : inf.size = vs.size := by simpa [hi'] using hsz
    have hst := run_storeCells_at P g i e vs.toList 0 cs w hg (by simp; omega) h1
    have hsz2 : (sizeOf t).run P w = .ok vs.size w := by simp [sizeOf, typeInfo, hi', hsz']
    unfold storeVar
    rw [Sem.run_bind, hsz2]
    simp only [Result.andThen_ok, Value.cells, ne_eq, not_true_eq_false, if_false]
    simpa using hst
theorem step_store_mid {P : Program} {ops : Array Oper} {rest : List Oper} {o : Oper} {a : Act} {w : World} {Q : Exit → Act → World → Prop}
    (hgd : o.guard = none) (t : TypeId) (x y : Operand) (ho : o.op = .store t x y) {g i : Nat} (hx : a.eval x = .pointer (some ⟨g, i, none⟩)) {cs : Array Value} {e : TypeId} (hg : w.heap[g]? = some (.cells cs e (0, 0)))
    {vs : Array Value} (hi : i + vs.size ≤ cs.size) (hy : a.eval y = .agg vs) (hsz : (P.info? t).map (·.size) = some vs.size) (h1 : ∀ u ∈ vs.toList, u.oneCell' = true)
    (h : ∀ w', w'.heap[g]? = some (.cells (cs.toList.take i ++ vs.toList ++ cs.toList.drop (i + vs.size)).toArray e (0, 0)) → w.grownBy w' (some g) → w'.heap.size = w.heap.size → wpList P ops Q rest (a.put o.dst undef) w') : wpList P ops Q (o :: rest) a w := by
  refine wpList_plain hgd fun K hK => ?_
  obtain ⟨f1, f2, f3⟩ := setRow_facts hg (cs.toList.take i ++ vs.toList ++ cs.toList.drop (i + vs.size)).toArray
  unfold Oper.wp execOp
  simp only [ho, hx, hy, Instr.storeAt, Instr.sureAddr, Sem.run_bind, Sem.run_pure, Result.andThen_ok, run_storeVar_mid hg hi hsz h1]
  exact hK _ _ (h _ f1 f2 f3)

theorem runFrom_rep (s : Sec) (k : Nat) : runFrom s (List.replicate k s) = k := by
  induction k with
  | zero => rfl
  | succ k ih => rw [List.replicate_succ, runFrom_yes, ih]
theorem putN_three (n : Nat) (h : n < 2097152) : (putN n).length ≤ 3 := by
  rw [putN]
  split
  · simp
  · rw [putN]
    split
    · simp
    · rw [putN, dif_pos (by omega)]; simp
/-- Equal sectors: at most eleven bytes. -/
theorem enc_same (k : Nat) (s : Sec) (hk : k ≤ 65536) : (encode (List.replicate k s)).length ≤ 11 := by
  cases k with
  | zero => rw [List.replicate_zero, encode, groupsAt_nil (by simp)]; simp
  | succ k =>
    unfold encode
    rw [groupsAt, dif_pos (by simp)]
    have hr : runAt (List.replicate (k + 1) s) = k + 1 := by rw [List.replicate_succ, runAt, runFrom_rep]
    have hg : groupOf (List.replicate (k + 1) s) = (2, k + 1) ∨ groupOf (List.replicate (k + 1) s) = (1, k + 1) ∨ (k = 0 ∧ groupOf (List.replicate (k + 1) s) = (0, 1)) := by
      rw [List.replicate_succ] at hr ⊢
      rw [groupOf]
      by_cases hz : s = Sec.zero
      · rw [if_pos hz, hr]; exact .inl rfl
      · rw [if_neg hz]
        by_cases h2 : 2 ≤ runAt (s :: List.replicate k s)
        · rw [if_pos h2, hr]; exact .inr (.inl rfl)
        · rw [if_neg h2]
          have : k = 0 := by omega
          subst this
          exact .inr (.inr ⟨rfl, rfl⟩)
    rw [List.drop_zero]
    have hp : ∀ j, j ≤ 2 → (putN (4 * (k + 1) + j)).length ≤ 3 := fun j hj => putN_three _ (by omega)
    have hf : ∀ n, (flat ((List.replicate (k + 1) s).take n)).length ≤ 8 * n := by
      intro n; rw [flat_length, List.length_take]; omega
    have nil : groupsAt (List.replicate (k + 1) s) (0 + (k + 1)) = [] := groupsAt_nil (by simp)
    rcases hg with h | h | ⟨rfl, h⟩ <;> rw [h]
    · rw [nil]
      have := hp 2 (by omega)
      simp [encG, written, flat]; omega
    · rw [nil]
      have := hp 1 (by omega); have := hf 1
      simp [encG, written] at *; omega
    · rw [nil]
      have := hp 0 (by omega); have := hf 1
      simp [encG, written] at *; omega

theorem enc_pos (xs : List Sec) (h : 0 < xs.length) : 1 ≤ (encode xs).length := by
  unfold encode
  have hm := groupsAt_mem xs 0
  rw [groupsAt, dif_pos h] at hm ⊢
  obtain ⟨h1, h2, _, _⟩ := hm _ (List.mem_cons_self ..)
  have := encG_len xs _ h1 h2
  rw [List.flatMap_cons, List.length_append]
  omega

theorem size_lit (A : Option Addr) (c N : Nat) (xs : List Sec) (n : Nat) (w : World) (he : (encode xs).length = n) (hN : xs.length = N) (h : Secs w A c xs) (hlen : N ≤ 65536) :
    Calls Try.prog 22 #[.slice A N c] w fun e w' => e = .returned (.int .i64 (n : Int)) ∧ Hid (Below w.heap.size w w') := by
  subst hN
  refine (Size_calls A c xs w h hlen).mono ?_
  rintro e w' ⟨rfl, hb⟩
  rw [he]
  exact ⟨rfl, hb⟩
theorem repRow_secs {w : World} {g M : Nat} {s : Sec} (h : w.heap[g]? = some (.cells (repRow s M M).toArray 38 (0, 0))) (hM : M ≤ 65536) : Secs w (some ⟨g, 0, none⟩) M (List.replicate M s) := by
  unfold Secs
  rw [List.length_replicate]
  refine ⟨Nat.le_refl _, by unfold maxLen; omega, (fun e => by cases e), fun b hb j u hj => ?_⟩
  cases hb
  rw [Addr.add_lit, Nat.zero_add, cell_of_row _ _ j _ _ _ h]
  have e : repRow s M M = (flat (List.replicate M s)).map B := by simp [repRow, flat]
  rw [e]
  simpa using hj

set_option maxRecDepth 20000 in
set_option maxHeartbeats 4000000 in
theorem bounds_calls (A : Option Addr) (c : Nat) (xs : List Sec) (s : Sec) (n : Nat) (hn : n < 65536) (w : World) (h : Secs w A c xs) :
    Calls Try.prog 7 #[.slice A xs.length c, secV s, .int .u16 n] w fun e w' => e = .returned (.bool true) ∧ Below w.heap.size w w' := by
  obtain ⟨cs, hcs⟩ : ∃ cs, s.cells.toArray = cs := ⟨_, rfl⟩
  have HC := Lib.hid hcs
  rw [show secV s = .agg cs from by rw [← hcs]; rfl]
  obtain ⟨w1, e1, hg1, hb1, hz1⟩ := alloc_facts w cs 38
  by_cases hbig : 300 < xs.length
  · have b1 : (300 : Int) < (xs.length : Int) := by omega
    have HB1 := Lib.hid hb1
    clear hcs hg1 hb1 hz1
    go_enter Try.func7, Try.ntmps7
    go_wp2_with fail
    refine (awake_calls _).mono ?_
    rintro e w2 ⟨rfl, hb2⟩
    have HB2 := Lib.hid (below_then HB1.out hb2)
    clear hb2
    go_wp2
    go_ret
    exact ⟨rfl, HB2.out⟩
  · have b1 : ¬ (300 : Int) < (xs.length : Int) := by omega
    obtain ⟨k, hk⟩ : ∃ k, (encode xs).length = k := ⟨_, rfl⟩
    have hl := encode_len xs
    rw [hk] at hl
    have hp : 0 < xs.length → 1 ≤ k := fun h0 => by rw [← hk]; exact enc_pos xs h0
    have hX : xs.length ≤ 300 := by omega
    have HK := Lib.hid hk
    have HG1 := Lib.hid hg1
    have HB1 := Lib.hid hb1
    have HH := Lib.hid (h.below hb1)
    have HZ1 := Lib.hid hz1
    obtain ⟨M, hM⟩ : ∃ M, n % 4097 = M := ⟨_, rfl⟩
    have hM2 : M ≤ 4096 := by omega
    have hrem : Int.tmod (n : Int) 4097 = (M : Int) := by rw [Int.tmod_eq_emod_of_nonneg (by omega)]; omega
    have hw1 : IntKind.i64.wrap (9 * (xs.length : Int)) = 9 * (xs.length : Int) := by rw [IntKind.wrap_i64]; omega
    have b2 : ¬ (9 * (xs.length : Int) < (k : Int)) := by omega
    have b5 : ¬ ((k : Int) < 0) := by omega
    clear hk hg1 hb1 h hcs hz1 hl hM
    go_enter Try.func7, Try.ntmps7
    go_wp2_with fail
    refine (size_lit A c xs.length xs k w1 HK.out rfl HH.out (by omega)).mono ?_
    rintro e w2 ⟨rfl, hb2⟩
    have HB2 := Lib.hid (HB1.out.trans (hb2.out.mono HB1.out.size))
    have HG2 := Lib.hid ((hb2.out.block w.heap.size (lt_of_heap HG1.out)).trans HG1.out)
    have hz2 : w.heap.size < w2.heap.size := lt_of_heap HG2.out
    have hmk := run_make22 M (by omega)
    by_cases hk0 : k = 0
    · have b3 : ((k : Int) == 0) = true := by rw [beq_iff_eq]; omega
      have hxs : xs = [] := List.eq_nil_of_length_eq_zero (by omega)
      subst hxs
      subst hk0
      obtain ⟨w3, e3, hg3, hb3, hz3⟩ := alloc_facts w2 (madeCells Sec.zero.cells.toArray (M * 8)) 38
      have HG3 := Lib.hid (show w3.heap[w2.heap.size]? = some (.cells (repRow s M 0).toArray 38 (0, 0)) from by
        rw [hg3]
        have : (repRow s M 0) = (madeCells Sec.zero.cells.toArray (M * 8)).toList := by rw [madeZero]; simp [repRow, flat]
        rw [this])
      have HC3 := Lib.hid ((hb3.block w.heap.size hz2).trans HG2.out)
      have HB3 := Lib.hid (HB2.out.trans (hb3.mono (Nat.le_of_lt hz2)))
      clear hg3 hb3 hz3
      go_wp2
      go_loopw [40] (fun i wr => ∃ j : Nat, i = .int .i64 j ∧ j ≤ M ∧ Hid (wr.heap[w2.heap.size]? = some (.cells (repRow s M j).toArray 38 (0, 0))) ∧ Hid (wr.heap[w.heap.size]? = some (.cells cs 38 (0, 0))) ∧ Hid (Below w.heap.size w wr)) (fun i wr => M - (intOf i).toNat)
      case atStart => exact ⟨0, rfl, Nat.zero_le _, HG3.out, HC3.out, HB3.out⟩
      case round =>
        obtain ⟨j, rfl, hj, hgj, hcj, hbj⟩ := hrel
        by_cases hlt : j < M
        · have c1 : (j : Int) < (M : Int) := by omega
          have hrow : Row wr ⟨w.heap.size, 0, none⟩ s.cells := by
            intro i u hi
            rw [Addr.add_lit, Nat.zero_add, cell_of_row _ _ i _ _ _ hcj.out, ← HC.out]
            simpa using hi
          go_wp2_with ((with_reducible refine Stop.load 38 ?hst ?_); (case hst => rfl))
          refine Stop.go ?_
          refine step_load_agg rfl 38 (.tmp 4) rfl rfl (cs := s.cells) (agg38 wr) (size38 wr) hrow ?_
          go_wp2_with ((with_reducible refine Stop.store 38 ?hst ?_); (case hst => rfl))
          refine Stop.go ?_
          refine step_store_mid rfl 38 (.tmp 46) (.tmp 45) rfl (g := w2.heap.size) (i := j * 8) (by rfl) hgj.out (vs := s.cells.toArray) ?_ rfl (by kernel_rfl) (oneCell_B _) ?_
          · rw [List.size_toArray, List.size_toArray, repRow_len s M j (by omega)]; show j * 8 + 8 ≤ M * 8; omega
          intro w4 hg4 hgr4 hz4
          have hg4' : w4.heap[w2.heap.size]? = some (.cells (repRow s M (j + 1)).toArray 38 (0, 0)) := by
            rw [hg4, ← repRow_copy s M j 1 (by omega)]
            simp [flat, Sec.cells]
          have HG4 := Lib.hid hg4'
          have HC4 := Lib.hid ((hgr4.block w.heap.size (lt_of_heap hcj.out) (by simp; omega)).trans hcj.out)
          have HB4 := Lib.hid (hbj.out.grown hgr4 hbj.out.size (fun k hk => by cases hk; omega))
          clear hg4 hg4' hgr4 hrow
          go_wp2
          exact ⟨⟨j + 1, rfl, by omega, HG4, HC4, HB4⟩, by simp [intOf]; omega⟩
        · have c1 : ¬ (j : Int) < (M : Int) := by omega
          have hjM : j = M := by omega
          have HG := Lib.hid (show wr.heap[w2.heap.size]? = some (.cells (repRow s M M).toArray 38 (0, 0)) from by rw [hgj.out, hjM])
          obtain ⟨q, hq⟩ : ∃ q, (encode (List.replicate M s)).length = q := ⟨_, rfl⟩
          have hq11 := enc_same M s (by omega)
          rw [hq] at hq11
          have HQ := Lib.hid hq
          have c2 : (q : Int) ≤ 11 := by omega
          clear hq hjM hgj
          go_wp2_with fail
          refine (size_lit _ M M (List.replicate M s) q wr HQ.out (List.length_replicate ..) (repRow_secs HG.out (by omega)) (by omega)).mono ?_
          rintro e w5 ⟨rfl, hb5⟩
          have HB5 := Lib.hid (hbj.out.trans (hb5.out.mono hbj.out.size))
          go_wp2_with fail
          refine (awake_calls _).mono ?_
          rintro e w6 ⟨rfl, hb6⟩
          have HB6 := Lib.hid (below_then HB5.out hb6)
          clear hb6
          go_wp2
          go_ret
          exact ⟨rfl, HB6.out⟩
    · have b3 : ((k : Int) == 0) = false := by rw [beq_eq_false_iff_ne]; omega
      have d1 : decide (9 * (xs.length : Int) < (k : Int)) = false := decide_eq_false (by omega)
      have d2 : decide ((k : Int) < 0) = false := decide_eq_false (by omega)
      obtain ⟨w3, e3, hg3, hb3, hz3⟩ := alloc_facts w2 (madeCells Sec.zero.cells.toArray (M * 8)) 38
      have HG3 := Lib.hid (show w3.heap[w2.heap.size]? = some (.cells (repRow s M 0).toArray 38 (0, 0)) from by
        rw [hg3]
        have : (repRow s M 0) = (madeCells Sec.zero.cells.toArray (M * 8)).toList := by rw [madeZero]; simp [repRow, flat]
        rw [this])
      have HC3 := Lib.hid ((hb3.block w.heap.size hz2).trans HG2.out)
      have HB3 := Lib.hid (HB2.out.trans (hb3.mono (Nat.le_of_lt hz2)))
      clear hg3 hb3 hz3
      go_wp2
      go_loopw [40] (fun i wr => ∃ j : Nat, i = .int .i64 j ∧ j ≤ M ∧ Hid (wr.heap[w2.heap.size]? = some (.cells (repRow s M j).toArray 38 (0, 0))) ∧ Hid (wr.heap[w.heap.size]? = some (.cells cs 38 (0, 0))) ∧ Hid (Below w.heap.size w wr)) (fun i wr => M - (intOf i).toNat)
      case atStart => exact ⟨0, rfl, Nat.zero_le _, HG3.out, HC3.out, HB3.out⟩
      case round =>
        obtain ⟨j, rfl, hj, hgj, hcj, hbj⟩ := hrel
        by_cases hlt : j < M
        · have c1 : (j : Int) < (M : Int) := by omega
          have hrow : Row wr ⟨w.heap.size, 0, none⟩ s.cells := by
            intro i u hi
            rw [Addr.add_lit, Nat.zero_add, cell_of_row _ _ i _ _ _ hcj.out, ← HC.out]
            simpa using hi
          go_wp2_with ((with_reducible refine Stop.load 38 ?hst ?_); (case hst => rfl))
          refine Stop.go ?_
          refine step_load_agg rfl 38 (.tmp 4) rfl rfl (cs := s.cells) (agg38 wr) (size38 wr) hrow ?_
          go_wp2_with ((with_reducible refine Stop.store 38 ?hst ?_); (case hst => rfl))
          refine Stop.go ?_
          refine step_store_mid rfl 38 (.tmp 46) (.tmp 45) rfl (g := w2.heap.size) (i := j * 8) (by rfl) hgj.out (vs := s.cells.toArray) ?_ rfl (by kernel_rfl) (oneCell_B _) ?_
          · rw [List.size_toArray, List.size_toArray, repRow_len s M j (by omega)]; show j * 8 + 8 ≤ M * 8; omega
          intro w4 hg4 hgr4 hz4
          have hg4' : w4.heap[w2.heap.size]? = some (.cells (repRow s M (j + 1)).toArray 38 (0, 0)) := by
            rw [hg4, ← repRow_copy s M j 1 (by omega)]
            simp [flat, Sec.cells]
          have HG4 := Lib.hid hg4'
          have HC4 := Lib.hid ((hgr4.block w.heap.size (lt_of_heap hcj.out) (by simp; omega)).trans hcj.out)
          have HB4 := Lib.hid (hbj.out.grown hgr4 hbj.out.size (fun k hk => by cases hk; omega))
          clear hg4 hg4' hgr4 hrow
          go_wp2
          exact ⟨⟨j + 1, rfl, by omega, HG4, HC4, HB4⟩, by simp [intOf]; omega⟩
        · have c1 : ¬ (j : Int) < (M : Int) := by omega
          have hjM : j = M := by omega
          have HG := Lib.hid (show wr.heap[w2.heap.size]? = some (.cells (repRow s M M).toArray 38 (0, 0)) from by rw [hgj.out, hjM])
          obtain ⟨q, hq⟩ : ∃ q, (encode (List.replicate M s)).length = q := ⟨_, rfl⟩
          have hq11 := enc_same M s (by omega)
          rw [hq] at hq11
          have HQ := Lib.hid hq
          have c2 : (q : Int) ≤ 11 := by omega
          clear hq hjM hgj
          go_wp2_with fail
          refine (size_lit _ M M (List.replicate M s) q wr HQ.out (List.length_replicate ..) (repRow_secs HG.out (by omega)) (by omega)).mono ?_
          rintro e w5 ⟨rfl, hb5⟩
          have HB5 := Lib.hid (hbj.out.trans (hb5.out.mono hbj.out.size))
          go_wp2_with fail
          refine (awake_calls _).mono ?_
          rintro e w6 ⟨rfl, hb6⟩
          have HB6 := Lib.hid (below_then HB5.out hb6)
          clear hb6
          go_wp2
          go_ret
          exact ⟨rfl, HB6.out⟩
end Go.Proofs.Ytfdkhopionknaaa
