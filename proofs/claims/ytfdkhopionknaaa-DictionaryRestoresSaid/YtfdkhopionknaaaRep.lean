/- math/bits.Mul at a first factor of 1; copy of whole elements; slices.Repeat of one sector. -/
import Derived.Test.YtfdkhopionknaaaSec
import Derived.Laws.Bits64b
import Derived.Laws.CopyOwn
import Derived.Deep.RegionHeld3
import Derived.Deep.RegionLaw
import Derived.Deep.DrawnRows
namespace Go.Proofs.Ytfdkhopionknaaa
open Go.RowKit
set_option linter.unusedVariables false
set_option linter.unusedSimpArgs false

theorem mask32 (a : Nat) (ha : a < 4294967296) : bits .and .u64 (a : Int) 4294967295 = (a : Int) := by
  have h := bits_and_u64_nat a 4294967295 (by omega) (by omega)
  have e : a &&& 4294967295 = a % 4294967296 := Nat.and_two_pow_sub_one_eq_mod a 32
  rw [e, Nat.mod_eq_of_lt ha] at h
  exact h

set_option maxHeartbeats 1000000 in
theorem Mul64_calls (y : Nat) (hy : y < 4294967296) (w : World) :
    Calls Try.prog 82 #[.int .u64 1, .int .u64 y] w fun e w' => e = .returned (.tuple #[.int .u64 0, .int .u64 y]) ∧ w' = w := by
  have h1 : bits .and .u64 1 4294967295 = (1 : Int) := mask32 1 (by omega)
  have hm := mask32 y hy
  have h0 : bits .and .u64 0 4294967295 = (0 : Int) := mask32 0 (by omega)
  have hd : (y : Int) / 4294967296 = 0 := by omega
  have hw : IntKind.u64.wrap (y : Int) = (y : Int) := by rw [IntKind.wrap_u64]; omega
  have hw0 : IntKind.u64.wrap (0 : Int) = (0 : Int) := rfl
  go_enter Try.func82, Try.ntmps82
  go_wp2
  go_ret2
  exact ⟨rfl, rfl⟩
set_option maxHeartbeats 1000000 in
theorem Mul_calls (y : Nat) (hy : y < 4294967296) (w : World) :
    Calls Try.prog 80 #[.int .u64 1, .int .u64 y] w fun e w' => e = .returned (.tuple #[.int .u64 0, .int .u64 y]) ∧ w' = w := by
  go_enter Try.func80, Try.ntmps80
  go_wp2_with fail
  refine (Mul64_calls y hy w).mono ?_
  rintro e w' ⟨rfl, rfl⟩
  go_wp2
  go_ret2
  exact ⟨rfl, rfl⟩

/-- copy into a block that is known whole, whole elements: its cells behind the call. -/
theorem run_copyEls {P : Program} {dT sT ty e : TypeId} {size bytes : Nat} (E : Elem P dT e size bytes) {w : World} {g off dLen dCap sLen sCap k : Nat} {ad : Addr} {cur : Array Value} {t : TypeId} {cs : List Value}
    (hg : w.heap[g]? = some (.cells cur t (0, 0))) (hk : Nat.min sLen dLen = k) (hl : cs.length = k * size) (hsrc : Row w ad cs) (hfit : off + cs.length ≤ cur.size) (h1 : ∀ v ∈ cs, v.oneCell' = true) :
    (Builtin.copy_ #[dT, sT] ty #[.slice (some ⟨g, off, none⟩) dLen dCap, .slice (some ad) sLen sCap]).run P w = .ok (goInt k) (w.setRow g (cur.toList.take off ++ cs ++ cur.toList.drop (off + cs.length)).toArray) := by
  obtain ⟨ht, ⟨i, z, hi, hz, rfl, rfl, hzs⟩, hsz⟩ := E
  have hst := run_storeCells_at P g off t cs 0 cur w hg (by simpa using hfit) h1
  have hf := run_firstCells_some (P := P) w i.size k ad sLen sCap cs hl hsrc
  simp [Builtin.copy_, run_underlying ht, Builtin.lenOf, sizeOf, typeInfo, hi, hk, hf, hst]
theorem step_copyEls {P : Program} {dT sT e : TypeId} {size bytes : Nat} (E : Elem P dT e size bytes) {ops : Array Oper} {o : Oper} {a : Act} {w : World} {K : Act → World → Prop} {Q : Exit → Act → World → Prop} {X : Prop} (hgd : o.guard = none) (d s : Operand)
    (ho : o.op = .call { callee := .builtin .copy, args := #[d, s], argTypes := #[dT, sT] }) {g off dLen dCap sLen sCap k : Nat} {ad : Addr} {cur : Array Value} {t : TypeId} {cs : List Value}
    (hd : a.eval d = .slice (some ⟨g, off, none⟩) dLen dCap) (hs : a.eval s = .slice (some ad) sLen sCap)
    (hg : w.heap[g]? = some (.cells cur t (0, 0))) (hk : Nat.min sLen dLen = k) (hl : cs.length = k * size) (hsrc : Row w ad cs) (hfit : off + cs.length ≤ cur.size) (h1 : ∀ v ∈ cs, v.oneCell' = true)
    (h : ∀ w', w'.heap[g]? = some (.cells (cur.toList.take off ++ (cs ++ cur.toList.drop (off + cs.length))).toArray t (0, 0)) → w.grownBy w' (some g) → w'.heap.size = w.heap.size → K (a.put o.dst (goInt k)) w') :
    if Region.wanted o (yielded ops a.tmps) = true then Oper.wp P o a w K Q else X := by
  have hw : Region.wanted o (yielded ops a.tmps) = true := by simp [Region.wanted, hgd]
  rw [if_pos hw]
  have hrun := run_copyEls (P := P) (ty := o.type) (sT := sT) (dCap := dCap) (sCap := sCap) E hg hk hl hsrc hfit h1
  unfold Oper.wp
  simp [execOp, ho, resolve, invoke, builtin, hd, hs, hrun, Result.andThen]
  exact h _ (setRow_heap w g cur _ t _ hg) (setRow_facts hg _).2.1 (setRow_facts hg _).2.2
theorem step_copyEls' {P : Program} {dT sT e : TypeId} {size bytes : Nat} (E : Elem P dT e size bytes) {ops : Array Oper} {rest : List Oper} {o : Oper} {a : Act} {w : World} {Q : Exit → Act → World → Prop} (hgd : o.guard = none) (d s : Operand)
    (ho : o.op = .call { callee := .builtin .copy, args := #[d, s], argTypes := #[dT, sT] }) {g off dLen dCap sLen sCap k : Nat} {ad : Addr} {cur : Array Value} {t : TypeId} {cs : List Value}
    (hd : a.eval d = .slice (some ⟨g, off, none⟩) dLen dCap) (hs : a.eval s = .slice (some ad) sLen sCap)
    (hg : w.heap[g]? = some (.cells cur t (0, 0))) (hk : Nat.min sLen dLen = k) (hl : cs.length = k * size) (hsrc : Row w ad cs) (hfit : off + cs.length ≤ cur.size) (h1 : ∀ v ∈ cs, v.oneCell' = true)
    (h : ∀ w', w'.heap[g]? = some (.cells (cur.toList.take off ++ (cs ++ cur.toList.drop (off + cs.length))).toArray t (0, 0)) → w.grownBy w' (some g) → w'.heap.size = w.heap.size → wpList P ops Q rest (a.put o.dst (goInt k)) w') :
    wpList P ops Q (o :: rest) a w := by
  refine wpList_plain hgd fun K hK => ?_
  have hrun := run_copyEls (P := P) (ty := o.type) (sT := sT) (dCap := dCap) (sCap := sCap) E hg hk hl hsrc hfit h1
  unfold Oper.wp
  simp [execOp, ho, resolve, invoke, builtin, hd, hs, hrun, Result.andThen]
  exact hK _ _ (h _ (setRow_heap w g cur _ t _ hg) (setRow_facts hg _).2.1 (setRow_facts hg _).2.2)

def Oper.isCopy (o : Oper) : Bool := match o.op with | .call { callee := .builtin .copy, .. } => true | _ => false
theorem Stop.copy {P : Program} {ops : Array Oper} {Q : Exit → Act → World → Prop} {o : Oper} {rest : List Oper} {a : Act} {w : World} (_h : Oper.isCopy o = true) (g : Stop (wpList P ops Q (o :: rest) a w)) : wpList P ops Q (o :: rest) a w := g

theorem run_make22 (n : Nat) (hn : n ≤ 65536) (w : World) : (Instr.makeSlice 22 (.int .i64 n) (.int .i64 n)).run Try.prog w = .ok (.slice (some ⟨w.heap.size, 0, none⟩) n n) (w.alloc (.cells (madeCells Sec.zero.cells.toArray (n * 8)) 38)) := by
  obtain ⟨i, hi, hz, hs, hb⟩ := info_parts inf38
  have h := run_make (P := Try.prog) w 22 38 i _ Try.underlying22 hi hz .i64 .i64 n n (by omega) (Int.le_refl _) (by rw [hb]; omega) (by omega)
  have e : (secV Sec.zero).cells = Sec.zero.cells.toArray := rfl
  rw [e] at h
  simpa [hs] using h
theorem slice22_lo (g N n : Nat) (h : n < N) (w : World) : (Instr.sliceAt 22 (.slice (some ⟨g, 0, none⟩) N N) (some (.int .i64 n)) none none).run Try.prog w = .ok (.slice (some ⟨g, n * 8, none⟩) (N - n) (N - n)) w := by
  have e1 : Try.prog.elem 22 = 38 := by simp [Program.elem, E22.und]
  rw [run_sliceAt_slice w _ _ _ _ _ (by rw [e1]; exact E22.und), run_slice_l w 22 (some ⟨g, 0, none⟩) N N (by rw [e1]; exact E22.und) _ _ (by omega) (by omega), e1, E22.run_size]
  simp only [Result.andThen, Int.toNat_natCast, sliced_some]
  rw [if_neg (by omega), Addr.add_lit, Nat.zero_add]
theorem slice22_hi (g N n : Nat) (h : n ≤ N) (w : World) : (Instr.sliceAt 22 (.slice (some ⟨g, 0, none⟩) N N) none (some (.int .i64 n)) none).run Try.prog w = .ok (.slice (some ⟨g, 0, none⟩) n N) w := by
  have e1 : Try.prog.elem 22 = 38 := by simp [Program.elem, E22.und]
  rw [run_sliceAt_slice w _ _ _ _ _ (by rw [e1]; exact E22.und), run_slice_h w 22 (some ⟨g, 0, none⟩) N N (by rw [e1]; exact E22.und) _ _ (by omega) (by omega), e1, E22.run_size]
  simp [Result.andThen, sliced_some, Addr.add_lit]

theorem flat_rep0 (n : Nat) : flat (List.replicate n Sec.zero) = List.replicate (n * 8) 0 := by
  induction n with
  | zero => rfl
  | succ n ih => rw [List.replicate_succ, flat_cons, ih, show (n + 1) * 8 = 8 + n * 8 by omega, ← List.replicate_append_replicate]; rfl
theorem madeZero (n : Nat) : (madeCells Sec.zero.cells.toArray (n * 8)).toList = (flat (List.replicate n Sec.zero)).map B := by
  rw [flat_rep0, List.map_replicate]
  refine List.ext_getElem (by simp [madeCells]) (fun i h1 h2 => ?_)
  have hz : ∀ k, k < 8 → Sec.zero.cells.toArray[k]! = B 0 := by
    intro k hk
    match k, hk with
    | 0, _ | 1, _ | 2, _ | 3, _ | 4, _ | 5, _ | 6, _ | 7, _ => rfl
    | k + 8, hk => omega
  simp only [madeCells, Array.toList_map, List.getElem_map, List.getElem_replicate]
  exact hz _ (by simpa using Nat.mod_lt _ (by decide))
theorem flat_rep_add (s : Sec) (n k : Nat) : flat (List.replicate (n + k) s) = flat (List.replicate n s) ++ flat (List.replicate k s) := by
  rw [← flat_append, List.replicate_append_replicate]

/-- The cells of a row of N sectors whose first n are s, the rest zero. -/
def repRow (s : Sec) (N n : Nat) : List Value := (flat (List.replicate n s)).map B ++ (flat (List.replicate (N - n) Sec.zero)).map B
theorem repRow_len (s : Sec) (N n : Nat) (h : n ≤ N) : (repRow s N n).length = N * 8 := by simp [repRow, flat_length]; omega
theorem repRow_copy (s : Sec) (N n k : Nat) (h : n + k ≤ N) :
    (repRow s N n).take (n * 8) ++ ((flat (List.replicate k s)).map B ++ (repRow s N n).drop (n * 8 + ((flat (List.replicate k s)).map B).length)) = repRow s N (n + k) := by
  have h1 : ((flat (List.replicate n s)).map B).length = n * 8 := by simp [flat_length]; omega
  have h2 : ((flat (List.replicate k s)).map B).length = k * 8 := by simp [flat_length]; omega
  have h3 : ((flat (List.replicate k Sec.zero)).map B).length = k * 8 := by simp [flat_length]; omega
  unfold repRow
  rw [h2, List.take_left' h1, List.drop_append, List.drop_eq_nil_of_le (by omega), List.nil_append, h1, show n * 8 + k * 8 - n * 8 = k * 8 by omega, show N - n = k + (N - (n + k)) by omega, flat_rep_add Sec.zero, List.map_append, List.drop_left' h3,
    flat_rep_add, List.map_append, List.append_assoc]
theorem repRow_take (s : Sec) (N n k : Nat) (h : k ≤ n) : (repRow s N n).take (k * 8) = (flat (List.replicate k s)).map B := by
  have h2 : ((flat (List.replicate k s)).map B).length = k * 8 := by simp [flat_length]; omega
  unfold repRow
  rw [show n = k + (n - k) by omega, flat_rep_add, List.map_append, List.append_assoc, List.take_left' h2]

set_option maxRecDepth 20000 in
set_option maxHeartbeats 1000000 in
theorem Repeat_calls (A : Option Addr) (c : Nat) (s : Sec) (N : Nat) (w : World) (h : Secs w A c [s]) (hN : N ≤ 65536) (h1 : 1 ≤ N) :
    Calls Try.prog 72 #[.slice A 1 c, .int .i64 N] w fun e w' => ∃ v', e = .returned v' ∧ Own w' w.heap.size 38 8 v' N ((flat (List.replicate N s)).map B) ∧ Below w.heap.size w w' := by
  have hw : IntKind.u64.wrap (N : Int) = (N : Int) := by rw [IntKind.wrap_u64]; omega
  have hwi : IntKind.i64.wrap (N : Int) = (N : Int) := by rw [IntKind.wrap_i64]; omega
  have hmk := run_make22 N hN
  obtain ⟨a, rfl⟩ := h.some_of (show 0 < [s].length by simp)
  go_enter Try.func72, Try.ntmps72
  go_wp2_with fail
  refine (Mul_calls N (by omega) w).mono ?_
  rintro e w' ⟨rfl, rfl⟩
  obtain ⟨w1, e1, hg1, hb1, hz1⟩ := alloc_facts w' (madeCells Sec.zero.cells.toArray (N * 8)) 38
  go_wp2_with ((with_reducible refine Stop.copy ?hst ?_); (case hst => rfl))
  refine Stop.go ?_
  have hrow : Row w1 a (s.bytes.map B) := (h.below hb1).row a rfl
  have hl1 : (repRow s N 0) = (madeCells Sec.zero.cells.toArray (N * 8)).toList := by rw [madeZero]; simp [repRow, flat]
  refine step_copyEls' E22 rfl (.tmp 31) (.tmp 32) rfl (g := w'.heap.size) (off := 0) (dLen := N) (dCap := N) (cs := s.bytes.map B) (by rfl) (by rfl) hg1 (k := 1) (by show min 1 N = 1; omega) (by rfl) hrow (by rw [size_madeCells]; simp; omega) (oneCell_B _) ?_
  intro w2 hg2 hgr2 hz2
  have hg2' : w2.heap[w'.heap.size]? = some (.cells (repRow s N 1).toArray 38 (0, 0)) := by
    rw [hg2, ← hl1]
    have := repRow_copy s N 0 1 (by omega)
    simp only [Nat.zero_mul, Nat.zero_add] at this
    rw [← this]
    simp [flat]
  have hb2 : Below w'.heap.size w' w2 := hb1.trans ((Below.refl _ _).grown hgr2 (by omega) (fun k hk => by cases hk; exact Nat.le_refl _))
  go_wp2
  go_loopw [8] (fun i wr => ∃ n : Nat, i = .int .i64 n ∧ 1 ≤ n ∧ n ≤ N ∧ Hid (wr.heap[w'.heap.size]? = some (.cells (repRow s N n).toArray 38 (0, 0))) ∧ Hid (Below w'.heap.size w' wr)) (fun i wr => N - (intOf i).toNat)
  case atStart => exact ⟨1, rfl, by omega, by omega, hg2', hb2⟩
  case round =>
    clear hmk hrow hl1 hg2 hg2' hgr2 hb2 hg1 hb1
    obtain ⟨n, rfl, hn1, hnN, hgn, hbn⟩ := hrel
    by_cases hlt : n < N
    · have hlo := slice22_lo w'.heap.size N n hlt
      have hhi := slice22_hi w'.heap.size N n hnN
      obtain ⟨k, hk⟩ : ∃ k, min n (N - n) = k := ⟨_, rfl⟩
      have hkle : n + k ≤ N := by omega
      have hk1 : 1 ≤ k := by omega
      have hkn : k ≤ n := by omega
      have hrow : Row wr ⟨w'.heap.size, 0, none⟩ ((flat (List.replicate k s)).map B) := by
        rw [← repRow_take s N n k hkn]
        intro j u hj
        rw [Addr.add_lit, Nat.zero_add, cell_of_row _ _ j _ _ _ hgn.out]
        rw [List.getElem?_take] at hj
        split at hj
        · simpa using hj
        · cases hj
      have hw2 : IntKind.i64.wrap ((n : Int) + (k : Int)) = ((n + k : Nat) : Int) := by rw [IntKind.wrap_i64]; omega
      have b1 : (0 : Int) ≤ (n : Int) := by omega
      have b2 : (n : Int) ≤ (N : Int) := by omega
      have hlen : ((flat (List.replicate k s)).map B).length = k * 8 := by simp [flat_length]; omega
      go_wp2_with fail
      go_region_held3 (fun wx => True) (trivial)
        (first | ((refine step_copyEls E22 rfl (.tmp 41) (.tmp 44) rfl (g := w'.heap.size) (off := n * 8) (dLen := N - n) (dCap := N - n) (sLen := n) (sCap := N) (cs := (flat (List.replicate k s)).map B) (by rfl) (by rfl) hgn.out hk hlen hrow (by rw [hlen]; simp [repRow_len s N n hnN]; omega) (oneCell_B _) ?_; intro w4 hg4 hgr4 hz4)))
      have hg4' : w4.heap[w'.heap.size]? = some (.cells (repRow s N (n + k)).toArray 38 (0, 0)) := by
        rw [hg4, ← repRow_copy s N n k hkle]
      have hb4 : Below w'.heap.size w' w4 := (below_drews hbn.out 1).grown hgr4 (by have := lt_of_heap hgn.out; show _ ≤ wr.heap.size; omega) (fun k hk => by cases hk; exact Nat.le_refl _)
      have HG := Lib.hid hg4'
      have HB := Lib.hid hb4
      clear hg4 hg4' hb4 hgr4
      go_wp2
      exact ⟨⟨n + k, by simp, by omega, by omega, HG, HB⟩, by simp [intOf]; omega⟩
    · go_wp2
      have hNn : n = N := by omega
      subst hNn
      go_ret
      refine ⟨_, rfl, ⟨by simp [flat_length]; omega, .inr ⟨_, 0, _, _, rfl, Nat.le_refl _, hgn.out, Nat.le_refl _, by unfold maxLen; omega, by simp [repRow_len], ?_⟩⟩, hbn.out⟩
      have := repRow_take s n n n (Nat.le_refl _)
      simpa using this
end Go.Proofs.Ytfdkhopionknaaa
