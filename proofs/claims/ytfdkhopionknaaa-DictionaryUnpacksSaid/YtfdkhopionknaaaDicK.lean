/- Layer 6: the key at a place (75). -/
import Derived.Test.YtfdkhopionknaaaDicO
import Derived.Test.YtfdkhopionknaaaEncR
import Derived.Laws.ResultCell
namespace Go.Proofs.Ytfdkhopionknaaa
open Go.RowKit
set_option linter.unusedVariables false
set_option linter.unusedSimpArgs false

def keyV (k : List UInt8) : Value := .agg (k.map B).toArray
theorem inf108s : (Try.prog.info? 108).map (·.size) = some 4 := by kernel_rfl
theorem agg108 (w : World) : (isAgg 108).run Try.prog w = .ok true w := by
  unfold isAgg
  rw [Sem.run_bind, run_underlying Try.underlying108 w]
  rfl
theorem size108 (w : World) : (sizeOf 108).run Try.prog w = .ok 4 w := by
  have := inf108s
  cases h : Try.prog.info? 108 with
  | none => simp [h] at this
  | some i =>
    have h4 : i.size = 4 := by simpa [h] using this
    simp [sizeOf, typeInfo, h, h4]
theorem results_key {fn : Func} {p u : Tmp} (h : fn.results = #[.cell p 108, .tmp u]) (tmps : Array Value) (w : World) (g : Nat) (cs : Array Value) (t : TypeId)
    (hp : tmps.getD p undef = .pointer (some ⟨g, 0, none⟩)) (hg : w.heap[g]? = some (.cells cs t (0, 0))) (hs : cs.size = 4) :
    (results fn tmps).run Try.prog w = .ok (.tuple #[.agg cs, tmps.getD u undef]) w := by
  rw [results_cell_tmp h, hp]
  have h1 : (loadVar 108 ⟨g, 0, none⟩).run Try.prog w = .ok (.agg cs) w := by
    have hl := run_loadCells_list (P := Try.prog) w ⟨g, 0, none⟩ cs.toList (fun j u hj => by rw [Addr.add_lit, Nat.zero_add, cell_of_row _ _ j _ _ _ hg]; simpa using hj)
    have h4 : cs.toList.length = 4 := by simpa using hs
    rw [h4] at hl
    simp [loadVar, agg108, size108, hl]
  simp [asAddr, h1, Result.andThen]

/-- The encoder's bytes. -/
def AllS (eb : Nat) (w : World) (all : List UInt8) : Prop := ∃ A ac vt vw vat vm, w.heap[eb]? = some (.cells #[vt, vw, .slice A all.length ac, vat, vm] 89 (0, 0)) ∧ Bytes w A ac all

set_option maxRecDepth 20000 in
set_option maxHeartbeats 2000000 in
theorem key_calls (eb : Nat) (all : List UInt8) (i : Nat) (w : World) (h : AllS eb w all) (hl : all.length ≤ 1000000) (hi : i ≤ 1000000) :
    Calls Try.prog 75 #[.pointer (some ⟨eb, 0, none⟩), .int .i64 i] w fun e w' => Below w.heap.size w w' ∧ ∃ ks : List UInt8, ks.length = 4 ∧ e = .returned (.tuple #[keyV ks, .bool (decide (i + 4 ≤ all.length))]) ∧ (i + 4 ≤ all.length → ks = key4 all i) := by
  obtain ⟨A, ac, vt, vw, vat, vm, hE, hA⟩ := h
  obtain ⟨w1, e1, hg1, hb1, hz1⟩ := alloc_facts w #[.int .u8 0, .int .u8 0, .int .u8 0, .int .u8 0] 108
  have hE1 := (hb1.block _ (lt_of_heap hE)).trans hE
  have hc2 : w1.cell? ⟨eb, 2, none⟩ = some (.slice A all.length ac) := cell_k hE1 rfl
  have HA1 := Lib.hid (hA.below hb1)
  have v1 : IntKind.i64.wrap ((i : Int) + 4) = (i : Int) + 4 := by rw [IntKind.wrap_i64]; omega
  have HB1 := Lib.hid hb1
  clear hE hE1 hz1 hb1
  by_cases hc : i + 4 ≤ all.length
  · have b1 : ¬ ((all.length : Int) < (i : Int) + 4) := by omega
    obtain ⟨A', c', bs', hbs, hsl, hb'⟩ := bslice_lo HA1.out i (by omega)
    have hl4 : 4 ≤ bs'.length := by rw [hbs.out, List.length_drop]; omega
    obtain ⟨a', rfl⟩ : ∃ a, A' = some a := by
      cases A' with
      | none => obtain ⟨h0, _, _⟩ := hb'.nil rfl; omega
      | some a => exact ⟨a, rfl⟩
    have har : ∀ w', (Instr.arrayAt 108 (.slice (some a') bs'.length c')).run Try.prog w' = .ok (.pointer (some a')) w' := fun w' => by
      simp [Instr.arrayAt, run_underlying Try.underlying108, Nat.not_lt.2 hl4]
    have hrow : Row w1 a' ((key4 all i).map B) := by
      intro j u hj
      refine hb'.row a' rfl j u ?_
      rw [hbs.out]
      unfold key4 at hj
      rw [List.map_take, List.getElem?_take] at hj
      split at hj
      · exact hj
      · cases hj
    have HROW := Lib.hid hrow
    have HK4 := Lib.hid (key4_len (all := all) (i := i) hc)
    clear hbs hb' hrow
    rw [decide_eq_true hc]
    go_enter Try.func75, Try.ntmps75
    go_wp2_with ((with_reducible refine Stop.load 108 ?hst ?_); (case hst => rfl))
    refine Stop.go ?_
    refine step_load_agg rfl 108 (.tmp 21) rfl rfl (cs := (key4 all i).map B) (agg108 w1) (by rw [List.length_map, HK4.out]; exact size108 w1) HROW.out ?_
    go_wp2_with ((with_reducible refine Stop.store 108 ?hst ?_); (case hst => rfl))
    refine Stop.go ?_
    refine step_store_row rfl 108 (.tmp 4) (.tmp 22) rfl rfl hg1 (vs := ((key4 all i).map B).toArray) rfl (by rw [List.size_toArray, List.length_map, HK4.out]; exact inf108s) (by rw [List.size_toArray, List.length_map, HK4.out]; rfl) (oneCell_B _) ?_
    intro w2 hg2 hgr2 hz2
    have hb2 := HB1.out.grown hgr2 HB1.out.size (fun k hk => by cases hk; exact Nat.le_refl _)
    have HG2 := Lib.hid hg2
    clear hg2
    go_wp2
    exact bodyPost_ret (results_key (fn := Try.f75) (p := 4) (u := 5) rfl _ _ w.heap.size _ 108 rfl HG2.out (by simp [HK4.out])) rfl ⟨hb2, key4 all i, HK4.out, rfl, fun _ => rfl⟩
  · have b1 : ((all.length : Int) < (i : Int) + 4) := by omega
    rw [decide_eq_false hc]
    go_enter Try.func75, Try.ntmps75
    go_wp2_with ((with_reducible refine Stop.store 108 ?hst ?_); (case hst => rfl))
    refine Stop.go ?_
    refine step_store_row rfl 108 (.tmp 4) (.tmp 14) rfl rfl hg1 (vs := (([0, 0, 0, 0] : List UInt8).map B).toArray) rfl (by kernel_rfl) rfl (oneCell_B _) ?_
    intro w2 hg2 hgr2 hz2
    have hb2 := HB1.out.grown hgr2 HB1.out.size (fun k hk => by cases hk; exact Nat.le_refl _)
    have HG2 := Lib.hid hg2
    clear hg2
    go_wp2
    exact bodyPost_ret (results_key (fn := Try.f75) (p := 4) (u := 5) rfl _ _ w.heap.size _ 108 rfl HG2.out rfl) rfl ⟨hb2, [0, 0, 0, 0], rfl, rfl, fun h => absurd h hc⟩
end Go.Proofs.Ytfdkhopionknaaa
