/- The reader's group: all ways; the deferred closure of Decode. -/
import Derived.Test.YtfdkhopionknaaaRdrA
import Derived.Test.YtfdkhopionknaaaRdrB
import Derived.Test.YtfdkhopionknaaaRdrT
import Derived.Test.YtfdkhopionknaaaRdrC
import Derived.Defers
import Derived.Recover
namespace Go.Proofs.Ytfdkhopionknaaa
open Go.RowKit
set_option linter.unusedVariables false
set_option linter.unusedSimpArgs false

theorem group_calls (R : Nat) (bs : List UInt8) (m : Nat) (out : List Sec) (w : World) (h : RS0 R w bs m out) (hbs : bs.length ≤ 1099511627776) (hm : m ≤ 4096) (ho : out.length ≤ m) :
    Calls Try.prog 47 #[.pointer (some ⟨R, 0, none⟩)] w fun e w' => Below R w w' ∧
      (((stepG m bs out).1 ≠ 0 ∧ e = failure (stepG m bs out).1) ∨
       ((stepG m bs out).1 = 0 ∧ e = .returned (.tuple #[]) ∧ RS R w' (stepG m bs out).2.1 m (stepG m bs out).2.2)) := by
  obtain ⟨⟨n, k, er⟩, hn⟩ : ∃ r, numG bs 0 0 = r := ⟨_, rfl⟩
  by_cases he : er = 0
  · subst he
    by_cases hf : 2 < n % 4 ∨ n / 4 = 0
    · exact group_form R bs m out w h hbs hm ho n k hn hf
    by_cases hl : m < n / 4 + out.length
    · exact group_long R bs m out w h hbs hm ho n k hn hf hl
    rcases (show n % 4 = 0 ∨ n % 4 = 1 ∨ n % 4 = 2 by omega) with hK | hK | hK
    · exact group_k0 R bs m out w h hbs hm ho n k hn hf hl hK
    · by_cases h8 : 8 ≤ bs.length - k
      · exact group_k1 R bs m out w h hbs hm ho n k hn hf hl hK h8
      · exact group_k1t R bs m out w h hbs hm ho n k hn hf hl hK h8
    · exact group_k2 R bs m out w h hbs hm ho n k hn hf hl hK
  · exact group_er R bs m out w h hbs hm ho n k er hn he

/-- The deferred closure: nothing to recover. -/
theorem catch_idle (p q : Addr) (w : World) :
    CallsD Try.prog 46 #[.pointer (some p), .pointer (some q)] .returning w fun e u' w' => e = .returned (.tuple #[]) ∧ u' = .returning ∧ w' = w := by
  refine callsD_of_wpS Try.func46 rfl fun c₀ cs hu => ?_
  apply wpS_seq
  apply wpS_region
  simp [wpOpsS, go_sem, recoverD, hu, Try.ntmps46, Exit.thenS]
  refine wpS_of_wp ?_
  go_wp2
  cases c₀
  simp_all [bodyPostS, results, Try.results46]
theorem run_assert72 (v : Value) (w : World) : (Instr.typeAssert (.iface 72 v) 20 72 true).run Try.prog w = .ok (.tuple #[v, .bool true]) w := by kernel_rfl

set_option maxRecDepth 20000 in
set_option maxHeartbeats 1000000 in
/-- The deferred closure: a failure is recovered. -/
theorem catch_failure (B l e : Nat) (hBl : B ≤ l) (hBe : B ≤ e) (hle : l ≠ e) (er : Nat) (v0 v1 : Value) (w : World) (hl : w.heap[l]? = some (.cells #[v0] 22 (0, 0))) (he : w.heap[e]? = some (.cells #[v1] 29 (0, 0))) :
    CallsD Try.prog 46 #[.pointer (some ⟨l, 0, none⟩), .pointer (some ⟨e, 0, none⟩)] (.panicking [{ v := .iface 72 (.agg #[.int .i64 er]), recovered := false }]) w fun e' u' w' =>
      e' = .returned (.tuple #[]) ∧ u' = .panicking [{ v := .iface 72 (.agg #[.int .i64 er]), recovered := true }] ∧
      w'.heap[l]? = some (.cells #[.slice none 0 0] 22 (0, 0)) ∧ w'.heap[e]? = some (.cells #[.int .i64 er] 29 (0, 0)) ∧ Below B w w' := by
  refine callsD_of_wpS Try.func46 rfl fun c₀ cs hu => ?_
  apply wpS_seq
  apply wpS_region
  simp [wpOpsS, go_sem, recoverD, hu, Try.ntmps46, Exit.thenS]
  simp only [Array.replicate_succ, Array.replicate_zero, List.push_toArray, List.append_toArray, List.nil_append, List.cons_append, List.setIfInBounds_toArray, List.set_cons_succ, List.set_cons_zero]
  refine wpS_of_wp ?_
  have hta := run_assert72 (.agg #[.int .i64 er])
  have hcl : w.cell? ⟨l, 0, none⟩ = some v0 := by rw [cell_of_row _ _ 0 _ _ _ hl]; rfl
  have hce : w.cell? ⟨e, 0, none⟩ = some v1 := by rw [cell_of_row _ _ 0 _ _ _ he]; rfl
  go_wp2_with ((with_reducible refine Stop.store 22 ?hst ?_); (case hst => rfl))
  refine Stop.go ?_
  refine step_store_one rfl 22 (.tmp 0) (.const (.slice none 0 0)) rfl rfl hl (by simp) rfl (by kernel_rfl) rfl rfl ?_
  intro w1 hl1 hg1 hz1
  have he1 : w1.heap[e]? = some (.cells #[v1] 29 (0, 0)) := (hg1.block _ (lt_of_heap he) (fun x => hle (Option.some.inj x).symm)).trans he
  go_wp2_with ((with_reducible refine Stop.store 29 ?hst ?_); (case hst => rfl))
  refine Stop.go ?_
  refine step_store_one rfl 29 (.tmp 1) (.const (.int .i64 3)) rfl rfl he1 (by simp) rfl (by kernel_rfl) rfl rfl ?_
  intro w2 he2 hg2 hz2
  have hl2 : w2.heap[l]? = some (.cells #[.slice none 0 0] 22 (0, 0)) := (hg2.block _ (lt_of_heap hl1) (fun x => hle (Option.some.inj x))).trans hl1
  go_wp2_with ((with_reducible refine Stop.store 72 ?hst ?_); (case hst => rfl))
  refine Stop.go ?_
  obtain ⟨w3, e3, hg3, hb3, hz3⟩ := alloc_facts w2 #[.int .i64 0] 72
  rw [e3]
  have hz02 : w2.heap.size = w.heap.size := by omega
  rw [hz02] at hg3
  refine step_store_row rfl 72 (.tmp 3) (.tmp 11) rfl rfl hg3 (vs := #[.int .i64 er]) rfl (by kernel_rfl) rfl (by simp [Value.oneCell']) ?_
  intro w4 hg4 hgr4 hz4
  have hc4 : w4.cell? ⟨w.heap.size, 0, none⟩ = some (.int .i64 er) := by rw [cell_of_row _ _ 0 _ _ _ hg4]; rfl
  have hl4 : w4.heap[l]? = some (.cells #[.slice none 0 0] 22 (0, 0)) := (hgr4.block _ (by have := lt_of_heap hl2; omega) (fun x => by have := Option.some.inj x; have := lt_of_heap hl2; omega)).trans ((hb3.block _ (lt_of_heap hl2)).trans hl2)
  have he4 : w4.heap[e]? = some (.cells #[.int .i64 3] 29 (0, 0)) := (hgr4.block _ (by have := lt_of_heap he2; omega) (fun x => by have := Option.some.inj x; have := lt_of_heap he2; omega)).trans ((hb3.block _ (lt_of_heap he2)).trans he2)
  go_wp2_with ((with_reducible refine Stop.store 29 ?hst ?_); (case hst => rfl))
  refine Stop.go ?_
  refine step_store_one rfl 29 (.tmp 1) (.tmp 15) rfl rfl he4 (by simp) rfl (by kernel_rfl) rfl rfl ?_
  intro w5 he5 hg5 hz5
  have hl5 : w5.heap[l]? = some (.cells #[.slice none 0 0] 22 (0, 0)) := (hg5.block _ (lt_of_heap hl4) (fun x => hle (Option.some.inj x))).trans hl4
  go_wp2
  have he5' : w5.heap[e]? = some (.cells #[.int .i64 er] 29 (0, 0)) := he5
  have hsz := lt_of_heap hl
  have hb5 : Below B w w5 := (((((Below.refl B w).grown hg1 (by omega) (fun k hk => by cases hk; exact hBl)).grown hg2 (by omega) (fun k hk => by cases hk; exact hBe)).trans (hb3.mono (by omega))).grown hgr4 (by omega) (fun k hk => by cases hk; omega)).grown hg5 (by omega) (fun k hk => by cases hk; exact hBe)
  have HL := Lib.hid hl5
  have HE := Lib.hid he5'
  have HB := Lib.hid hb5
  exact ⟨rfl, _, rfl, _, results_none rfl _ _ _, rfl, rfl, HL.out, HE.out, HB.out⟩
end Go.Proofs.Ytfdkhopionknaaa
