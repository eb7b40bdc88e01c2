/- Layer 6, the output: match (55). -/
import Derived.Test.YtfdkhopionknaaaDicO
namespace Go.Proofs.Ytfdkhopionknaaa
open Go.RowKit
set_option linter.unusedVariables false
set_option linter.unusedSimpArgs false

/-- A slice that holds what it is said to, nothing of old turned: owned by the call. -/
theorem Fresh_own {w : World} {bs : List UInt8} {e : Ending} {w' : World} (h : Fresh w bs e w') : ∃ A c, e = .returned (.slice A bs.length c) ∧ Own w' w.heap.size 5 1 (.slice A bs.length c) bs.length (bs.map B) ∧ Below w.heap.size w w' := by
  obtain ⟨v, rfl, ho, hb⟩ := h
  obtain ⟨A, c, rfl⟩ := own_slice ho
  exact ⟨A, c, rfl, ho, hb⟩

set_option maxRecDepth 20000 in
set_option maxHeartbeats 4000000 in
theorem match_calls (base eb : Nat) (ts ws : List UInt8) (va vat vm : Value) (d n : Nat) (w : World) (h : OutS base eb w ts ws va vat vm) (hl : ts.length + 2 * ws.length ≤ 1000000) (hd : d ≤ 4096) (hn : n ≤ 131) (hn4 : 4 ≤ n) :
    Calls Try.prog 55 #[.pointer (some ⟨eb, 0, none⟩), .int .i64 d, .int .i64 n] w fun e w' => e = .returned (.tuple #[]) ∧ OutS base eb w' (ts ++ lits ws ++ (UInt8.ofNat (124 + n) :: putN d)) [] va vat vm ∧ K5 base eb w w' := by
  have HH := Lib.hid h
  clear h
  have hll := lits_len ws
  obtain ⟨t1, ht1⟩ : ∃ x, x = ts ++ lits ws := ⟨_, rfl⟩
  have hl1 : t1.length ≤ 1000000 := by rw [ht1, List.length_append]; omega
  have HT1E := Lib.hid ht1
  obtain ⟨N, hN⟩ : ∃ N, 124 + n = N := ⟨_, rfl⟩
  have HNE := Lib.hid hN
  have v1 : IntKind.i64.wrap (128 + (n : Int)) = 128 + (n : Int) := by rw [IntKind.wrap_i64]; omega
  have v2 : IntKind.i64.wrap (128 + (n : Int) - 4) = (N : Int) := by rw [IntKind.wrap_i64]; omega
  have v3 : IntKind.u8.wrap (N : Int) = (N : Int) := by rw [IntKind.wrap_u8]; omega
  have hput : Hid (putI (d : Int) = putN d) := by
    show putI (d : Int) = putN d
    unfold putI
    rw [if_neg (by omega)]
    simp
  have hN255 : N < 256 := by omega
  have hpl : Hid ((putN d).length ≤ 8) := putN_len8 (by omega)
  clear ht1 hN
  go_enter Try.func55, Try.ntmps55
  go_wp2_with fail
  refine (flush_calls base eb ts ws va vat vm w HH.out (by omega)).mono ?_
  rintro e w1 ⟨rfl, ho1, hk1⟩
  rw [← HT1E.out] at ho1
  obtain ⟨hb1, hb2, T, tc, W, wc, hE, hT, hW, hne⟩ := ho1
  have hc0 : w1.cell? ⟨eb, 0, none⟩ = some (.slice T t1.length tc) := cell_k hE rfl
  have HE := Lib.hid hE
  have HT := Lib.hid hT
  have HW := Lib.hid hW
  have HNE1 := Lib.hid hne
  have HK1 := Lib.hid hk1
  clear hE hT hW hne hk1
  have HBN : Hid (B (UInt8.ofNat N) = .int .u8 N) := B_of N hN255
  have hzb : (t1.length + 1) * 1 ≤ 140737488355328 := by omega
  go_wp2_with (at_builtin; refine Stop.at ?_)
  refine Stop.go ?_
  have HRN := cell_new_B w1 N (UInt8.ofNat N) HBN.out
  have hbd : Below w1.heap.size w1 (w1.alloc (.cells #[.int .u8 N] 5)) := (Below.refl _ _).alloc (Nat.le_refl _) _
  refine step_append E24 rfl (.tmp 12) (.tmp 17) rfl base rfl (HT.out.alloc (.cells #[.int .u8 N] 5)) rfl HRN (by rfl) (oneCell_B _) hzb (by decide) (Nat.le_trans hb2 hbd.size) ?_
  intro v2 w2 ho2 hg2
  have hE2 := eb_beside (HT.out.alloc (.cells #[.int .u8 N] 5)) hg2 hb1 ((hbd.block _ (lt_of_heap HE.out)).trans HE.out)
  obtain ⟨hW2, hne2⟩ := own_beside (HW.out.alloc (.cells #[.int .u8 N] 5)) (HT.out.alloc (.cells #[.int .u8 N] 5)) hg2 (ne_symm' HNE1.out)
  have hk2 : K5 base eb w1 w2 := (K5.of_below hbd).trans (K5.of_grew (HT.out.alloc (.cells #[.int .u8 N] 5)) hg2)
  obtain ⟨t2, ht2⟩ : ∃ x, x = t1 ++ [UInt8.ofNat N] := ⟨_, rfl⟩
  have hl2 : t2.length = t1.length + 1 := by rw [ht2]; simp
  obtain ⟨T2, tc2, rfl⟩ := own_slice ho2
  have ho2' : Own w2 base 5 1 (.slice T2 t2.length tc2) t2.length (t2.map B) := by rw [hl2, ht2, List.map_append]; exact ho2
  rw [← hl2]
  have hl2' : t2.length ≤ 1000001 := by omega
  have HT2 := Lib.hid ho2'
  have HT2E := Lib.hid ht2
  have HE2 := Lib.hid hE2
  have HW2 := Lib.hid hW2
  have HK2 := Lib.hid hk2
  have hs2 : base ≤ w2.heap.size := Nat.le_trans hb2 hk2.size
  clear ho2 ho2' ht2 hE2 hW2 hk2 hbd hg2 hne2 HRN hl2
  go_wp2_with fail
  refine (PutInt_calls T2 tc2 t2 d w2 (own_bytes HT2.out) (by omega)).mono ?_
  intro e w3 hfr
  obtain ⟨T3, tc3, rfl, ho3, hb3⟩ := Fresh_own hfr
  clear hfr
  obtain ⟨t3, ht3⟩ : ∃ x, x = t2 ++ putI (d : Int) := ⟨_, rfl⟩
  rw [← ht3] at ho3 ⊢
  have hE3 := (hb3.block _ (lt_of_heap HE2.out)).trans HE2.out
  have hf3 : w3.frozen? ⟨eb, 0, none⟩ = false := frozen_k hE3
  have hc3 : w3.cell? ⟨eb, 0, none⟩ = some (.slice T t1.length tc) := cell_k hE3 rfl
  have HE3 := Lib.hid hE3
  have HO3 := Lib.hid (ho3.mono hs2)
  have HN3 : Hid ((Value.slice T3 t3.length tc3).ownBlock = none ∨ (Value.slice T3 t3.length tc3).ownBlock ≠ (Value.slice W 0 wc).ownBlock) := by
    show _ ∨ _
    cases hx : (Value.slice T3 t3.length tc3).ownBlock with
    | none => exact .inl rfl
    | some x =>
      refine .inr (fun e => ?_)
      have h1 := (ho3.lt _ hx).1
      have h2 := (HW2.out.lt _ e.symm).2
      omega
  have HW3 := Lib.hid (HW2.out.below hb3)
  have HK3 := Lib.hid (HK1.out.trans (HK2.out.trans (K5.of_below hb3)))
  have HT3E := Lib.hid ht3
  have hs3 : base ≤ w3.heap.size := Nat.le_trans hs2 hb3.size
  clear ho3 hb3 hE3 ht3
  go_wp2
  refine bodyPost_end (results_none rfl _ _ _) rfl ⟨rfl, ?_, HK3.out.trans (K5.of_eb (grown_setCell _ _ _ _))⟩
  have : ts ++ lits ws ++ (UInt8.ofNat (124 + n) :: putN d) = t3 := by rw [HT3E.out, HT2E.out, hput.out, HNE.out, HT1E.out]; simp
  rw [this]
  exact ⟨hb1, by simpa using hs3, T3, tc3, W, wc, by rw [set_facts HE3.out]; rfl, own_eb HO3.out (grown_setCell _ _ _ _) hb1, own_eb HW3.out (grown_setCell _ _ _ _) hb1, HN3.out⟩
end Go.Proofs.Ytfdkhopionknaaa
