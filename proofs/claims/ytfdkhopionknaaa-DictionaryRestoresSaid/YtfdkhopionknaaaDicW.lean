/- Layer 6: the examples of the chapter (30). -/
import Derived.Test.YtfdkhopionknaaaDicA
import Derived.Test.YtfdkhopionknaaaAwake
import Derived.Lib.SlBytesConst
namespace Go.Proofs.Ytfdkhopionknaaa
open Go.RowKit
set_option linter.unusedVariables false
set_option linter.unusedSimpArgs false

def Oper.isBuild (o : Oper) (t : TypeId) : Bool := match o.op with | .buildSlice t' _ _ => t == t' | _ => false
theorem Stop.build {P : Program} {ops : Array Oper} {Q : Exit → Act → World → Prop} {o : Oper} {rest : List Oper} {a : Act} {w : World} (t : TypeId) (_h : Oper.isBuild o t = true) (g : Stop (wpList P ops Q (o :: rest) a w)) : wpList P ops Q (o :: rest) a w := g
theorem run_bs2 {w : World} {ev : Operand → Value} {o : Oper} {x y : Operand} {s t : Sec} (ho : o.op = .buildSlice 22 2 #[(0, x), (1, y)]) (hx : ev x = secV s) (hy : ev y = secV t) :
    (execOp ev o).run Try.prog w = .ok (.value (.slice (some ⟨w.heap.size, 0, none⟩) 2 2)) (w.alloc (.cells (s.cells ++ t.cells).toArray 38)) := by
  have := run_buildSlice_sec2 w s t
  unfold execOp
  simp [ho, hx, hy, this]

def Oper.isConv (o : Oper) (t : TypeId) : Bool := match o.op with | .convert t' u' _ => t == t' && t == u' | _ => false
theorem Stop.conv {P : Program} {ops : Array Oper} {Q : Exit → Act → World → Prop} {o : Oper} {rest : List Oper} {a : Act} {w : World} (t : TypeId) (_h : Oper.isConv o t = true) (g : Stop (wpList P ops Q (o :: rest) a w)) : wpList P ops Q (o :: rest) a w := g
theorem run_conv24 {w : World} {ev : Operand → Value} {o : Oper} {x : Operand} {C : Array Value} {n c g : Nat} (hg : w.heap.size = g) (ho : o.op = .convert 24 24 x) (hx : ev x = .slice (some ⟨g, 0, none⟩) n c) :
    (execOp ev o).run Try.prog (w.alloc (.cells C 5)) = .ok (.value (.slice (some ⟨g, 0, none⟩) n c)) (w.alloc (.cells C 5 (C.size, C.size + 1))) := by
  subst hg
  have := Lib.run_convert_bytes_const (P := Try.prog) w 24 5 C n c Try.underlying24 Try.underlying5
  unfold execOp
  simp [ho, hx, this]
/-- A byte string written out, marked as one. -/
def litW (w : World) (bs : List UInt8) : World := w.alloc (.cells (bs.map B).toArray 5 ((bs.map B).toArray.size, (bs.map B).toArray.size + 1))
theorem litW_bytes (w : World) (bs : List UInt8) {g : Nat} (hg : w.heap.size = g) (hl : bs.length ≤ 65536) : Bytes (litW w bs) (some ⟨g, 0, none⟩) bs.length bs := by
  subst hg
  unfold litW
  refine ⟨Nat.le_refl _, by unfold maxLen; omega, (fun e => by cases e), fun a ha j u hj => ?_⟩
  cases ha
  rw [Addr.add_lit, Nat.zero_add, cell_of_row _ _ j _ _ _ (heap_alloc_new w _)]
  simpa using hj
theorem litW_below (w : World) (bs : List UInt8) : Below w.heap.size w (litW w bs) := (Below.refl _ _).alloc (Nat.le_refl _) _
theorem litW_size (w : World) (bs : List UInt8) : (litW w bs).heap.size = w.heap.size + 1 := by simp [litW]

set_option maxRecDepth 20000 in
set_option maxHeartbeats 4000000 in
theorem awake6_calls (w : World) : Calls Try.prog 30 #[] w fun e w' => e = .returned (.bool true) ∧ Below w.heap.size w w' := by
  go_enter Try.func30, Try.ntmps30
  go_wp2_with ((with_reducible refine Stop.conv 24 ?hst ?_); (case hst => rfl))
  refine Stop.go ?_
  refine step_val rfl (run_conv24 (x := .tmp 8) (w := w) rfl rfl rfl) ?_
  go_wp2_with fail
  refine (dEnc_lit none (some ⟨w.heap.size, 0, none⟩) 0 10 [] abc10 exA (litW w abc10) ex_a (bytes_nil _) (litW_bytes w abc10 rfl (by decide)) (by decide)).mono ?_
  rintro e w1 ⟨A1, c1, rfl, hA1, hb1⟩
  have HB1 : Hid (Below w.heap.size w w1) := (litW_below w abc10).trans (hb1.out.mono (litW_below w abc10).size)
  clear hb1
  go_wp2_with ((with_reducible refine Stop.conv 24 ?hst ?_); (case hst => rfl))
  refine Stop.go ?_
  refine step_val rfl (run_conv24 (x := .tmp 11) (w := w1) rfl rfl rfl) ?_
  have hbd := litW_below w1 abcd4
  have hbd2 := litW_below (litW w1 abcd4) abcd4
  have hsz := litW_size w1 abcd4
  go_wp2_with ((with_reducible refine Stop.conv 24 ?hst ?_); (case hst => rfl))
  refine Stop.go ?_
  refine step_val rfl (run_conv24 (x := .tmp 13) (w := litW w1 abcd4) hsz rfl rfl) ?_
  go_wp2_with fail
  refine (dEnc_lit (some ⟨w1.heap.size, 0, none⟩) (some ⟨w1.heap.size + 1, 0, none⟩) 4 4 abcd4 abcd4 exB (litW (litW w1 abcd4) abcd4) ex_b ((litW_bytes w1 abcd4 rfl (by decide)).below hbd2) (litW_bytes (litW w1 abcd4) abcd4 hsz (by decide)) (by decide)).mono ?_
  rintro e w2 ⟨A2, c2, rfl, hA2, hb2⟩
  have hb12 : Below w1.heap.size w1 w2 := (hbd.trans (hbd2.mono hbd.size)).trans (hb2.out.mono (by have := hbd.size; have := hbd2.size; omega))
  have HB2 := Lib.hid (below_then HB1.out hb12)
  have HA1 := Lib.hid (hA1.out.below hb12)
  clear hb2 hbd hbd2 hb12 hA1 hsz
  go_wp2_with fail
  have hbe : Below w2.heap.size w2 (w2.alloc (.cells (tokE.map B).toArray 5)) := (Below.refl _ _).alloc (Nat.le_refl _) _
  refine (dDec_lit none (some ⟨w2.heap.size, 0, none⟩) 0 2 [] tokE 100 _ (w2.alloc (.cells (tokE.map B).toArray 5)) ex_e (bytes_nil _) (bytes_new w2 tokE (by decide)) (by decide) (by decide) (by decide)).mono ?_
  rintro e w3 ⟨A3, c3, rfl, _, hb3⟩
  have hb23 := hbe.trans (hb3.out.mono hbe.size)
  have HB3 := Lib.hid (below_then HB2.out hb23)
  have HA1 := Lib.hid (HA1.out.below hb23)
  have HA2 := Lib.hid (hA2.out.below hb23)
  clear hb3 hbe hb23 hA2
  go_wp2_with fail
  have hbe : Below w3.heap.size w3 (w3.alloc (.cells (tokF.map B).toArray 5)) := (Below.refl _ _).alloc (Nat.le_refl _) _
  refine (dDec_lit none (some ⟨w3.heap.size, 0, none⟩) 0 2 [] tokF 100 _ (w3.alloc (.cells (tokF.map B).toArray 5)) ex_f (bytes_nil _) (bytes_new w3 tokF (by decide)) (by decide) (by decide) (by decide)).mono ?_
  rintro e w4 ⟨A4, c4, rfl, _, hb4⟩
  have hb34 := hbe.trans (hb4.out.mono hbe.size)
  have HB4 := Lib.hid (below_then HB3.out hb34)
  have HA1 := Lib.hid (HA1.out.below hb34)
  have HA2 := Lib.hid (HA2.out.below hb34)
  clear hb4 hbe hb34
  go_wp2_with ((with_reducible refine Stop.build 22 ?hst ?_); (case hst => rfl))
  refine Stop.go ?_
  refine step_val rfl (run_bs2 (s := secP1) (t := secP2) (x := .tmp 26) (y := .tmp 27) rfl rfl rfl) ?_
  have hbe : Below w4.heap.size w4 (w4.alloc (.cells (secP1.cells ++ secP2.cells).toArray 38)) := (Below.refl _ _).alloc (Nat.le_refl _) _
  have hss : Secs (w4.alloc (.cells (secP1.cells ++ secP2.cells).toArray 38)) (some ⟨w4.heap.size, 0, none⟩) 2 [secP1, secP2] := by
    have := Rd.new w4 38 (secP1.cells ++ secP2.cells).toArray 2 (by unfold maxLen; omega)
    unfold Secs
    simpa [flat, Sec.cells] using this
  go_wp2_with fail
  refine (pack_lit none (some ⟨w4.heap.size, 0, none⟩) 0 2 [] (0 :: flat [secP1, secP2]) [secP1, secP2] _ ex_c (bytes_nil _) hss (by decide) (by decide)).mono ?_
  rintro e w5 ⟨A5, c5, rfl, hA5, hb5⟩
  have hb45 := hbe.trans (hb5.out.mono hbe.size)
  have HB5 := Lib.hid (below_then HB4.out hb45)
  have HA1 := Lib.hid (HA1.out.below hb45)
  have HA2 := Lib.hid (HA2.out.below hb45)
  clear hb5 hbe hb45 hss
  have hbe : Below w5.heap.size w5 (w5.alloc (.cells (exA.map B).toArray 5)) := (Below.refl _ _).alloc (Nat.le_refl _) _
  have HA5' := Lib.hid (hA5.out.below hbe)
  have HA2' := Lib.hid (HA2.out.below hbe)
  have HB5' := Lib.hid (HB5.out.trans (hbe.mono HB5.out.size))
  obtain ⟨a5, rfl⟩ := hA5.out.some_of (k := 0) (by decide)
  go_wp2_with fail
  refine (equal_calls A1 (some ⟨w5.heap.size, 0, none⟩) c1 8 exA exA (w5.alloc (.cells (exA.map B).toArray 5)) (HA1.out.below hbe) (bytes_new w5 exA (by decide))).mono ?_
  rintro e w6 ⟨rfl, rfl⟩
  rw [decide_eq_true rfl]
  obtain ⟨w6, hw6⟩ : ∃ x, x = w5.alloc (.cells (exA.map B).toArray 5) := ⟨_, rfl⟩
  have hbf : Below w6.heap.size w6 (w6.alloc (.cells (exB.map B).toArray 5)) := (Below.refl _ _).alloc (Nat.le_refl _) _
  rw [← hw6] at HA5' HA2' HB5' ⊢
  have hcell : (w6.alloc (.cells (exB.map B).toArray 5)).cell? a5 = some (.int .u8 0) := by
    have := (HA5'.out.below hbf).row a5 rfl 0 (B 0) rfl
    rwa [show a5.add 0 = a5 from by unfold Addr.add; simp] at this
  clear hw6 hbe
  go_wp2_with fail
  refine (equal_calls A2 (some ⟨w6.heap.size, 0, none⟩) c2 2 exB exB (w6.alloc (.cells (exB.map B).toArray 5)) (HA2'.out.below hbf) (bytes_new w6 exB (by decide))).mono ?_
  rintro e w7 ⟨rfl, rfl⟩
  rw [decide_eq_true rfl]
  have HB7 := Lib.hid (HB5'.out.trans (hbf.mono HB5'.out.size))
  clear hbf
  go_wp2
  go_ret
  exact ⟨rfl, HB7.out⟩
end Go.Proofs.Ytfdkhopionknaaa
