/- DictionaryUnpacks: for every input the law hands back true, and its arguments read as they did. -/
import Derived.Test.YtfdkhopionknaaaDicD
import Derived.Test.YtfdkhopionknaaaDicM
import Derived.Test.YtfdkhopionknaaaBld
import Derived.Test.YtfdkhopionknaaaDec
import Derived.Test.YtfdkhopionknaaaEncR
import Derived.Test.YtfdkhopionknaaaDicL2
import Derived.Test.YtfdkhopionknaaaDecR
import Derived.Test.YtfdkhopionknaaaDecP
import Derived.Test.YtfdkhopionknaaaRows
import Derived.Test.YtfdkhopionknaaaSec
import Derived.ProofKit
import Derived.Deep.Slices
import Derived.OpenShut
import Derived.Carry
section
namespace Go.Proofs.Ytfdkhopionknaaa
open Go.RowKit
set_option linter.unusedVariables false
set_option linter.unusedSimpArgs false
attribute [local go_sem ↓] run_load_sec run_eql_sec run_neq_sec run_build_sec
attribute [local go_sem] SecP_drewN secP_drewN isSec_secV unSec_secV isSec_zero unSec_zero

set_option maxRecDepth 20000 in
set_option maxHeartbeats 1000000 in
theorem same6_calls (A A' : Option Addr) (c c' : Nat) (xs ys : List Sec) (w : World) (h : Secs w A c xs) (h' : Secs w A' c' ys) (hlen : xs.length ≤ 1099511627776) (hlen' : ys.length ≤ 1099511627776) :
    Calls Try.prog 39 #[.slice A xs.length c, .slice A' ys.length c'] w fun e w' => e = .returned (.bool (decide (xs = ys))) ∧ ∃ n, w' = w.drewN n := by
  by_cases hl : xs.length = ys.length
  · have hb : ((xs.length : Int) != (ys.length : Int)) = false := by simp; omega
    go_enter Try.func39, Try.ntmps39
    go_wp2
    go_loopw [5] (fun n w' => ∃ k : Nat, n = .int .i64 k ∧ k ≤ xs.length ∧ Hid (xs.take k = ys.take k) ∧ ∃ q, w' = w.drewN q) (fun n w' => xs.length - (intOf n).toNat)
    case atStart => exact ⟨0, rfl, by omega, rfl, 0, rfl⟩
    case round =>
      obtain ⟨k, rfl, hk, hke, q, rfl⟩ := hrel
      by_cases hlt : k < xs.length
      · obtain ⟨s0, hs0⟩ : ∃ s, xs[k]? = some s := ⟨_, List.getElem?_eq_getElem hlt⟩
        obtain ⟨s1, hs1⟩ : ∃ s, ys[k]? = some s := ⟨_, List.getElem?_eq_getElem (by omega)⟩
        obtain ⟨a, rfl⟩ := h.some_of hlt
        obtain ⟨a', rfl⟩ := h'.some_of (show k < ys.length by omega)
        have hc0 := h.at hs0
        have hc1 := h'.at hs1
        have HS0 := Lib.hid hs0
        have HS1 := Lib.hid hs1
        have b1 : (k : Int) < (ys.length : Int) := by omega
        have b2 : k < ys.length := by omega
        clear hs0 hs1
        go_wp2_with fail
        refine wp_region_quiet_lit (by kernel_rfl) (by kernel_rfl) ?_
        repeat (go_big_quiet_step (fail))
        go_big_quiet_want
        refine quiet_sec rfl rfl hc0 ?_
        go_big_quiet_on
        simp only [Act.put, List.setIfInBounds_toArray, List.set_cons_succ, List.set_cons_zero]
        repeat (go_big_quiet_step (fail))
        go_big_quiet_want
        refine quiet_sec rfl rfl hc1 ?_
        go_big_quiet_on
        simp only [Act.put, List.setIfInBounds_toArray, List.set_cons_succ, List.set_cons_zero]
        repeat (go_big_quiet_step (fail))
        refine wpQuiet_nil ?_
        intro _ hw'
        obtain ⟨nq, hw''⟩ := hw'
        subst hw''
        by_cases he : s0 = s1
        · have hke' : Hid (xs.take (k + 1) = ys.take (k + 1)) := by
            show _ = _
            rw [List.take_add_one, List.take_add_one, HS0.out, HS1.out, hke.out, he]
          rw [decide_eq_true he]
          clear he
          go_wp2
          exact ⟨⟨k + 1, rfl, by omega, hke', q + nq, rfl⟩, by simp [intOf]; omega⟩
        · have hx : xs ≠ ys := by
            intro e
            have h0 := HS0.out
            rw [e, HS1.out] at h0
            exact he (Option.some.inj h0).symm
          have HX := Lib.hid (decide_eq_false hx)
          rw [decide_eq_false he]
          clear he hx
          go_wp2
          go_ret
          exact ⟨by rw [HX.out]; rfl, q + nq, World.drewN_drewN _ _ _⟩
      · have hx : xs = ys := by
          have := hke.out
          rwa [List.take_of_length_le (by omega), List.take_of_length_le (by omega)] at this
        have HX := Lib.hid (decide_eq_true hx)
        clear hx
        go_wp2
        go_ret
        exact ⟨by rw [HX.out]; rfl, q, rfl⟩
  · have hb : ((xs.length : Int) != (ys.length : Int)) = true := by simp; omega
    have hx : xs ≠ ys := fun e => hl (congrArg List.length e)
    have HX := Lib.hid (decide_eq_false hx)
    clear hx
    go_enter Try.func39, Try.ntmps39
    go_wp2
    go_ret
    exact ⟨by rw [HX.out]; rfl, 0, rfl⟩


/-- The sectors that bytes contain: the error, the list. -/
def sectorsD (bs : List UInt8) (most : Int) : Nat × List Sec :=
  if bs.length % 8 ≠ 0 then (3, []) else if most < ((bs.length / 8 : Nat) : Int) then (5, []) else (0, secsN (bs.length / 8) bs)
def slN : Value → Nat
  | .slice _ n _ => n
  | _ => 0
def SecRes (w : World) (r : Nat × List Sec) (e : Ending) (w' : World) : Prop :=
  ∃ A c, e = .returned (.tuple #[.slice A r.2.length c, .int .i64 r.1]) ∧ Own w' w.heap.size 38 8 (.slice A r.2.length c) r.2.length ((flat r.2).map B) ∧ Below w.heap.size w w'
theorem step_load_sec {P : Program} {ops : Array Oper} {rest : List Oper} {o : Oper} {a : Act} {w : World} {Q : Exit → Act → World → Prop} (hgd : o.guard = none) (x : Operand) (ho : o.op = .load 38 x) {ad : Addr} {s : Sec} (hx : a.eval x = .pointer (some ad)) (hs : SecAt w ad s)
    (h : wpList Try.prog ops Q rest (a.put o.dst (secV s)) w) : wpList Try.prog ops Q (o :: rest) a w :=
  step_load_agg hgd 38 x ho hx (cs := s.cells) (agg38 w) (size38 w) hs h
theorem own_slice22 {w : World} {base n : Nat} {v : Value} {xs : List Value} (h : Own w base 38 8 v n xs) : ∃ A c, v = .slice A n c := by
  obtain ⟨A, c, e, _⟩ := h.rd
  exact ⟨A, c, e⟩
theorem secs_step {bs' : List UInt8} (h8 : 8 ≤ bs'.length) (hm : bs'.length % 8 = 0) : secsN (bs'.length / 8) bs' = secOf bs' :: secsN ((bs'.drop 8).length / 8) (bs'.drop 8) := by
  have : bs'.length / 8 = (bs'.drop 8).length / 8 + 1 := by rw [List.length_drop]; omega
  rw [this]; rfl
theorem bytes_sec {w : World} {a : Addr} {c : Nat} {bs : List UInt8} (h : Bytes w (some a) c bs) (h8 : 8 ≤ bs.length) : SecAt w a (secOf bs) := by
  intro j u hj
  refine h.row a rfl j u ?_
  unfold Sec.cells at hj
  rw [bytes_secOf bs h8, List.map_take, List.getElem?_take] at hj
  split at hj
  · exact hj
  · cases hj

set_option maxRecDepth 20000 in
set_option maxHeartbeats 4000000 in
theorem dsectors_calls (A : Option Addr) (c : Nat) (bs : List UInt8) (most : Int) (w : World) (h : Bytes w A c bs) (hl : bs.length ≤ 1000000) :
    Calls Try.prog 63 #[.slice A bs.length c, .int .i64 most] w (SecRes w (sectorsD bs most)) := by
  have H := Lib.hid h
  obtain ⟨⟨r1, r2⟩, hr⟩ : ∃ r, sectorsD bs most = r := ⟨_, rfl⟩
  rw [hr]
  obtain ⟨R, hR⟩ : ∃ R, bs.length % 8 = R := ⟨_, rfl⟩
  obtain ⟨K, hK⟩ : ∃ K, bs.length / 8 = K := ⟨_, rfl⟩
  have e1 : (bs.length : Int).tmod 8 = (R : Int) := by rw [Int.tmod_eq_emod_of_nonneg (by omega)]; omega
  have e2 : (bs.length : Int).tdiv 8 = (K : Int) := by rw [Int.tdiv_eq_ediv_of_nonneg (by omega)]; omega
  have hK8 : K ≤ 125000 := by omega
  have vK : IntKind.i64.wrap (K : Int) = (K : Int) := by rw [IntKind.wrap_i64]; omega
  have hr' := hr
  unfold sectorsD at hr'
  rw [hR, hK] at hr'
  have HK := Lib.hid hK
  have HRm := Lib.hid hR
  clear h hr hR hK
  by_cases h0 : R = 0
  · have b1 : ((R : Int) != 0) = false := by simp [h0]
    rw [if_neg (by omega)] at hr'
    by_cases hm : most < (K : Int)
    · rw [if_pos hm] at hr'
      obtain ⟨rfl, rfl⟩ : r1 = 5 ∧ r2 = [] := by cases hr'; exact ⟨rfl, rfl⟩
      clear hr'
      go_enter Try.func63, Try.ntmps63
      go_wp2
      go_ret2
      exact ⟨none, 0, rfl, Own.nil _ _ _ _, Below.refl _ _⟩
    · rw [if_neg hm] at hr'
      obtain ⟨rfl, hr2⟩ : r1 = 0 ∧ r2 = secsN K bs := by cases hr'; exact ⟨rfl, rfl⟩
      have HR2 := Lib.hid hr2
      have h80 : bs.length % 8 = 0 := by rw [HRm.out]; exact h0
      clear hr' hr2
      go_enter Try.func63, Try.ntmps63
      go_wp2
      go_loopw [0, 6] (fun bv ov w' => ∃ (b : List UInt8) (out : List Sec) (A2 T : Option Addr) (c2 tc : Nat), bv = .slice A2 b.length c2 ∧ ov = .slice T out.length tc ∧ Hid (out ++ secsN (b.length / 8) b = r2) ∧ b.length % 8 = 0 ∧ out.length * 8 + b.length ≤ bs.length ∧ Hid (Bytes w A2 c2 b) ∧
        Hid (Own w' w.heap.size 38 8 (.slice T out.length tc) out.length ((flat out).map B)) ∧ Hid (Below w.heap.size w w')) (fun bv ov w' => slN bv)
      case atStart => exact ⟨bs, [], A, none, c, 0, rfl, rfl, by show [] ++ _ = _; rw [List.nil_append, HR2.out, HK.out], h80, by simp, H, Own.nil _ _ _ _, Below.refl _ _⟩
      case round =>
        obtain ⟨b, out, A2, T, c2, tc, rfl, rfl, heq, hb8, hlen, hB, hO, hbl⟩ := hrel
        by_cases hlt : 0 < b.length
        · have d1 : (0 : Int) < (b.length : Int) := by omega
          have h8 : 8 ≤ b.length := by omega
          obtain ⟨a, rfl⟩ := hB.out.some_of hlt
          obtain ⟨A3, c3, b3, hb3, hsl0, hby⟩ := bslice_lo hB.out 8 h8
          have hsl : ∀ w', (Instr.sliceAt 24 (.slice (some a) b.length c2) (some (.int .i64 8)) none none).run Try.prog w' = .ok (.slice A3 b3.length c3) w' := hsl0
          have har : ∀ w', (Instr.arrayAt 38 (.slice (some a) b.length c2)).run Try.prog w' = .ok (.pointer (some a)) w' := fun w' => by
            simp [Instr.arrayAt, run_underlying Try.underlying38, Nat.not_lt.2 h8]
          have hat := bytes_sec (hB.out.below hbl.out) h8
          obtain ⟨s, hs⟩ : ∃ s, s = secOf b := ⟨_, rfl⟩
          rw [← hs] at hat
          have HS := Lib.hid (show secsN (b.length / 8) b = s :: secsN (b3.length / 8) b3 by rw [hb3.out, hs]; exact secs_step h8 hb8)
          have HAT := Lib.hid hat
          have HB3 := Lib.hid hby
          have hl3 : b3.length = b.length - 8 := by rw [hb3.out, List.length_drop]
          have q1 : b3.length % 8 = 0 := by omega
          have q2 : b3.length + 8 ≤ b.length := by omega
          clear hsl0 hat hby hl3 hs hb3
          go_wp2_with ((with_reducible refine Stop.load 38 ?hst ?_); (case hst => rfl))
          refine Stop.go ?_
          refine step_load_sec (P := Try.prog) rfl (.tmp 23) rfl (s := s) rfl HAT.out ?_
          go_wp2_with (at_builtin; refine Stop.at ?_)
          refine Stop.go ?_
          have hba : Below wr.heap.size wr (wr.alloc (.cells s.cells.toArray 38)) := (Below.refl _ _).alloc (Nat.le_refl _) _
          refine step_append E22 rfl (.tmp 21) (.tmp 25) rfl w.heap.size rfl (hO.out.alloc (.cells s.cells.toArray 38)) rfl (Secs.one wr s) rfl (oneCell_B _) (by omega) (by decide) (Nat.le_trans hbl.out.size hba.size) ?_
          intro v6 w6 ho6 hg6
          obtain ⟨T6, tc6, rfl⟩ := own_slice22 ho6
          obtain ⟨out6, hout6⟩ : ∃ y, y = out ++ [s] := ⟨_, rfl⟩
          have hl6 : out6.length = out.length + 1 := by rw [hout6, List.length_append]; rfl
          have HO6 := Lib.hid (show Own w6 w.heap.size 38 8 (.slice T6 out6.length tc6) out6.length ((flat out6).map B) by rw [hl6, hout6, flat_append, List.map_append]; exact ho6)
          have HB6 := Lib.hid ((hbl.out.trans (hba.mono hbl.out.size)).trans (hg6.below (hO.out.alloc (.cells s.cells.toArray 38)) (Nat.le_trans hbl.out.size hba.size)))
          have HEQ := Lib.hid (show out6 ++ secsN (b3.length / 8) b3 = r2 by rw [← heq.out, HS.out, hout6]; simp)
          have q3 : out6.length * 8 + b3.length ≤ bs.length := by omega
          rw [← hl6]
          clear ho6 hg6 hba hout6 hl6
          go_wp2
          exact ⟨⟨b3, out6, A3, T6, c3, tc6, rfl, rfl, HEQ, q1, q3, HB3, HO6, HB6⟩, by simp [slN]; omega⟩
        · have d1 : ¬ (0 : Int) < (b.length : Int) := by omega
          have hX : out = r2 := by
            have := heq.out
            rwa [show b.length / 8 = 0 by omega, secsN, List.append_nil] at this
          have HX := Lib.hid hX
          clear hX
          go_wp2
          go_ret2
          have e := HX.out
          subst e
          exact ⟨T, tc, rfl, hO.out, hbl.out⟩
  · have b1 : ((R : Int) != 0) = true := by rw [bne_iff_ne]; omega
    rw [if_pos h0] at hr'
    obtain ⟨rfl, rfl⟩ : r1 = 3 ∧ r2 = [] := by cases hr'; exact ⟨rfl, rfl⟩
    clear hr'
    go_enter Try.func63, Try.ntmps63
    go_wp2
    go_ret2
    exact ⟨none, 0, rfl, Own.nil _ _ _ _, Below.refl _ _⟩
end Go.Proofs.Ytfdkhopionknaaa
end

section
namespace Go.Proofs.Ytfdkhopionknaaa
open Go.RowKit
set_option linter.unusedVariables false
set_option linter.unusedSimpArgs false
attribute [local go_sem ↓] run_load_sec run_eql_sec run_neq_sec run_build_sec
attribute [local go_sem] SecP_drewN secP_drewN isSec_secV unSec_secV isSec_zero unSec_zero

/-- A sector of which k bytes are laid. -/
def secRow (b : List UInt8) (k : Nat) : Array Value := ((b.take k ++ List.replicate (8 - k) 0).map B).toArray
theorem secRow_size {b : List UInt8} {k : Nat} (h : 8 ≤ b.length) (hk : k ≤ 8) : (secRow b k).size = 8 := by simp [secRow]; omega
theorem secRow_set {b : List UInt8} {k : Nat} {x : UInt8} (h : 8 ≤ b.length) (hk : k < 8) (hx : b[k]? = some x) : (secRow b k).setIfInBounds k (B x) = secRow b (k + 1) := by
  obtain ⟨hkl, e⟩ := List.getElem?_eq_some_iff.1 hx
  apply Array.ext'
  unfold secRow
  rw [Array.toList_setIfInBounds]
  have h1 : (b.take k).length = k := by rw [List.length_take]; omega
  rw [show 8 - k = (8 - (k + 1)) + 1 by omega, List.replicate_succ, List.take_succ_eq_append_getElem hkl, e]
  simp only [List.map_append, List.map_cons, List.map_nil]
  rw [List.set_append_right _ _ (by simp; omega)]
  have h2 : min k b.length = k := by omega
  simp [h2]
theorem secRow_full {b : List UInt8} (h : 8 ≤ b.length) : secRow b 8 = (secOf b).cells.toArray := by
  unfold secRow Sec.cells
  rw [bytes_secOf b h]
  simp
theorem inf5s : (Try.prog.info? 5).map (·.size) = some 1 := by kernel_rfl

set_option maxRecDepth 20000 in
set_option maxHeartbeats 6000000 in
theorem refdsectors_calls (A : Option Addr) (c : Nat) (bs : List UInt8) (most : Int) (w : World) (h : Bytes w A c bs) (hl : bs.length ≤ 1000000) :
    Calls Try.prog 64 #[.slice A bs.length c, .int .i64 most] w (SecRes w (sectorsD bs most)) := by
  have H := Lib.hid h
  obtain ⟨⟨r1, r2⟩, hr⟩ : ∃ r, sectorsD bs most = r := ⟨_, rfl⟩
  rw [hr]
  obtain ⟨R, hR⟩ : ∃ R, bs.length % 8 = R := ⟨_, rfl⟩
  obtain ⟨K, hK⟩ : ∃ K, bs.length / 8 = K := ⟨_, rfl⟩
  have e1 : (bs.length : Int).tmod 8 = (R : Int) := by rw [Int.tmod_eq_emod_of_nonneg (by omega)]; omega
  have e2 : (bs.length : Int).tdiv 8 = (K : Int) := by rw [Int.tdiv_eq_ediv_of_nonneg (by omega)]; omega
  have hK8 : K ≤ 125000 := by omega
  have vK : IntKind.i64.wrap (K : Int) = (K : Int) := by rw [IntKind.wrap_i64]; omega
  have hr' := hr
  unfold sectorsD at hr'
  rw [hR, hK] at hr'
  have HK := Lib.hid hK
  have HRm := Lib.hid hR
  clear h hr hR hK
  by_cases h0 : R = 0
  · have b1 : ((R : Int) != 0) = false := by simp [h0]
    rw [if_neg (by omega)] at hr'
    by_cases hm : most < (K : Int)
    · rw [if_pos hm] at hr'
      obtain ⟨rfl, rfl⟩ : r1 = 5 ∧ r2 = [] := by cases hr'; exact ⟨rfl, rfl⟩
      clear hr'
      go_enter Try.func64, Try.ntmps64
      go_wp2
      go_ret2
      exact ⟨none, 0, rfl, Own.nil _ _ _ _, Below.refl _ _⟩
    · rw [if_neg hm] at hr'
      obtain ⟨rfl, hr2⟩ : r1 = 0 ∧ r2 = secsN K bs := by cases hr'; exact ⟨rfl, rfl⟩
      have HR2 := Lib.hid hr2
      have h80 : bs.length % 8 = 0 := by rw [HRm.out]; exact h0
      clear hr' hr2
      go_enter Try.func64, Try.ntmps64
      go_wp2
      go_loopw [6, 7] (fun ov iv w' => ∃ (i : Nat) (out : List Sec) (T : Option Addr) (tc : Nat), iv = .int .i64 i ∧ ov = .slice T out.length tc ∧ Hid (out ++ secsN ((bs.drop i).length / 8) (bs.drop i) = r2) ∧ i % 8 = 0 ∧ i ≤ bs.length ∧ out.length * 8 ≤ i ∧
        Hid (Own w' w.heap.size 38 8 (.slice T out.length tc) out.length ((flat out).map B)) ∧ Hid (Below w.heap.size w w')) (fun ov iv w' => bs.length - (intOf iv).toNat)
      case atStart => exact ⟨0, [], none, 0, rfl, rfl, by show [] ++ _ = _; rw [List.nil_append, List.drop_zero, HR2.out, HK.out], rfl, Nat.zero_le _, by simp, Own.nil _ _ _ _, Below.refl _ _⟩
      case round =>
        obtain ⟨i, out, T, tc, rfl, rfl, heq, hi8, hil, hol, hO, hbl⟩ := hrel
        by_cases hlt : i < bs.length
        · have d1 : (i : Int) < (bs.length : Int) := by omega
          have h8 : i + 8 ≤ bs.length := by omega
          obtain ⟨a, rfl⟩ := H.out.some_of hlt
          obtain ⟨b, hb⟩ : ∃ b, b = bs.drop i := ⟨_, rfl⟩
          have hbl8 : b.length = bs.length - i := by rw [hb, List.length_drop]
          have hb8 : 8 ≤ b.length := by omega
          obtain ⟨g, hgs⟩ : ∃ g, wr.heap.size = g := ⟨_, rfl⟩
          have hgw : w.heap.size ≤ g := by rw [← hgs]; exact hbl.out.size
          obtain ⟨w1, e1w, hg1, hb1, hz1⟩ := alloc_facts wr #[.int .u8 0, .int .u8 0, .int .u8 0, .int .u8 0, .int .u8 0, .int .u8 0, .int .u8 0, .int .u8 0] 38
          rw [hgs] at hg1
          have HG1 : Hid (w1.heap[g]? = some (.cells (secRow b 0) 38 (0, 0))) := hg1
          have HB1 := Lib.hid hb1
          have HBB := Lib.hid hb
          have HS := Lib.hid (show secsN ((bs.drop i).length / 8) (bs.drop i) = secOf b :: secsN ((bs.drop (i + 8)).length / 8) (bs.drop (i + 8)) by
            rw [← hb]
            have := secs_step (bs' := b) hb8 (by omega)
            rw [this, hb, List.drop_drop])
          clear hg1 hb1 hb hz1
          go_wp2
          go_loopw [9] (fun kv w' => ∃ k : Nat, kv = .int .i64 k ∧ k ≤ 8 ∧ Hid (w'.heap[g]? = some (.cells (secRow b k) 38 (0, 0))) ∧ Hid (Below wr.heap.size wr w')) (fun kv w' => 8 - (intOf kv).toNat)
          case atStart => exact ⟨0, rfl, Nat.zero_le _, HG1, HB1⟩
          case round =>
            obtain ⟨k, rfl, hk, hgk, hbk⟩ := hrel
            have hbw := hbl.out.trans (hbk.out.mono hbl.out.size)
            clear HG1 HB1 e1w
            by_cases hk8 : k < 8
            · have d2 : (k : Int) < 8 := by omega
              obtain ⟨x, hx, hcx, hx256, _⟩ := byte_at (H.out.below hbw) (k := i + k) (by omega)
              have vik : IntKind.i64.wrap ((i : Int) + (k : Int)) = ((i + k : Nat) : Int) := by rw [IntKind.wrap_i64]; omega
              obtain ⟨J, hJ⟩ : ∃ J, i + k = J := ⟨_, rfl⟩
              rw [hJ] at vik hcx hx
              have hJl : (J : Int) < (bs.length : Int) := by omega
              have hxb : b[k]? = some x := by rw [HBB.out, List.getElem?_drop, hJ]; exact hx
              have HXB := Lib.hid hxb
              clear hx hxb hJ
              go_wp2_with ((with_reducible refine Stop.store 5 ?hst ?_); (case hst => rfl))
              refine Stop.go ?_
              refine step_store_one rfl 5 (.tmp 36) (.tmp 35) rfl (g := g) (i := k) (by rfl) hgk.out (by rw [secRow_size hb8 (by omega)]; exact hk8) (v := B x) rfl inf5s rfl rfl ?_
              intro w4 hg4 hgr4 hz4
              rw [secRow_set hb8 hk8 HXB.out] at hg4
              have HG4 := Lib.hid hg4
              have HB4 := Lib.hid (hbk.out.grown hgr4 hbk.out.size (fun k hk => by cases hk; rw [hgs]; exact Nat.le_refl _))
              clear hg4 hgr4 hbw hcx
              go_wp2
              exact ⟨⟨k + 1, rfl, by omega, HG4, HB4⟩, by simp [intOf]; omega⟩
            · have d2 : ¬ (k : Int) < 8 := by omega
              obtain rfl : k = 8 := by omega
              have hat : SecAt wr ⟨g, 0, none⟩ (secOf b) := fun j u hj => by
                rw [Addr.add_lit, Nat.zero_add, cell_of_row _ _ j _ _ _ hgk.out, secRow_full hb8]
                simpa using hj
              have HAT := Lib.hid hat
              have HOW := Lib.hid (hO.out.below hbk.out)
              have HBW := Lib.hid hbw
              obtain ⟨s, hs⟩ : ∃ s, secOf b = s := ⟨_, rfl⟩
              rw [hs] at HAT
              have HSS := Lib.hid hs
              have vi8 : IntKind.i64.wrap ((i : Int) + 8) = ((i + 8 : Nat) : Int) := by rw [IntKind.wrap_i64]; omega
              clear hat hbw hs
              go_wp2_with ((with_reducible refine Stop.load 38 ?hst ?_); (case hst => rfl))
              refine Stop.go ?_
              refine step_load_sec (P := Try.prog) rfl (.tmp 8) rfl (s := s) rfl HAT.out ?_
              go_wp2_with (at_builtin; refine Stop.at ?_)
              refine Stop.go ?_
              have hba : Below wr.heap.size wr (wr.alloc (.cells s.cells.toArray 38)) := (Below.refl _ _).alloc (Nat.le_refl _) _
              refine step_append E22 rfl (.tmp 37) (.tmp 39) rfl w.heap.size rfl (HOW.out.alloc (.cells s.cells.toArray 38)) rfl (Secs.one wr s) rfl (oneCell_B _) (by omega) (by decide) (Nat.le_trans HBW.out.size hba.size) ?_
              intro v6 w6 ho6 hg6
              obtain ⟨T6, tc6, rfl⟩ := own_slice22 ho6
              obtain ⟨out6, hout6⟩ : ∃ y, y = out ++ [s] := ⟨_, rfl⟩
              have hl6 : out6.length = out.length + 1 := by rw [hout6, List.length_append]; rfl
              have HO6 := Lib.hid (show Own w6 w.heap.size 38 8 (.slice T6 out6.length tc6) out6.length ((flat out6).map B) by rw [hl6, hout6, flat_append, List.map_append]; exact ho6)
              have HB6 := Lib.hid ((HBW.out.trans (hba.mono HBW.out.size)).trans (hg6.below (HOW.out.alloc (.cells s.cells.toArray 38)) (Nat.le_trans HBW.out.size hba.size)))
              have HEQ := Lib.hid (show out6 ++ secsN ((bs.drop (i + 8)).length / 8) (bs.drop (i + 8)) = r2 by rw [← heq.out, HS.out, hout6, HSS.out]; simp)
              have q3 : out6.length * 8 ≤ i + 8 := by omega
              rw [← hl6]
              clear ho6 hg6 hba hout6 hl6
              go_wp2
              exact ⟨⟨i + 8, out6, T6, tc6, rfl, rfl, HEQ, by omega, h8, q3, HO6, HB6⟩, by simp [intOf]; omega⟩
        · have d1 : ¬ (i : Int) < (bs.length : Int) := by omega
          have hX : out = r2 := by
            have := heq.out
            rwa [List.drop_eq_nil_of_le (by omega), List.length_nil, Nat.zero_div, secsN, List.append_nil] at this
          have HX := Lib.hid hX
          clear hX
          go_wp2
          go_ret2
          have e := HX.out
          subst e
          exact ⟨T, tc, rfl, hO.out, hbl.out⟩
  · have b1 : ((R : Int) != 0) = true := by rw [bne_iff_ne]; omega
    rw [if_pos h0] at hr'
    obtain ⟨rfl, rfl⟩ : r1 = 3 ∧ r2 = [] := by cases hr'; exact ⟨rfl, rfl⟩
    clear hr'
    go_enter Try.func64, Try.ntmps64
    go_wp2
    go_ret2
    exact ⟨none, 0, rfl, Own.nil _ _ _ _, Below.refl _ _⟩
end Go.Proofs.Ytfdkhopionknaaa
end

section
namespace Go.Proofs.Ytfdkhopionknaaa
open Go.RowKit
set_option linter.unusedVariables false
set_option linter.unusedSimpArgs false

def unpackD (dict bs : List UInt8) (most : Int) : Nat × List Sec :=
  if most < 0 ∨ 4096 < most then (2, [])
  else if bs.length = 0 then (10, [])
  else if (bs.getD 0 0).toNat = 0 then sectorsD (bs.drop 1) most
  else if (bs.getD 0 0).toNat = 1 then decode (bs.drop 1) most
  else if (bs.getD 0 0).toNat = 2 then (if (decodeD dict (bs.drop 1) (8 * most)).1 ≠ 0 then ((decodeD dict (bs.drop 1) (8 * most)).1, []) else sectorsD (decodeD dict (bs.drop 1) (8 * most)).2 most)
  else (3, [])
theorem secs_nil (w : World) : Secs w none 0 [] := ⟨Nat.le_refl _, by decide, fun _ => ⟨rfl, rfl, rfl⟩, fun a ha => by cases ha⟩
theorem secres_lit {w w' : World} {r : Nat × List Sec} {e : Ending} (h : SecRes w r e w') : ∃ A c, e = .returned (.tuple #[.slice A r.2.length c, .int .i64 r.1]) ∧ Secs w' A c r.2 ∧ Below w.heap.size w w' := by
  obtain ⟨A, c, rfl, ho, hb⟩ := h
  obtain ⟨A', c', e, hr⟩ := ho.rd
  cases e
  exact ⟨A, c, rfl, hr, hb⟩
theorem dsec_lit (A : Option Addr) (c : Nat) (bs : List UInt8) (most : Int) (r : Nat × List Sec) (w : World) (hr : sectorsD bs most = r) (h : Bytes w A c bs) (hl : bs.length ≤ 1000000) :
    Calls Try.prog 63 #[.slice A bs.length c, .int .i64 most] w fun e w' => ∃ A c, e = .returned (.tuple #[.slice A r.2.length c, .int .i64 r.1]) ∧ Secs w' A c r.2 ∧ Below w.heap.size w w' := by
  refine (dsectors_calls A c bs most w h hl).mono ?_
  intro e w' hs
  rw [hr] at hs
  exact secres_lit hs
theorem refdsec_lit (A : Option Addr) (c : Nat) (bs : List UInt8) (most : Int) (r : Nat × List Sec) (w : World) (hr : sectorsD bs most = r) (h : Bytes w A c bs) (hl : bs.length ≤ 1000000) :
    Calls Try.prog 64 #[.slice A bs.length c, .int .i64 most] w fun e w' => ∃ A c, e = .returned (.tuple #[.slice A r.2.length c, .int .i64 r.1]) ∧ Secs w' A c r.2 ∧ Below w.heap.size w w' := by
  refine (refdsectors_calls A c bs most w h hl).mono ?_
  intro e w' hs
  rw [hr] at hs
  exact secres_lit hs
theorem refdecode_lit (A : Option Addr) (c : Nat) (bs : List UInt8) (most : Int) (w : World) (r : Nat × List Sec) (hr : decode bs most = r) (h : Bytes w A c bs) (hlen : bs.length ≤ 1099511627776) :
    Calls Try.prog 24 #[.slice A bs.length c, .int .i64 most] w fun e w' => ∃ A' c', e = .returned (.tuple #[.slice A' r.2.length c', .int .i64 r.1]) ∧ Hid (Secs w' A' c' r.2) ∧ Hid (Below w.heap.size w w') := by
  refine (refDecode_calls A c bs most w h hlen).mono ?_
  rintro e w' ⟨v, rfl, ho, hb⟩
  rw [hr] at ho ⊢
  obtain ⟨A', c', rfl, hrd⟩ := ho.rd
  exact ⟨A', c', rfl, hrd, hb⟩
theorem stepD_len (dl m : Nat) (bs a : List UInt8) (h : (stepD dl m bs a).1 = 0) (hdl : dl ≤ a.length) : (stepD dl m bs a).2.2.length ≤ dl + m ∧ dl ≤ (stepD dl m bs a).2.2.length := by
  unfold stepD at h ⊢
  split at h
  · cases h
  · rename_i hc0
    rw [if_neg hc0]
    split at h
    · rename_i hc
      rw [if_pos hc]
      split at h
      · cases h
      · rename_i h2
        rw [if_neg h2]
        split at h
        · cases h
        · rename_i h3
          rw [if_neg h3]
          simp only [List.length_append, List.length_take]
          omega
    · rename_i hc
      rw [if_neg hc]
      split at h
      · rename_i h2; exact absurd h h2
      · rename_i h2
        rw [if_neg h2]
        split at h
        · cases h
        · rename_i h3
          rw [if_neg h3]
          split at h
          · cases h
          · rename_i h4
            rw [if_neg h4]
            simp only [copyN_len]
            omega
theorem decT_len (dl m : Nat) (bs a : List UInt8) : ∀ q, a.length ≤ dl + m → dl ≤ a.length → decT dl m bs a = (0, q) → q.length ≤ m := by
  induction bs, a using decT.induct dl m with
  | case1 bs a h0 =>
    intro q h1 h2 h
    rw [decT_nil h0] at h
    cases h
    rw [List.length_drop]; omega
  | case2 bs a h0 hs ih =>
    intro q h1 h2 h
    rw [decT, dif_neg h0, dif_pos hs] at h
    obtain ⟨i1, i2⟩ := stepD_len dl m bs a hs h2
    exact ih q i1 i2 h
  | case3 bs a h0 hs =>
    intro q h1 h2 h
    rw [decT, dif_neg h0, dif_neg hs] at h
    exact absurd (congrArg Prod.fst h) hs
theorem decodeD_len {dict bs q : List UInt8} {M : Nat} (h : decodeD dict bs (M : Int) = (0, q)) (hM : M ≤ 40000) : q.length ≤ 1000000 := by
  unfold decodeD at h
  rw [if_neg (by omega), Int.toNat_natCast] at h
  have := decT_len dict.length M bs dict q (by omega) (Nat.le_refl _) h
  omega

set_option maxRecDepth 20000 in
set_option maxHeartbeats 6000000 in
theorem Unpack_lit (A1 A2 : Option Addr) (c1 c2 : Nat) (dict bs : List UInt8) (most : Int) (r : Nat × List Sec) (w : World) (hr : unpackD dict bs most = r) (h1 : Bytes w A1 c1 dict) (h2 : Bytes w A2 c2 bs) (hd : dict.length ≤ 10000) (hb : bs.length ≤ 100000) :
    Calls Try.prog 37 #[.slice A1 dict.length c1, .slice A2 bs.length c2, .int .i64 most] w fun e w' => ∃ A c, e = .returned (.tuple #[.slice A r.2.length c, .int .i64 r.1]) ∧ Secs w' A c r.2 ∧ Below w.heap.size w w' := by
  have H1 := Lib.hid h1
  have H2 := Lib.hid h2
  have HR := Lib.hid hr
  clear h1 h2 hr
  unfold unpackD at HR
  have hr := HR.out
  by_cases hm : most < 0 ∨ 4096 < most
  · rw [if_pos hm] at hr
    subst hr
    by_cases hneg : most < 0
    · go_enter Try.func37, Try.ntmps37
      go_wp2
      go_ret2
      exact ⟨none, 0, rfl, secs_nil _, Below.refl _ _⟩
    · have d1 : ¬ most < 0 := hneg
      have d2 : (4096 : Int) < most := by omega
      go_enter Try.func37, Try.ntmps37
      go_wp2
      go_ret2
      exact ⟨none, 0, rfl, secs_nil _, Below.refl _ _⟩
  · rw [if_neg hm] at hr
    obtain ⟨m, rfl⟩ : ∃ m : Nat, most = m := ⟨most.toNat, by omega⟩
    have d1 : ¬ (m : Int) < 0 := by omega
    have d2 : ¬ (4096 : Int) < (m : Int) := by omega
    have e1 : decide ((m : Int) < 0) = false := decide_eq_false d1
    have e2 : decide ((4096 : Int) < (m : Int)) = false := decide_eq_false d2
    have hm4 : m ≤ 4096 := by omega
    clear HR
    by_cases h0 : bs.length = 0
    · rw [if_pos h0] at hr
      subst hr
      have b0 : ((bs.length : Int) == 0) = true := by rw [beq_iff_eq]; omega
      go_enter Try.func37, Try.ntmps37
      go_wp2
      go_ret2
      exact ⟨none, 0, rfl, secs_nil _, Below.refl _ _⟩
    · rw [if_neg h0] at hr
      have b0 : ((bs.length : Int) == 0) = false := by rw [beq_eq_false_iff_ne]; omega
      obtain ⟨a, rfl⟩ := H2.out.some_of (show 0 < bs.length by omega)
      obtain ⟨x, hx, hcx, hx256, hdr⟩ := byte_at H2.out (show 0 < bs.length by omega)
      rw [show a.add 0 = a from by unfold Addr.add; simp] at hcx
      obtain ⟨A3, c3, b3, hb3, hsl0, hby⟩ := bslice_lo H2.out 1 (by omega)
      have hsl : ∀ w', (Instr.sliceAt 24 (.slice (some a) bs.length c2) (some (.int .i64 1)) none none).run Try.prog w' = .ok (.slice A3 b3.length c3) w' := hsl0
      have hcc : (bs.getD 0 0).toNat = x.toNat := by rw [List.getD, hx]; rfl
      have hl3 : b3.length ≤ 1000000 := by rw [hb3.out, List.length_drop]; omega
      obtain ⟨k, hk⟩ : ∃ k, x.toNat = k := ⟨_, rfl⟩
      rw [hk] at hcc hcx
      rw [hcc, ← hb3.out] at hr
      have HR := Lib.hid hr
      have HY3 := Lib.hid hby
      have v8 : IntKind.i64.wrap (8 * (m : Int)) = ((8 * m : Nat) : Int) := by rw [IntKind.wrap_i64]; omega
      obtain ⟨M8, hM8⟩ : ∃ M8, 8 * m = M8 := ⟨_, rfl⟩
      rw [hM8] at v8
      have HM8 := Lib.hid hM8
      have hm8 : M8 ≤ 40000 := by omega
      clear hx hdr hcc hk hr hby hsl0 hb3 hM8
      by_cases k0 : k = 0
      · subst k0
        have hr := HR.out
        rw [if_pos rfl] at hr
        have HR0 := Lib.hid hr
        clear hr
        go_enter Try.func37, Try.ntmps37
        go_wp2_with fail
        refine (dsec_lit A3 c3 b3 m _ w HR0.out HY3.out hl3).mono ?_
        rintro e w2 ⟨A4, c4, rfl, hs4, hb4⟩
        have HS4 := Lib.hid hs4
        have HB4 := Lib.hid hb4
        clear hs4 hb4
        go_wp2
        go_ret2
        exact ⟨A4, c4, rfl, HS4.out, HB4.out⟩
      · have k0b : ((k : Int) == 0) = false := by rw [beq_eq_false_iff_ne]; omega
        by_cases k1 : k = 1
        · subst k1
          have hr := HR.out
          rw [if_neg k0, if_pos rfl] at hr
          have HR0 := Lib.hid hr
          clear hr
          go_enter Try.func37, Try.ntmps37
          go_wp2_with fail
          refine (decode_lit A3 c3 b3 m w _ HR0.out HY3.out (by omega)).mono ?_
          rintro e w2 ⟨A4, c4, rfl, hs4, hb4⟩
          go_wp2
          go_ret2
          exact ⟨A4, c4, rfl, hs4.out, hb4.out⟩
        · have k1b : ((k : Int) == 1) = false := by rw [beq_eq_false_iff_ne]; omega
          by_cases k2 : k = 2
          · subst k2
            have hr := HR.out
            rw [if_neg k0, if_neg k1, if_pos rfl] at hr
            rw [show (8 * (m : Int)) = ((M8 : Nat) : Int) by have := HM8.out; omega] at hr
            obtain ⟨⟨q1, q2⟩, hq⟩ : ∃ q, decodeD dict b3 (M8 : Int) = q := ⟨_, rfl⟩
            rw [hq] at hr
            have HQ := Lib.hid hq
            have HR0 := Lib.hid hr
            clear hr hq
            go_enter Try.func37, Try.ntmps37
            go_wp2_with fail
            refine (dDec_lit A1 A3 c1 c3 dict b3 M8 _ w HQ.out H1.out HY3.out (by omega) (by omega) (by omega)).mono ?_
            rintro e w2 ⟨A4, c4, rfl, hs4, hb4⟩
            by_cases hq1 : q1 = 0
            · subst hq1
              have hr := HR0.out
              rw [if_neg (by simp)] at hr
              have HR1 := Lib.hid hr
              have be : ((0 : Int) != 0) = false := by decide
              have hq2 : q2.length ≤ 1000000 := decodeD_len HQ.out hm8
              clear hr
              go_wp2_with fail
              refine (dsec_lit A4 c4 q2 m _ w2 HR1.out hs4.out hq2).mono ?_
              rintro e w3 ⟨A5, c5, rfl, hs5, hb5⟩
              have HS5 := Lib.hid hs5
              have HB5 := Lib.hid (below_then hb4.out hb5)
              clear hs5 hb5
              go_wp2
              go_ret2
              exact ⟨A5, c5, rfl, HS5.out, HB5.out⟩
            · have hr := HR0.out
              rw [if_pos hq1] at hr
              subst hr
              have be : ((q1 : Int) != 0) = true := by rw [bne_iff_ne]; omega
              go_wp2
              go_ret2
              exact ⟨none, 0, rfl, secs_nil _, hb4.out⟩
          · have k2b : ((k : Int) == 2) = false := by rw [beq_eq_false_iff_ne]; omega
            have hr := HR.out
            rw [if_neg k0, if_neg k1, if_neg k2] at hr
            subst hr
            go_enter Try.func37, Try.ntmps37
            go_wp2
            go_ret2
            exact ⟨none, 0, rfl, secs_nil _, Below.refl _ _⟩

set_option maxRecDepth 20000 in
set_option maxHeartbeats 6000000 in
theorem refUnpack_lit (A1 A2 : Option Addr) (c1 c2 : Nat) (dict bs : List UInt8) (most : Int) (r : Nat × List Sec) (w : World) (hr : unpackD dict bs most = r) (h1 : Bytes w A1 c1 dict) (h2 : Bytes w A2 c2 bs) (hd : dict.length ≤ 10000) (hb : bs.length ≤ 100000) :
    Calls Try.prog 38 #[.slice A1 dict.length c1, .slice A2 bs.length c2, .int .i64 most] w fun e w' => ∃ A c, e = .returned (.tuple #[.slice A r.2.length c, .int .i64 r.1]) ∧ Secs w' A c r.2 ∧ Below w.heap.size w w' := by
  have H1 := Lib.hid h1
  have H2 := Lib.hid h2
  have HR := Lib.hid hr
  clear h1 h2 hr
  unfold unpackD at HR
  have hr := HR.out
  by_cases hm : most < 0 ∨ 4096 < most
  · rw [if_pos hm] at hr
    subst hr
    by_cases hneg : most < 0
    · go_enter Try.func38, Try.ntmps38
      go_wp2
      go_ret2
      exact ⟨none, 0, rfl, secs_nil _, Below.refl _ _⟩
    · have d1 : ¬ most < 0 := hneg
      have d2 : (4096 : Int) < most := by omega
      go_enter Try.func38, Try.ntmps38
      go_wp2
      go_ret2
      exact ⟨none, 0, rfl, secs_nil _, Below.refl _ _⟩
  · rw [if_neg hm] at hr
    obtain ⟨m, rfl⟩ : ∃ m : Nat, most = m := ⟨most.toNat, by omega⟩
    have d1 : ¬ (m : Int) < 0 := by omega
    have d2 : ¬ (4096 : Int) < (m : Int) := by omega
    have e1 : decide ((m : Int) < 0) = false := decide_eq_false d1
    have e2 : decide ((4096 : Int) < (m : Int)) = false := decide_eq_false d2
    have hm4 : m ≤ 4096 := by omega
    clear HR
    by_cases h0 : bs.length = 0
    · rw [if_pos h0] at hr
      subst hr
      have b0 : ((bs.length : Int) == 0) = true := by rw [beq_iff_eq]; omega
      go_enter Try.func38, Try.ntmps38
      go_wp2
      go_ret2
      exact ⟨none, 0, rfl, secs_nil _, Below.refl _ _⟩
    · rw [if_neg h0] at hr
      have b0 : ((bs.length : Int) == 0) = false := by rw [beq_eq_false_iff_ne]; omega
      obtain ⟨a, rfl⟩ := H2.out.some_of (show 0 < bs.length by omega)
      obtain ⟨x, hx, hcx, hx256, hdr⟩ := byte_at H2.out (show 0 < bs.length by omega)
      rw [show a.add 0 = a from by unfold Addr.add; simp] at hcx
      obtain ⟨A3, c3, b3, hb3, hsl0, hby⟩ := bslice_lo H2.out 1 (by omega)
      have hsl : ∀ w', (Instr.sliceAt 24 (.slice (some a) bs.length c2) (some (.int .i64 1)) none none).run Try.prog w' = .ok (.slice A3 b3.length c3) w' := hsl0
      have hcc : (bs.getD 0 0).toNat = x.toNat := by rw [List.getD, hx]; rfl
      have hl3 : b3.length ≤ 1000000 := by rw [hb3.out, List.length_drop]; omega
      obtain ⟨k, hk⟩ : ∃ k, x.toNat = k := ⟨_, rfl⟩
      rw [hk] at hcc hcx
      rw [hcc, ← hb3.out] at hr
      have HR := Lib.hid hr
      have HY3 := Lib.hid hby
      have v8 : IntKind.i64.wrap (8 * (m : Int)) = ((8 * m : Nat) : Int) := by rw [IntKind.wrap_i64]; omega
      obtain ⟨M8, hM8⟩ : ∃ M8, 8 * m = M8 := ⟨_, rfl⟩
      rw [hM8] at v8
      have HM8 := Lib.hid hM8
      have hm8 : M8 ≤ 40000 := by omega
      clear hx hdr hcc hk hr hby hsl0 hb3 hM8
      by_cases k0 : k = 0
      · subst k0
        have hr := HR.out
        rw [if_pos rfl] at hr
        have HR0 := Lib.hid hr
        clear hr
        go_enter Try.func38, Try.ntmps38
        go_wp2_with fail
        refine (refdsec_lit A3 c3 b3 m _ w HR0.out HY3.out hl3).mono ?_
        rintro e w2 ⟨A4, c4, rfl, hs4, hb4⟩
        have HS4 := Lib.hid hs4
        have HB4 := Lib.hid hb4
        clear hs4 hb4
        go_wp2
        go_ret2
        exact ⟨A4, c4, rfl, HS4.out, HB4.out⟩
      · have k0b : ((k : Int) == 0) = false := by rw [beq_eq_false_iff_ne]; omega
        by_cases k1 : k = 1
        · subst k1
          have hr := HR.out
          rw [if_neg k0, if_pos rfl] at hr
          have HR0 := Lib.hid hr
          clear hr
          go_enter Try.func38, Try.ntmps38
          go_wp2_with fail
          refine (refdecode_lit A3 c3 b3 m w _ HR0.out HY3.out (by omega)).mono ?_
          rintro e w2 ⟨A4, c4, rfl, hs4, hb4⟩
          go_wp2
          go_ret2
          exact ⟨A4, c4, rfl, hs4.out, hb4.out⟩
        · have k1b : ((k : Int) == 1) = false := by rw [beq_eq_false_iff_ne]; omega
          by_cases k2 : k = 2
          · subst k2
            have hr := HR.out
            rw [if_neg k0, if_neg k1, if_pos rfl] at hr
            rw [show (8 * (m : Int)) = ((M8 : Nat) : Int) by have := HM8.out; omega] at hr
            obtain ⟨⟨q1, q2⟩, hq⟩ : ∃ q, decodeD dict b3 (M8 : Int) = q := ⟨_, rfl⟩
            rw [hq] at hr
            have HQ := Lib.hid hq
            have HR0 := Lib.hid hr
            clear hr hq
            go_enter Try.func38, Try.ntmps38
            go_wp2_with fail
            refine (refdDec_lit A1 A3 c1 c3 dict b3 M8 _ w HQ.out H1.out HY3.out (by omega) (by omega) (by omega)).mono ?_
            rintro e w2 ⟨A4, c4, rfl, hs4, hb4⟩
            by_cases hq1 : q1 = 0
            · subst hq1
              have hr := HR0.out
              rw [if_neg (by simp)] at hr
              have HR1 := Lib.hid hr
              have be : ((0 : Int) != 0) = false := by decide
              have hq2 : q2.length ≤ 1000000 := decodeD_len HQ.out hm8
              clear hr
              go_wp2_with fail
              refine (refdsec_lit A4 c4 q2 m _ w2 HR1.out hs4.out hq2).mono ?_
              rintro e w3 ⟨A5, c5, rfl, hs5, hb5⟩
              have HS5 := Lib.hid hs5
              have HB5 := Lib.hid (below_then hb4.out hb5)
              clear hs5 hb5
              go_wp2
              go_ret2
              exact ⟨A5, c5, rfl, HS5.out, HB5.out⟩
            · have hr := HR0.out
              rw [if_pos hq1] at hr
              subst hr
              have be : ((q1 : Int) != 0) = true := by rw [bne_iff_ne]; omega
              go_wp2
              go_ret2
              exact ⟨none, 0, rfl, secs_nil _, hb4.out⟩
          · have k2b : ((k : Int) == 2) = false := by rw [beq_eq_false_iff_ne]; omega
            have hr := HR.out
            rw [if_neg k0, if_neg k1, if_neg k2] at hr
            subst hr
            go_enter Try.func38, Try.ntmps38
            go_wp2
            go_ret2
            exact ⟨none, 0, rfl, secs_nil _, Below.refl _ _⟩
end Go.Proofs.Ytfdkhopionknaaa
end

section
namespace Go.Proofs.Ytfdkhopionknaaa
open Go.RowKit
set_option linter.unusedVariables false

theorem decL_len (m : Nat) (n : Nat) : ∀ (bs : List UInt8) (out l : List Sec), bs.length = n → out.length ≤ m → decL m bs out = (0, l) → l.length ≤ m := by
  induction n using Nat.strongRecOn with
  | ind n ih =>
    intro bs out l hn ho h
    by_cases h0 : bs.length = 0
    · obtain rfl := List.eq_nil_of_length_eq_zero h0
      rw [decL_nil] at h
      cases h
      exact ho
    · by_cases he : (stepG m bs out).1 = 0
      · rw [decL_ok h0 he] at h
        exact ih _ (by have := stepG_dec m bs out he; omega) _ _ l rfl (step_out m bs out ho he) h
      · rw [decL_err h0 he] at h
        simp only [Prod.mk.injEq] at h
        exact absurd h.1 he
theorem decode_facts {bs : List UInt8} {most : Int} {er : Nat} {l : List Sec} (h : decode bs most = (er, l)) : (er ≠ 0 → l = []) ∧ (er = 0 → encode l = bs ∧ l.length ≤ mostN most) := by
  unfold decode at h
  obtain ⟨⟨e1, l1⟩, hd⟩ : ∃ r, decL (mostN most) bs [] = r := ⟨_, rfl⟩
  rw [hd] at h
  simp only at h
  by_cases h1 : e1 = 0
  · subst h1
    rw [if_neg (by simp)] at h
    by_cases h2 : encode l1 = bs
    · rw [if_pos h2] at h
      cases h
      exact ⟨fun hx => absurd rfl hx, fun _ => ⟨h2, decL_len _ _ bs [] _ rfl (Nat.zero_le _) hd⟩⟩
    · rw [if_neg h2] at h
      cases h
      exact ⟨fun _ => rfl, fun hx => by cases hx⟩
  · rw [if_pos h1] at h
    cases h
    exact ⟨fun _ => rfl, fun hx => absurd hx h1⟩
theorem decode_nil (most : Int) : decode [] most = (0, []) := by
  unfold decode
  rw [decL_nil]
  have : encode [] = [] := by unfold encode; rw [groupsAt_nil (by simp)]; rfl
  simp [this]
theorem mostN_le (most : Int) : mostN most ≤ 4096 := by unfold mostN; omega
theorem mostN_nat (m : Nat) (h : m ≤ 4096) : mostN (m : Int) = m := by unfold mostN; omega
end Go.Proofs.Ytfdkhopionknaaa
end

section
namespace Go.Proofs.Ytfdkhopionknaaa
open Go.RowKit
set_option linter.unusedVariables false
set_option linter.unusedSimpArgs false

theorem secsN_len : ∀ (n : Nat) (bs : List UInt8), (secsN n bs).length = n := by
  intro n
  induction n with
  | zero => intro bs; rfl
  | succ n ih => intro bs; simp [secsN, ih]
theorem sectorsD_len (bs : List UInt8) (most : Int) (h : most ≤ 4096) : (sectorsD bs most).2.length ≤ 4096 := by
  unfold sectorsD
  split
  · simp
  · split
    · simp
    · rw [secsN_len]; omega
theorem unpackD_len (dict bs : List UInt8) (most : Int) : (unpackD dict bs most).2.length ≤ 4096 := by
  unfold unpackD
  split
  · simp
  · rename_i hm
    have hm' : most ≤ 4096 := by omega
    split
    · simp
    · split
      · exact sectorsD_len _ _ hm'
      · split
        · obtain ⟨⟨e, l⟩, hd⟩ : ∃ r, decode (bs.drop 1) most = r := ⟨_, rfl⟩
          have hf := decode_facts hd
          rw [hd]
          by_cases he : e = 0
          · have := (hf.2 he).2
            have := mostN_le most
            show l.length ≤ 4096
            omega
          · rw [hf.1 he]; simp
        · split
          · split
            · simp
            · exact sectorsD_len _ _ hm'
          · simp

set_option maxRecDepth 20000 in
set_option maxHeartbeats 4000000 in
theorem dunpacks_calls (A1 A2 : Option Addr) (c1 c2 : Nat) (dict b : List UInt8) (most : Int) (w : World) (h1 : Bytes w A1 c1 dict) (h2 : Bytes w A2 c2 b) :
    Calls Try.prog 16 #[.slice A1 dict.length c1, .slice A2 b.length c2, .int .i64 most] w fun e w' => e = .returned (.bool true) ∧ Below w.heap.size w w' := by
  have H1 := Lib.hid h1
  have H2 := Lib.hid h2
  clear h1 h2
  by_cases hs : dict.length ≤ 400 ∧ b.length ≤ 400
  · have hR : decide (∀ t ∈ [(A1, dict.length, c1), (A2, b.length, c2)], t.2.1 ≤ 400) = true := by simp; omega
    have HR := Lib.hid hR
    have hs1 := hs.1
    have hs2 := hs.2
    have main : ∀ (g1 g2 : Bool), decide ((300 : Int) < most) = g1 → decide (most ≤ (4096 : Int)) = g2 → (g1 && g2) = false → Calls Try.prog 16 #[.slice A1 dict.length c1, .slice A2 b.length c2, .int .i64 most] w fun e w' => e = .returned (.bool true) ∧ Below w.heap.size w w' := by
      intro g1 g2 hg1 hg2 hg
      obtain ⟨⟨r1, r2⟩, hr⟩ : ∃ r, unpackD dict b most = r := ⟨_, rfl⟩
      have hlen : r2.length ≤ 1099511627776 := by
        have := unpackD_len dict b most
        rw [hr] at this
        exact Nat.le_trans this (by decide)
      have HRR := Lib.hid hr
      clear hR hr hs
      go_enter Try.func16, Try.ntmps16
      go_wp2_with fail
      refine (small_lit [(A1, dict.length, c1), (A2, b.length, c2)] w true (by simp) HR.out).mono ?_
      rintro e w1 ⟨rfl, hb1⟩
      have hor : g1 = false ∨ (g1 = true ∧ g2 = false) := by cases g1 <;> cases g2 <;> simp_all
      rcases hor with rfl | ⟨rfl, rfl⟩
      all_goals
        go_wp2_with fail
        refine (Unpack_lit A1 A2 c1 c2 dict b most _ w1 HRR.out (H1.out.below hb1.out) (H2.out.below hb1.out) (by omega) (by omega)).mono ?_
        rintro e w3 ⟨A3, c3, rfl, hA3, hb3⟩
        have HA3 := Lib.hid hA3
        have HB3 := Lib.hid (below_then hb1.out hb3)
        clear hA3 hb3
        go_wp2_with fail
        refine (refUnpack_lit A1 A2 c1 c2 dict b most _ w3 HRR.out (H1.out.below HB3.out) (H2.out.below HB3.out) (by omega) (by omega)).mono ?_
        rintro e w4 ⟨A4, c4, rfl, hA4, hb4⟩
        have HB4 := Lib.hid (below_then HB3.out hb4)
        have HA34 := Lib.hid (HA3.out.below hb4)
        have HA4 := Lib.hid hA4
        clear hA4 hb4
        go_wp2_with fail
        refine (awake6_calls w4).mono ?_
        rintro e w5 ⟨rfl, hb5⟩
        have HB5 := Lib.hid (below_then HB4.out hb5)
        have HA35 := Lib.hid (HA34.out.below hb5)
        have HA45 := Lib.hid (HA4.out.below hb5)
        clear hb5
        go_wp2_with fail
        refine (same6_calls A3 A4 c3 c4 r2 r2 w5 HA35.out HA45.out hlen hlen).mono ?_
        rintro e w6 ⟨rfl, n, rfl⟩
        rw [decide_eq_true rfl]
        go_wp2
        go_ret
        exact ⟨rfl, below_drews HB5.out n⟩
    by_cases hm : most ≤ 300
    · exact main false (decide (most ≤ 4096)) (decide_eq_false (by omega)) rfl rfl
    · by_cases hm2 : most ≤ 4096
      · have bm : (300 : Int) < most := by omega
        clear hR hs main
        go_enter Try.func16, Try.ntmps16
        go_wp2_with fail
        refine (small_lit [(A1, dict.length, c1), (A2, b.length, c2)] w true (by simp) HR.out).mono ?_
        rintro e w1 ⟨rfl, hb1⟩
        go_wp2_with fail
        refine (awake6_calls w1).mono ?_
        rintro e w2 ⟨rfl, hb2⟩
        have HB2 := Lib.hid (below_then hb1.out hb2)
        clear hb1 hb2
        go_wp2
        go_ret
        exact ⟨rfl, HB2.out⟩
      · exact main true false (decide_eq_true (by omega)) (decide_eq_false hm2) rfl
  · have hR : decide (∀ t ∈ [(A1, dict.length, c1), (A2, b.length, c2)], t.2.1 ≤ 400) = false := by simp; omega
    have HR := Lib.hid hR
    clear hR hs
    go_enter Try.func16, Try.ntmps16
    go_wp2_with fail
    refine (small_lit [(A1, dict.length, c1), (A2, b.length, c2)] w false (by simp) HR.out).mono ?_
    rintro e w1 ⟨rfl, hb1⟩
    go_wp2_with fail
    refine (awake6_calls w1).mono ?_
    rintro e w2 ⟨rfl, hb2⟩
    have HB2 := Lib.hid (below_then hb1.out hb2)
    clear hb1 hb2
    go_wp2
    go_ret
    exact ⟨rfl, HB2.out⟩
end Go.Proofs.Ytfdkhopionknaaa
end

section
namespace Go.Proofs.Ytfdkhopionknaaa
open Go.ChangeShapes Go.WideShapes Go.ChangeAt Go.RowKit Go.Deep
set_option linter.unusedVariables false

theorem Try.own : ownKnob Try.prog.godebug = none := by kernel_rfl
theorem Try.laidOut : laidOutB Try.prog = true := by kernel_rfl
theorem Try.cells5 : Try.prog.cellsOf 5 = 1 := by kernel_rfl
theorem Try.cells38 : Try.prog.cellsOf 38 = 8 := by kernel_rfl

section
variable {H : Type} {enc : TypeId × Value → H} {W : World} {base : Nat} {v : Value} {d : DataW H} {p : List MemPlace}

set_option maxRecDepth 100000 in
theorem open_bytes (hval : Value.okWide Try.prog W .any base 24 v) (h : DataW.Trod enc Try.prog W 0 (fun _ => true) true 24 v d p) :
    ∃ A c bs, v = .slice A bs.length c ∧ Bytes W A c bs := by
  obtain ⟨a1, len, cap, rfl⟩ := okWide_slice Try.underlying24 hval
  obtain ⟨fuel, hf⟩ := h
  rcases open_ints Try.underlying24 Try.underlying5 Try.cells5 hf with ⟨hcs, hx⟩ | ⟨a, len', cap', zs, hcs, _, hl, hm, hz, hx, hcell, hwz⟩
  · simp [Value.cells] at hcs
    obtain ⟨rfl, rfl, rfl⟩ := hcs
    exact ⟨none, 0, [], rfl, Nat.le_refl _, by decide, fun _ => ⟨rfl, rfl, rfl⟩, fun a ha => by cases ha⟩
  · simp [Value.cells] at hcs
    obtain ⟨rfl, rfl, rfl⟩ := hcs
    simp only [if_true] at hz
    have hlen : ((zs.take len).map fun n => UInt8.ofNat n.toNat).length = len := by simp; omega
    refine ⟨some a, cap, (zs.take len).map fun n => UInt8.ofNat n.toNat, by rw [hlen], ?_⟩
    unfold Bytes
    rw [hlen]
    refine ⟨hl, hm, (fun e => by cases e), fun b hb j u hj => ?_⟩
    cases hb
    have hjl : j < len := by
      rcases Nat.lt_or_ge j len with h | h
      · exact h
      · rw [List.getElem?_eq_none (by simp; omega)] at hj; cases hj
    have hc := hcell j (by omega)
    have hb := bounds_u8 (hwz zs[j] (List.getElem_mem (by omega)))
    have e : zs.getD j 0 = zs[j]'(by omega) := by simp [List.getD, List.getElem?_eq_getElem (show j < zs.length by omega)]
    rw [e] at hc
    rw [hc, ← hj]
    simp [List.getElem?_take, hjl, List.getElem?_eq_getElem (show j < zs.length by omega), B]
    omega

theorem open_sec {fuel base : Nat} {spare : Nat → Bool} {held : Bool} {cs : List Value} {x : DataW H × List MemPlace} (h : DataW.trod enc Try.prog W base spare held fuel 38 cs = some x) : ∃ s : Sec, cs = s.cells := by
  obtain ⟨xs, m, _, _, hl, hn, hi⟩ := DataW.trod_array Try.underlying38 h
  rw [Try.cells38] at hl
  rw [Try.cells5] at hi
  have one : ∀ i, i < 8 → ∃ b : UInt8, cs[i]? = some (B b) := by
    intro i hlt
    have := hi i hlt
    rw [List.getElem?_eq_getElem (by omega)] at this
    obtain ⟨n, hcs, _, hw⟩ := DataW.trod_int Try.underlying5 this
    have hb := bounds_u8 hw
    refine ⟨UInt8.ofNat n.toNat, ?_⟩
    have h2 : ((cs.drop (i * 1)).take 1)[0]? = some (.int .u8 n) := by rw [hcs]; rfl
    rw [List.getElem?_take, if_pos (by omega), List.getElem?_drop] at h2
    simp only [Nat.mul_one, Nat.add_zero] at h2
    rw [h2]
    simp [B]
    omega
  obtain ⟨b0, h0⟩ := one 0 (by omega)
  obtain ⟨b1, h1⟩ := one 1 (by omega)
  obtain ⟨b2, h2⟩ := one 2 (by omega)
  obtain ⟨b3, h3⟩ := one 3 (by omega)
  obtain ⟨b4, h4⟩ := one 4 (by omega)
  obtain ⟨b5, h5⟩ := one 5 (by omega)
  obtain ⟨b6, h6⟩ := one 6 (by omega)
  obtain ⟨b7, h7⟩ := one 7 (by omega)
  refine ⟨⟨b0, b1, b2, b3, b4, b5, b6, b7⟩, ?_⟩
  match cs, hl with
  | [c0, c1, c2, c3, c4, c5, c6, c7], _ =>
    simp at h0 h1 h2 h3 h4 h5 h6 h7
    subst h0 h1 h2 h3 h4 h5 h6 h7
    rfl

set_option maxRecDepth 100000 in
theorem open_secs (hval : Value.okWide Try.prog W .any base 22 v) (h : DataW.Trod enc Try.prog W 0 (fun _ => true) true 22 v d p) :
    ∃ A c xs, v = .slice A xs.length c ∧ Secs W A c xs := by
  obtain ⟨a1, len, cap, rfl⟩ := okWide_slice Try.underlying22 hval
  obtain ⟨fuel, hf⟩ := h
  rcases open_slice Try.underlying22 hf with ⟨hcs, hx⟩ | ⟨a, len', cap', m, n, D, Pl, hcs, _, hl, hm, hmm, hx, hel⟩
  · simp [Value.cells] at hcs
    obtain ⟨rfl, rfl, rfl⟩ := hcs
    exact ⟨none, 0, [], rfl, Nat.le_refl _, by decide, fun _ => ⟨rfl, rfl, rfl⟩, fun a ha => by cases ha⟩
  · simp [Value.cells] at hcs
    obtain ⟨rfl, rfl, rfl⟩ := hcs
    simp only [if_true] at hmm
    rw [Try.cells38] at hel
    have he : ∀ i, i < len → ∃ s : Sec, ∀ j u, s.cells[j]? = some u → W.cell? (a.add (i * 8 + j)) = some u := by
      intro i hi
      obtain ⟨cs', h1, h2⟩ := hel i (by omega)
      obtain ⟨s, rfl⟩ := open_sec h2
      obtain ⟨_, _, h3⟩ := World.cells?_some h1
      refine ⟨s, fun j u hj => ?_⟩
      have hj8 : j < 8 := (List.getElem?_eq_some_iff.1 hj).1
      have := h3 j hj8
      rw [Addr.add_add'] at this
      rw [this, hj]
    haveI : Inhabited Sec := ⟨Sec.zero⟩
    obtain ⟨f, hfs⟩ := choose_lt he
    have hlen : ((List.range len).map f).length = len := by simp
    refine ⟨some a, cap, (List.range len).map f, by rw [hlen], ?_⟩
    unfold Secs
    rw [hlen]
    refine ⟨hl, hm, (fun e => by cases e), fun b hb j u hj => ?_⟩
    cases hb
    have hjl : j < 8 * len := by
      rcases Nat.lt_or_ge j (8 * len) with h | h
      · exact h
      · rw [List.getElem?_eq_none (by rw [List.length_map, flat_length, hlen]; omega)] at hj; cases hj
    have hs : ((List.range len).map f)[j / 8]? = some (f (j / 8)) := by simp [List.getElem?_eq_getElem (show j / 8 < (List.range len).length by simp; omega)]
    have hg := flat_get _ (j / 8) (j % 8) _ hs (by omega)
    rw [show j / 8 * 8 + j % 8 = j by omega] at hg
    rw [List.getElem?_map, hg] at hj
    have := hfs (j / 8) (by omega) (j % 8) u (by simpa [Sec.cells] using hj)
    rw [show j / 8 * 8 + j % 8 = j by omega] at this
    exact this
end
end Go.Proofs.Ytfdkhopionknaaa
end

section
namespace Go.Proofs.Ytfdkhopionknaaa
open Go.ChangeShapes Go.WideShapes Go.ChangeAt Go.RowKit
set_option linter.unusedVariables false

theorem und3r : Try.prog.underlying 3 = some (.int .i64) := by kernel_rfl
set_option maxRecDepth 100000 in
theorem dunpacks_lifted (os : Os) (started : os.Started) (H : Type) (enc : TypeId × Value → H) :
    ReturnsInHanded {} Try.checked os 16 .any (Rows.dictionaryUnpacksSpec.pre6 enc Try.prog Try.f16 Rows.dictionaryUnpacksRow.domain false) (Rows.dictionaryUnpacksSpec.post enc Try.prog Try.f16 false true false false) := by
  refine returnsInHanded_of_change (C := Try.checked) Try.own started (by kernel_rfl) Try.func16
    (ChangeSpec.witness6 (enc := enc) (C := Try.checked) false ⟨#[], #[.slice none 0 0, .slice none 0 0, .int .i64 0], []⟩ 8 (by kernel_rfl) (by kernel_rfl) (by kernel_rfl) (by kernel_rfl)) ?_
  intro W base args ds gs before hval0 hW hcnd _
  have hval : ∀ (j : Nat) t v, Try.f16.params[j]? = some t → args[j]? = some v → Value.okWide Try.prog W .any base t v := hval0
  have hW' := hW
  obtain ⟨p, q, hA0, hV, rfl, hfz, hnd⟩ := hW
  have hA : DataW.TrodAll enc Try.prog W 0 (fun _ => true) true Try.f16.params.toList args.toList ds p := hA0
  rw [Try.params16] at hA hval
  obtain ⟨v0, v1, v2, d0, d1, d2, p0, p1, p2, rfl, rfl, rfl, h0, h1, h2⟩ := trodAll_three hA
  obtain ⟨rfl, rfl⟩ := trodVars_none hV
  obtain ⟨A0, c0, b0, rfl, hy0⟩ := open_bytes (hval 0 24 v0 rfl rfl) h0
  obtain ⟨A1, c1, b1, rfl, hy1⟩ := open_bytes (hval 1 24 v1 rfl rfl) h1
  obtain ⟨m2, rfl, rfl, rfl, wb2⟩ := open_int und3r (hval 2 3 v2 rfl rfl) h2
  clear hA0 hval0
  simp only [List.append_nil] at hW'
  have hlt : ∀ x ∈ p0 ++ p1, x.block < W.heap.size := fun x hx => by simpa using hW'.lt x (by simpa using hx)
  refine (dunpacks_calls A0 A1 c0 c1 b0 b1 m2 W hy0 hy1).mono fun e W' ⟨he, hb⟩ => ?_
  subst he
  refine ⟨_, rfl, _, _, _, [], p0 ++ p1, [], hW', ?_, ?_, rfl, hb.frame _, fun h => by cases h⟩
  · exact trodAll_mk1 (shut_bool Try.underlying4 true)
  · have g0 : DataW.Trod enc Try.prog W' 0 (fun b => decide (b < W.heap.size)) true 24 (.slice A0 b0.length c0) d0 p0 :=
      Below.trod Try.laidOut (by kernel_rfl) (of_decide_eq_true (by kernel_rfl)) h0 hb (fun x hx => hlt x (by simp [hx]))
    have g1 : DataW.Trod enc Try.prog W' 0 (fun b => decide (b < W.heap.size)) true 24 (.slice A1 b1.length c1) d1 p1 :=
      Below.trod Try.laidOut (by kernel_rfl) (of_decide_eq_true (by kernel_rfl)) h1 hb (fun x hx => hlt x (by simp [hx]))
    have := trodAll_mk3 g0 g1 (shut_int (k := .i64) (enc := enc) (P := Try.prog) (w := W') (base := 0) (spare := fun b => decide (b < W.heap.size)) (held := true) und3r wb2)
    first | exact this | (simp only [List.append_nil] at this; exact this) | (simp only [List.append_nil, ← List.append_assoc] at this; exact this)

theorem dunpacks_holds : Rows.DictionaryUnpacksSaid :=
  OpenClaim.holds_of_wide 16 Try.f16 rfl rfl rfl rfl rfl rfl rfl ⟨rfl, rfl, rfl, rfl, rfl⟩ rfl rfl rfl rfl rfl (by kernel_rfl) Try.func16 (by kernel_rfl)
    (of_decide_eq_true (by kernel_rfl)) (by unfold Func.isWrapper; first | (rw [if_pos (by decide +kernel)]; kernel_rfl) | (rw [if_neg (by decide +kernel)]; exact ⟨rfl, rfl⟩))
    (fun os started H enc _ => dunpacks_lifted os started H enc)

end Go.Proofs.Ytfdkhopionknaaa
end
