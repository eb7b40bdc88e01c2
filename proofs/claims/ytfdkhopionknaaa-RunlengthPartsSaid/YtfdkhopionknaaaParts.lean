/- RunlengthParts: the walk. -/
import Derived.Test.YtfdkhopionknaaaFinds
import Derived.Test.YtfdkhopionknaaaEncR
namespace Go.Proofs.Ytfdkhopionknaaa
open Go.RowKit
set_option linter.unusedVariables false
set_option linter.unusedSimpArgs false
attribute [local go_sem ↓] run_eql_sec run_neq_sec
attribute [local go_sem] isSec_secV unSec_secV isSec_zero unSec_zero

theorem runFrom_get (s : Sec) (l : List Sec) : (∀ i, i < runFrom s l → l[i]? = some s) ∧ l[runFrom s l]? ≠ some s := by
  induction l with
  | nil => exact ⟨fun i hi => absurd hi (by simp [runFrom]), by simp⟩
  | cons x l ih =>
    by_cases h : x = s
    · subst h
      rw [runFrom_yes]
      refine ⟨fun i hi => ?_, by simpa using ih.2⟩
      cases i with
      | zero => rfl
      | succ i => simpa using ih.1 i (by omega)
    · rw [runFrom_no l h]
      exact ⟨fun i hi => absurd hi (by omega), by simpa using h⟩
/-- A run: its neighbours inside are equal; behind it stands another. -/
theorem runAt_get {xs : List Sec} {j R : Nat} (h : j < xs.length) (hr : runAt (xs.drop j) = R) : (∀ p, j < p → p < j + R → xs[p]? = xs[p - 1]?) ∧ (xs[j + R]? ≠ xs[j + R - 1]?) := by
  have hd : xs.drop j = xs[j] :: xs.drop (j + 1) := List.drop_eq_getElem_cons h
  rw [hd, runAt] at hr
  subst hr
  obtain ⟨h1, h2⟩ := runFrom_get xs[j] (xs.drop (j + 1))
  have all : ∀ p, j ≤ p → p < j + (runFrom xs[j] (xs.drop (j + 1)) + 1) → xs[p]? = some xs[j] := by
    intro p hp hq
    by_cases e : p = j
    · subst e; exact List.getElem?_eq_getElem h
    · have := h1 (p - (j + 1)) (by omega)
      rw [List.getElem?_drop] at this
      rwa [show j + 1 + (p - (j + 1)) = p by omega] at this
  refine ⟨fun p hp hq => by rw [all p (by omega) hq, all (p - 1) (by omega) (by omega)], ?_⟩
  rw [all (j + (runFrom xs[j] (xs.drop (j + 1)) + 1) - 1) (by omega) (by omega)]
  rw [List.getElem?_drop] at h2
  rwa [show j + (runFrom xs[j] (xs.drop (j + 1)) + 1) = j + 1 + runFrom xs[j] (xs.drop (j + 1)) by omega]

/-- No run from a place on: all neighbours differ. -/
theorem runs_none (xs : List Sec) (j : Nat) (hb : 1 ≤ j → xs[j]? ≠ xs[j - 1]? ∨ xs.length ≤ j) (h : runsAt xs j = []) : ∀ p, j ≤ p → 1 ≤ p → p < xs.length → xs[p]? ≠ xs[p - 1]? := by
  induction j using runsAt.induct xs with
  | case1 j hlt ih =>
    intro p hp h1 hl
    by_cases e : p = j
    · subst e
      rcases hb h1 with h | h
      · exact h
      · omega
    · by_cases h2 : 2 ≤ runAt (xs.drop j)
      · rw [runsAt_two hlt rfl h2] at h; cases h
      · have h3 := runAt_pos (xs.drop j)
        obtain ⟨_, g2⟩ := runAt_get hlt rfl
        rw [runsAt_one hlt rfl h2] at h
        exact ih (fun _ => .inl g2) h p (by omega) h1 hl
  | case2 j hlt =>
    intro p hp h1 hl
    omega
/-- The first run from a place on. -/
theorem runs_head (xs : List Sec) (j s n : Nat) (rest : List (Nat × Nat)) (hb : 1 ≤ j → xs[j]? ≠ xs[j - 1]? ∨ xs.length ≤ j) (h : runsAt xs j = (s, n) :: rest) :
    j ≤ s ∧ 2 ≤ n ∧ s + n ≤ xs.length ∧ rest = runsAt xs (s + n) ∧ (xs[s + n]? ≠ xs[s + n - 1]?) ∧ (∀ p, j ≤ p → p ≤ s → 1 ≤ p → xs[p]? ≠ xs[p - 1]?) ∧ (∀ p, s < p → p < s + n → xs[p]? = xs[p - 1]?) := by
  induction j using runsAt.induct xs with
  | case1 j hlt ih =>
    obtain ⟨g1, g2⟩ := runAt_get hlt rfl
    have h3 := runAt_pos (xs.drop j)
    have h4 := runAt_le (xs.drop j) (by intro e; have := congrArg List.length e; simp at this; omega)
    rw [List.length_drop] at h4
    have hj : 1 ≤ j → xs[j]? ≠ xs[j - 1]? := fun h1 => (hb h1).resolve_right (by omega)
    by_cases h2 : 2 ≤ runAt (xs.drop j)
    · rw [runsAt_two hlt rfl h2] at h
      simp only [List.cons.injEq, Prod.mk.injEq] at h
      obtain ⟨⟨rfl, rfl⟩, rfl⟩ := h
      exact ⟨Nat.le_refl _, h2, by omega, rfl, g2, fun p hp hq h1 => by rw [show p = j by omega] at h1 ⊢; exact hj h1, g1⟩
    · rw [runsAt_one hlt rfl h2] at h
      obtain ⟨a, b, c, d, e, f, g⟩ := ih (fun _ => .inl g2) h
      refine ⟨by omega, b, c, d, e, fun p hp hq h1 => ?_, g⟩
      by_cases e : p = j
      · subst e; exact hj h1
      · exact f p (by omega) hq h1
  | case2 j hlt => rw [runsAt_nil hlt] at h; cases h

/-- A row of truth values. -/
def boolRow (L : Nat) (f : Nat → Bool) : Array Value := ((List.range L).map fun q => Value.bool (f q)).toArray
theorem boolRow_size (L : Nat) (f : Nat → Bool) : (boolRow L f).size = L := by simp [boolRow]
theorem boolRow_get {L : Nat} {f : Nat → Bool} {p : Nat} (hp : p < L) : (boolRow L f)[p]? = some (.bool (f p)) := by simp [boolRow, hp]
theorem boolRow_set {L : Nat} {f f' : Nat → Bool} {p : Nat} (h : ∀ q, q < L → f' q = if q = p then true else f q) : (boolRow L f).setIfInBounds p (.bool true) = boolRow L f' := by
  apply Array.ext_getElem?
  intro i
  rw [Array.getElem?_setIfInBounds]
  by_cases hi : i < L
  · rw [boolRow_get hi, boolRow_get hi, h i hi, boolRow_size]
    by_cases e : p = i
    · subst e; simp [hi]
    · rw [if_neg e, if_neg (fun x => e x.symm)]
  · have h1 : (boolRow L f')[i]? = none := Array.getElem?_eq_none (by rw [boolRow_size]; omega)
    have h2 : (boolRow L f)[i]? = none := Array.getElem?_eq_none (by rw [boolRow_size]; omega)
    rw [h1, h2, boolRow_size]
    split
    · rw [if_neg (by omega)]
    · rfl
theorem inf4 : (Try.prog.info? 4).map (fun i => (i.zero, i.size, i.bytes)) = some (some (.bool false), 1, 1) := by kernel_rfl
theorem E44 : Elem Try.prog 44 4 1 1 := by
  obtain ⟨i, hi, hz, hs, hb⟩ := info_parts inf4
  exact ⟨Try.underlying44, ⟨i, _, hi, hz, hs, hb, rfl⟩, by decide⟩
/-- Which places stand behind an equal sector, as far as j. -/
def Marks (xs : List Sec) (j : Nat) (f : Nat → Bool) : Prop := ∀ q, q < xs.length → f q = decide (1 ≤ q ∧ q < j ∧ xs[q]? = xs[q - 1]?)
theorem Marks.start (xs : List Sec) : Marks xs 0 (fun _ => false) := by
  intro q hq
  simp
theorem Marks.step {xs : List Sec} {j a n : Nat} {f f' : Nat → Bool} (h : Marks xs j f) (hj : j ≤ a) (h1 : ∀ p, j ≤ p → p ≤ a → 1 ≤ p → xs[p]? ≠ xs[p - 1]?) (h2 : ∀ p, a < p → p < a + n → xs[p]? = xs[p - 1]?)
    (hf : ∀ q, q < xs.length → f' q = (f q || decide (a < q ∧ q < a + n))) : Marks xs (a + n) f' := by
  intro q hq
  rw [hf q hq, h q hq]
  by_cases c1 : q < j
  · simp [c1, show ¬ a < q by omega, show q < a + n by omega]
  · by_cases c2 : q ≤ a
    · by_cases c0 : 1 ≤ q
      · have := h1 q (by omega) c2 c0
        simp [c1, this, show ¬ a < q by omega]
      · simp [c0, show ¬ a < q by omega]
    · by_cases c3 : q < a + n
      · have := h2 q (by omega) c3
        simp [this, c3, show a < q by omega, show 1 ≤ q by omega]
      · simp [c1, c3]
theorem Marks.end {xs : List Sec} {j : Nat} {f : Nat → Bool} (h : Marks xs j f) (h1 : ∀ p, j ≤ p → 1 ≤ p → p < xs.length → xs[p]? ≠ xs[p - 1]?) {q : Nat} (hq : q < xs.length) (h0 : 1 ≤ q) {s0 s1 : Sec} (e1 : xs[q]? = some s1) (e0 : xs[q - 1]? = some s0) :
    f q = decide (s1 = s0) := by
  rw [h q hq]
  by_cases c1 : q < j
  · simp [h0, c1, e1, e0]
  · have := h1 q (by omega) h0 hq
    rw [e1, e0] at this
    have : s1 ≠ s0 := fun e => this (by rw [e])
    simp [c1, this]
theorem run_make44 (n : Nat) (hn : n ≤ 65536) (w : World) : (Instr.makeSlice 44 (.int .i64 n) (.int .i64 n)).run Try.prog w = .ok (.slice (some ⟨w.heap.size, 0, none⟩) n n) (w.alloc (.cells (boolRow n (fun _ => false)) 4)) := by
  obtain ⟨i, hi, hz, hs, hb⟩ := info_parts inf4
  have h := run_make (P := Try.prog) w 44 4 i _ Try.underlying44 hi hz .i64 .i64 n n (by omega) (Int.le_refl _) (by rw [hb]; omega) (by omega)
  have e2 : madeCells (Value.bool false).cells (n * i.size) = boolRow n (fun _ => false) := by
    rw [hs]
    apply Array.ext_getElem?
    intro k
    by_cases hk : k < n
    · rw [boolRow_get hk]; simp [madeCells, Value.cells, hk, Nat.mod_one]
    · rw [Array.getElem?_eq_none (by simp [size_madeCells]; omega), Array.getElem?_eq_none (by rw [boolRow_size]; omega)]
  rw [← e2]
  simpa using h
theorem agg4 (w : World) : (isAgg 4).run Try.prog w = .ok false w := by
  unfold isAgg
  rw [Sem.run_bind, run_underlying Try.underlying4 w]
  rfl
theorem quiet_bool {o : Oper} {a : Act} {W : World} {K : Act → Prop} {x : Operand} {ad : Addr} {b : Bool} (ho : o.op = .load 4 x) (hx : a.eval x = .pointer (some ad)) (hs : W.cell? ad = some (.bool b)) (hk : K (a.put o.dst (.bool b))) :
    o.quiet Try.prog a (fun w' => ∃ n, w' = W.drewN n) K := by
  refine quiet_val (.bool b) ?_ hk
  rintro w ⟨n, rfl⟩
  have hc : (W.drewN n).cell? ad = some (.bool b) := hs
  have hv : (loadVar 4 ad).run Try.prog (W.drewN n) = .ok (.bool b) (W.drewN n) := by
    simp [loadVar, agg4, hc, Sem.run_bind]
  simp [execOp, ho, Instr.loadAt, Instr.sureAddr, hx, hv]
theorem inf46s : (Try.prog.info? 46).map (·.size) = some 2 := by kernel_rfl
theorem inf4s : (Try.prog.info? 4).map (·.size) = some 1 := by kernel_rfl

set_option maxRecDepth 20000 in
set_option maxHeartbeats 6000000 in
theorem parts_calls (A : Option Addr) (c : Nat) (xs : List Sec) (w : World) (h : Secs w A c xs) :
    Calls Try.prog 9 #[.slice A xs.length c] w fun e w' => e = .returned (.bool true) ∧ Below w.heap.size w w' := by
  by_cases hbig : 300 < xs.length
  · have b1 : (300 : Int) < (xs.length : Int) := by omega
    go_enter Try.func9, Try.ntmps9
    go_wp2_with fail
    refine (awake_calls w).mono ?_
    rintro e w1 ⟨rfl, hb1⟩
    go_wp2
    go_ret
    exact ⟨rfl, hb1⟩
  · have b1 : ¬ (300 : Int) < (xs.length : Int) := by omega
    obtain ⟨L, hL⟩ : ∃ L, xs.length = L := ⟨_, rfl⟩
    have HL := Lib.hid hL
    have HH := Lib.hid h
    have hL3 : L ≤ 300 := by omega
    rw [hL] at b1 ⊢
    clear h hL hbig
    have hmk := run_make44 L (by omega)
    obtain ⟨w1, e1, hg1, hb1, hz1⟩ := alloc_facts w (boolRow L (fun _ => false)) 4
    have HG1 := Lib.hid hg1
    have HB1 := Lib.hid hb1
    have hz1' : w.heap.size < w1.heap.size := by omega
    have HM1 : Hid (Marks xs 0 (fun _ => false)) := Marks.start xs
    clear hg1 hb1 hz1
    go_enter Try.func9, Try.ntmps9
    go_wp2_with fail
    have hrc := Runs_calls A c xs w1 (HH.out.below HB1.out) (by have := HL.out; omega)
    rw [HL.out] at hrc
    refine hrc.mono ?_
    clear hrc
    rintro e w2 ⟨v2, rfl, ho2, hb2⟩
    obtain ⟨A2, c2, rfl, hr2⟩ := ho2.rd
    obtain ⟨rs, hrs⟩ : ∃ rs, runsAt xs 0 = rs := ⟨_, rfl⟩
    rw [hrs] at ho2 hr2 ⊢
    have HRS := Lib.hid hrs
    have HO2 := Lib.hid ho2
    have HG2 := Lib.hid ((hb2.block w.heap.size hz1').trans HG1.out)
    have HB2 := Lib.hid (HB1.out.trans (hb2.mono (Nat.le_of_lt hz1')))
    have hrl : rs.length ≤ 300 := by have := runsAt_len xs 0; rw [hrs, HL.out] at this; omega
    have HD0 : Hid (rs.drop 0 = runsAt xs 0) := by rw [List.drop_zero]; exact HRS.out.symm
    have HN0 : Hid (1 ≤ 0 → xs[0]? ≠ xs[0 - 1]? ∨ xs.length ≤ 0) := fun h => absurd h (by omega)
    clear hrs ho2 hr2 hb2
    go_wp2
    go_loopw [4, 19] (fun e i wr => ∃ (E k : Nat) (f : Nat → Bool), e = .int .i64 E ∧ i = .int .i64 k ∧ k ≤ rs.length ∧ E ≤ L ∧ Hid (rs.drop k = runsAt xs E) ∧ Hid (1 ≤ E → xs[E]? ≠ xs[E - 1]? ∨ xs.length ≤ E) ∧ Hid (Marks xs E f) ∧
      Hid (wr.heap[w.heap.size]? = some (.cells (boolRow L f) 4 (0, 0))) ∧ Hid (Own wr w1.heap.size 46 2 (.slice A2 rs.length c2) rs.length (rs.flatMap rcells)) ∧ Hid (Below w.heap.size w wr)) (fun e i wr => rs.length - (intOf i).toNat)
    case atStart => exact ⟨0, 0, _, rfl, rfl, Nat.zero_le _, Nat.zero_le _, HD0, HN0, HM1, HG2, HO2, HB2⟩
    case round =>
      obtain ⟨E, k, f, rfl, rfl, hk, hE, hdr, hbd, hm, hg, ho, hb⟩ := hrel
      clear HG1 HB1 HG2 HB2 HO2 HD0 HN0 HM1
      by_cases hlt : k < rs.length
      · obtain ⟨⟨a, n⟩, hr⟩ : ∃ r, rs[k]? = some r := ⟨_, List.getElem?_eq_getElem hlt⟩
        have hdr2 : runsAt xs E = (a, n) :: rs.drop (k + 1) := by
          rw [← hdr.out]
          obtain ⟨hk', he⟩ := List.getElem?_eq_some_iff.1 hr
          rw [List.drop_eq_getElem_cons hk', he]
        obtain ⟨i1, i2, i3, i4, i5, i6, i7⟩ := runs_head xs E a n _ hbd.out hdr2
        rw [HL.out] at i3
        have HD3 : Hid (rs.drop (k + 1) = runsAt xs (a + n)) := i4
        have HN3 : Hid (1 ≤ a + n → xs[a + n]? ≠ xs[a + n - 1]? ∨ xs.length ≤ a + n) := fun _ => .inl i5
        have HM3 : Hid (∀ f', (∀ q, q < xs.length → f' q = (f q || decide (a < q ∧ q < a + n))) → Marks xs (a + n) f') := fun f' hf => hm.out.step i1 i6 i7 hf
        obtain ⟨A3, c3, e3, hr3⟩ := ho.out.rd
        obtain ⟨rfl, rfl⟩ : A2 = A3 ∧ c2 = c3 := by cases e3; exact ⟨rfl, rfl⟩
        obtain ⟨ad, rfl⟩ : ∃ ad, A2 = some ad := by
          cases A2 with
          | none => have := (hr3.nil rfl).1; omega
          | some ad => exact ⟨ad, rfl⟩
        have hrow : Row wr (ad.add (k * 2)) [.int .i64 a, .int .i64 n] := by
          intro i u hi
          rw [Addr.add_add']
          have hi2 : i < 2 := (List.getElem?_eq_some_iff.1 hi).1
          refine hr3.row ad rfl _ _ ?_
          rw [rcells_get rs k i _ hr hi2]
          exact hi
        have HROW := Lib.hid hrow
        clear hdr2 i4 i5 i6 i7 hr e3 hr3 hrow hdr hbd hm
        have c1 : (k : Int) < (rs.length : Int) := by omega
        go_wp2_with ((with_reducible refine Stop.load 46 ?hst ?_); (case hst => rfl))
        refine Stop.go ?_
        refine step_load_agg rfl 46 (.tmp 21) rfl rfl (cs := [.int .i64 a, .int .i64 n]) (agg46 wr) (size46 wr) HROW.out ?_
        obtain ⟨w4, e4, hg4, hb4, hz4⟩ := alloc_facts wr #[.int .i64 0, .int .i64 0] 46
        go_wp2_with ((with_reducible refine Stop.store 46 ?hst ?_); (case hst => rfl))
        refine Stop.go ?_
        refine step_store_row rfl 46 (.tmp 6) (.tmp 22) rfl rfl hg4 (vs := #[.int .i64 a, .int .i64 n]) rfl inf46s rfl (by simp [Value.oneCell']) ?_
        intro w5 hg5 hgr5 hz5
        have hb5 : Below wr.heap.size wr w5 := hb4.grown hgr5 hb4.size (fun k hk => by cases hk; exact Nat.le_refl _)
        have hgw : w.heap.size < wr.heap.size := lt_of_heap hg.out
        have HO5 := Lib.hid (ho.out.below hb5)
        have HG5 := Lib.hid ((hb5.block w.heap.size hgw).trans hg.out)
        have HB5 := Lib.hid (hb.out.trans (hb5.mono (Nat.le_of_lt hgw)))
        have hc0 : w5.cell? ⟨wr.heap.size, 0, none⟩ = some (.int .i64 a) := by rw [cell_of_row _ _ 0 _ _ _ hg5]; rfl
        have hc1 : w5.cell? ⟨wr.heap.size, 1, none⟩ = some (.int .i64 n) := by rw [cell_of_row _ _ 1 _ _ _ hg5]; rfl
        clear hg4 hb4 hz4 hg5 hgr5 hb5 hz5
        have d1 : decide ((a : Int) < (E : Int)) = false := decide_eq_false (by omega)
        have d2 : decide ((n : Int) < 2) = false := decide_eq_false (by omega)
        have d3 : decide ((L : Int) < (n : Int)) = false := decide_eq_false (by omega)
        have d4 : decide ((L : Int) - (n : Int) < (a : Int)) = false := decide_eq_false (by omega)
        have v1 : IntKind.i64.wrap ((L : Int) - (n : Int)) = (L : Int) - (n : Int) := by rw [IntKind.wrap_i64]; omega
        have d1' : decide (a < E) = false := decide_eq_false (by omega)
        have d3' : decide (L < n) = false := decide_eq_false (by omega)
        obtain ⟨E2, hE2⟩ : ∃ E2, a + n = E2 := ⟨_, rfl⟩
        obtain ⟨S, hS⟩ : ∃ S, a + 1 = S := ⟨_, rfl⟩
        have v2 : IntKind.i64.wrap ((a : Int) + (n : Int)) = (E2 : Int) := by rw [IntKind.wrap_i64]; omega
        have v3 : IntKind.i64.wrap ((a : Int) + 1) = (S : Int) := by rw [IntKind.wrap_i64]; omega
        rw [hE2] at HD3 HN3 HM3
        have HE2 := Lib.hid hE2
        have HS := Lib.hid hS
        have hS2 : S ≤ E2 := by omega
        have hE2L : E2 ≤ L := by omega
        have hF5 : Hid (∀ q, q < xs.length → f q = (f q || decide (a < q ∧ q < S))) := by
          intro q hq
          rw [decide_eq_false (by omega), Bool.or_false]
        clear hE2 hS i3
        go_wp2
        go_loopw [7] (fun pv wr' => ∃ (p : Nat) (f' : Nat → Bool), pv = .int .i64 p ∧ S ≤ p ∧ p ≤ E2 ∧ Hid (∀ q, q < xs.length → f' q = (f q || decide (a < q ∧ q < p))) ∧
          Hid (wr'.heap[w.heap.size]? = some (.cells (boolRow L f') 4 (0, 0))) ∧ Hid (Own wr' w1.heap.size 46 2 (.slice (some ad) rs.length c2) rs.length (rs.flatMap rcells)) ∧ Hid (Below w.heap.size w wr')) (fun pv wr' => E2 - (intOf pv).toNat)
        case atStart => exact ⟨S, f, rfl, Nat.le_refl _, hS2, hF5, HG5, HO5, HB5⟩
        case round =>
          obtain ⟨p, f', rfl, hp1, hp2, hff, hg6, ho6, hb6⟩ := hrel
          clear HG5 HO5 HB5 hF5 d1 d2 d3 d4 d1' d3' v1 v2 v3 hc0 hc1
          by_cases hpl : p < E2
          · have c2 : (p : Int) < (E2 : Int) := by omega
            have hpL : p < L := by omega
            go_wp2_with ((with_reducible refine Stop.store 4 ?hst ?_); (case hst => rfl))
            refine Stop.go ?_
            refine step_store_one rfl 4 (.tmp 64) (.const (.bool true)) rfl (g := w.heap.size) (i := p) (by rfl) hg6.out (by rw [boolRow_size]; exact hpL) (v := .bool true) rfl inf4s rfl rfl ?_
            intro w7 hg7 hgr7 hz7
            rw [boolRow_set (f' := fun q => if q = p then true else f' q) (fun q _ => rfl)] at hg7
            have HG7 := Lib.hid hg7
            have HO7 := Lib.hid (ho6.out.kept hgr7 (.inr (fun e => by have := (ho6.out.lt _ e).1; omega)))
            have HB7 := Lib.hid (hb6.out.grown hgr7 hb6.out.size (fun k hk => by cases hk; omega))
            have HF7 : Hid (∀ q, q < xs.length → (fun q => if q = p then true else f' q) q = (f q || decide (a < q ∧ q < p + 1))) := by
              intro q hq
              show (if q = p then true else f' q) = _
              by_cases e : q = p
              · have hx := HS.out
                rw [if_pos e, decide_eq_true (by omega)]; simp
              · rw [if_neg e, hff.out q hq]
                congr 1
                exact decide_eq_decide.2 (by omega)
            clear hg7 hgr7
            go_wp2
            exact ⟨⟨p + 1, _, rfl, by omega, by omega, HF7, HG7, HO7, HB7⟩, by simp [intOf]; omega⟩
          · have c2 : ¬ (p : Int) < (E2 : Int) := by omega
            have hpE : p = E2 := by omega
            have HM8 := Lib.hid (HM3.out f' (fun q hq => by rw [hff.out q hq, hpE]))
            clear hpE
            go_wp2
            exact ⟨⟨E2, k + 1, f', rfl, rfl, by omega, hE2L, HD3, HN3, HM8, hg6, ho6, hb6⟩, by simp [intOf]; omega⟩
      · have hkr : rs.drop k = [] := List.drop_eq_nil_of_le (by omega)
        have HE8 := Lib.hid (runs_none xs E hbd.out (by rw [← hdr.out, hkr]))
        have c1 : ¬ (k : Int) < (rs.length : Int) := by omega
        clear hkr
        go_wp2
        go_loopw [8] (fun qv wr' => ∃ q m : Nat, qv = .int .i64 q ∧ 1 ≤ q ∧ (q ≤ L ∨ q = 1) ∧ wr' = wr.drewN m) (fun qv wr' => L - (intOf qv).toNat)
        case atStart => exact ⟨1, 0, rfl, Nat.le_refl _, .inr rfl, rfl⟩
        case round =>
          obtain ⟨q, m, rfl, hq1, hq2, rfl⟩ := hrel
          by_cases hql : q < L
          · have c2 : (q : Int) < (L : Int) := by omega
            have hqx : q < xs.length := by have := HL.out; omega
            obtain ⟨s1, hs1⟩ : ∃ s, xs[q]? = some s := ⟨_, List.getElem?_eq_getElem hqx⟩
            obtain ⟨s0, hs0⟩ : ∃ s, xs[q - 1]? = some s := ⟨_, List.getElem?_eq_getElem (by omega)⟩
            have HX := HH.out.below hb.out
            obtain ⟨ad, hA⟩ := HX.some_of hqx
            subst hA
            have r1 := (HX.drews m).at hs1
            have r0 := (HX.drews m).at hs0
            have HF := Lib.hid (Marks.end hm.out HE8.out hqx hq1 hs1 hs0)
            have hcb : (wr.drewN m).cell? ⟨w.heap.size, q, none⟩ = some (.bool (f q)) := by
              have : wr.cell? ⟨w.heap.size, q, none⟩ = some (.bool (f q)) := by
                rw [cell_of_row _ _ q _ _ _ hg.out]; exact boolRow_get hql
              exact this
            have v1 : IntKind.i64.wrap ((q : Int) - 1) = ((q - 1 : Nat) : Int) := by rw [IntKind.wrap_i64]; omega
            obtain ⟨q0, hq0⟩ : ∃ q0, q - 1 = q0 := ⟨_, rfl⟩
            have hq0L : q0 < L := by omega
            rw [hq0] at v1 r0
            rw [HF.out] at hcb
            clear hs1 hs0 HX hqx hq0
            go_wp2_with fail
            refine wp_region_quiet_lit (by kernel_rfl) (by kernel_rfl) ?_
            repeat (go_big_quiet_step (fail))
            go_big_quiet_want
            refine quiet_bool rfl rfl hcb ?_
            go_big_quiet_on
            simp only [Act.put, List.setIfInBounds_toArray, List.set_cons_succ, List.set_cons_zero]
            repeat (go_big_quiet_step (fail))
            go_big_quiet_want
            refine quiet_sec rfl rfl r1 ?_
            go_big_quiet_on
            simp only [Act.put, List.setIfInBounds_toArray, List.set_cons_succ, List.set_cons_zero]
            repeat (go_big_quiet_step (fail))
            go_big_quiet_want
            refine quiet_sec rfl rfl r0 ?_
            go_big_quiet_on
            simp only [Act.put, List.setIfInBounds_toArray, List.set_cons_succ, List.set_cons_zero]
            repeat (go_big_quiet_step (fail))
            refine wpQuiet_nil ?_
            intro _ hw'
            obtain ⟨nq, hw''⟩ := hw'
            subst hw''
            go_wp2
            exact ⟨⟨q + 1, m + nq, rfl, by omega, by omega, by simp⟩, by simp [intOf]; omega⟩
          · have c2 : ¬ (q : Int) < (L : Int) := by omega
            have HB9 := Lib.hid (below_drews hb.out m)
            go_wp2_with fail
            refine (awake_calls _).mono ?_
            rintro e w9 ⟨rfl, hb9⟩
            have HB10 := Lib.hid (below_then HB9.out hb9)
            clear hb9
            go_wp2
            go_ret
            exact ⟨rfl, HB10.out⟩
end Go.Proofs.Ytfdkhopionknaaa
