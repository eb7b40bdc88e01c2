/- RunlengthFinds: the runs, both texts; Same; the walk. -/
import Derived.Test.YtfdkhopionknaaaAwake
namespace Go.Proofs.Ytfdkhopionknaaa
open Go.RowKit
set_option linter.unusedVariables false
set_option linter.unusedSimpArgs false

/-- The ranges of two or more equal sectors, from a place on. -/
def runsAt (xs : List Sec) (at_ : Nat) : List (Nat × Nat) :=
  if h : at_ < xs.length then (if 2 ≤ runAt (xs.drop at_) then [(at_, runAt (xs.drop at_))] else []) ++ runsAt xs (at_ + runAt (xs.drop at_)) else []
termination_by xs.length - at_
decreasing_by have := runAt_pos (xs.drop at_); omega
def rcells (r : Nat × Nat) : List Value := [.int .i64 r.1, .int .i64 r.2]
theorem runsAt_two {xs : List Sec} {j R : Nat} (h : j < xs.length) (hr : runAt (xs.drop j) = R) (h2 : 2 ≤ R) : runsAt xs j = (j, R) :: runsAt xs (j + R) := by
  rw [runsAt, dif_pos h, hr, if_pos h2]; rfl
theorem runsAt_one {xs : List Sec} {j R : Nat} (h : j < xs.length) (hr : runAt (xs.drop j) = R) (h2 : ¬ 2 ≤ R) : runsAt xs j = runsAt xs (j + R) := by
  rw [runsAt, dif_pos h, hr, if_neg h2]; rfl
theorem runsAt_len (xs : List Sec) (at_ : Nat) : (runsAt xs at_).length ≤ xs.length - at_ := by
  induction at_ using runsAt.induct xs with
  | case1 at_ h ih =>
    have := runAt_pos (xs.drop at_)
    rw [runsAt, dif_pos h, List.length_append]
    split
    · simp only [List.length_cons, List.length_nil]; omega
    · simp only [List.length_nil]; omega
  | case2 at_ h => rw [runsAt, dif_neg h]; simp
theorem runsAt_nil {xs : List Sec} {j : Nat} (h : ¬ j < xs.length) : runsAt xs j = [] := by rw [runsAt, dif_neg h]

set_option maxRecDepth 20000 in
set_option maxHeartbeats 1000000 in
theorem Runs_calls (A : Option Addr) (c : Nat) (xs : List Sec) (w : World) (h : Secs w A c xs) (hlen : xs.length ≤ 1099511627776) :
    Calls Try.prog 27 #[.slice A xs.length c] w fun e w' => ∃ v, e = .returned v ∧ Own w' w.heap.size 46 2 v (runsAt xs 0).length ((runsAt xs 0).flatMap rcells) ∧ Below w.heap.size w w' := by
  go_enter Try.func27, Try.ntmps27
  go_wp2
  go_loopw [3, 4] (fun v i w' => ∃ (rs : List (Nat × Nat)) (j : Nat) (A5 : Option Addr) (c5 : Nat), v = .slice A5 rs.length c5 ∧ i = .int .i64 j ∧ j ≤ xs.length ∧ Hid (rs ++ runsAt xs j = runsAt xs 0) ∧ rs.length ≤ j ∧ Hid (Own w' w.heap.size 46 2 (.slice A5 rs.length c5) rs.length (rs.flatMap rcells)) ∧ Hid (Below w.heap.size w w')) (fun _ i _ => xs.length - (intOf i).toNat)
  case atStart => exact ⟨[], 0, none, 0, rfl, rfl, Nat.zero_le _, rfl, Nat.le_refl _, Own.nil _ _ _ _, Below.refl _ _⟩
  case round =>
    obtain ⟨rs, j, A5, c5, rfl, rfl, hj, hrs, hrl, ho, hb⟩ := hrel
    by_cases hlt : j < xs.length
    · have hrp := runAt_pos (xs.drop j)
      have hrl2 : runAt (xs.drop j) ≤ xs.length - j := by
        have := runAt_le (xs.drop j) (by intro e; have := congrArg List.length e; simp at this; omega)
        simpa using this
      obtain ⟨R, hR⟩ : ∃ R, runAt (xs.drop j) = R := ⟨_, rfl⟩
      have HR := Lib.hid hR
      rw [hR] at hrp hrl2
      clear hR
      go_wp2_with fail
      refine (run_calls A c j xs _ (h.below hb.out) hlen hlt).mono ?_
      rintro e w2 ⟨rfl, n2, rfl⟩
      rw [HR.out]
      have HO2 := Lib.hid (ho.out.below (below_drews (Below.refl _ _) n2))
      have HB2 := Lib.hid (below_drews hb.out n2)
      by_cases h2 : 2 ≤ R
      · have hd : decide ((2 : Int) ≤ (R : Int)) = true := by simp; omega
        have h2' : (2 : Int) ≤ (R : Int) := by omega
        have HG := Lib.hid (runsAt_two hlt HR.out h2)
        go_wp2_with (at_builtin; refine Stop.at ?_)
        refine Stop.go ?_
        refine step_append E42 rfl (.tmp 15) (.tmp 19) rfl w.heap.size rfl (HO2.out.alloc _) rfl (Rd.new _ 46 #[.int .i64 j, .int .i64 R] 1 (by decide)) rfl (by simp [Value.oneCell']) (by omega) (by decide) (by have := HB2.out.size; simp at this ⊢; omega) ?_
        intro v1 w3 ho3 hg3
        obtain ⟨A6, c6, rfl, _⟩ := ho3.rd
        obtain ⟨rs6, hrs6⟩ : ∃ y, y = rs ++ [(j, R)] := ⟨_, rfl⟩
        have hl6 : rs6.length = rs.length + 1 := by rw [hrs6, List.length_append]; rfl
        have hc6 : rs6.flatMap rcells = rs.flatMap rcells ++ (#[Value.int .i64 (j : Int), .int .i64 (R : Int)] : Array Value).toList := by rw [hrs6, List.flatMap_append]; simp [rcells]
        rw [← hc6, ← hl6] at ho3
        have HO6 := Lib.hid ho3
        have HB6 := Lib.hid (HB2.out.trans (((Below.refl _ _).alloc (by have := HB2.out.size; omega) _).trans (hg3.below (HO2.out.alloc _) (by have := HB2.out.size; simp at this ⊢; omega))))
        have HS6 := Lib.hid (show rs6 ++ runsAt xs (j + R) = runsAt xs 0 by rw [hrs6, List.append_assoc, ← hrs.out, HG.out]; rfl)
        have hk6 : rs6.length ≤ j + R := by omega
        rw [← hl6]
        clear ho3 hg3 hrs6 hl6 hc6
        go_wp2
        exact ⟨⟨rs6, j + R, A6, c6, rfl, rfl, by omega, HS6, hk6, HO6, HB6⟩, by simp [intOf]; omega⟩
      · have hd : decide ((2 : Int) ≤ (R : Int)) = false := by simp; omega
        have h2' : ¬ (2 : Int) ≤ (R : Int) := by omega
        have HS6 := Lib.hid (show rs ++ runsAt xs (j + R) = runsAt xs 0 by rw [← hrs.out, runsAt_one hlt HR.out h2])
        go_wp2
        exact ⟨⟨rs, j + R, A5, c5, rfl, rfl, by omega, HS6, by omega, HO2, HB2⟩, by simp [intOf]; omega⟩
    · have hX : rs = runsAt xs 0 := by
        have := hrs.out
        rwa [runsAt_nil hlt, List.append_nil] at this
      have HX := Lib.hid hX
      clear hX
      go_wp2
      go_ret
      refine ⟨_, rfl, ?_, hb.out⟩
      rw [← HX.out]
      exact ho.out

set_option maxRecDepth 20000 in
set_option maxHeartbeats 1000000 in
theorem refRuns_calls (A : Option Addr) (c : Nat) (xs : List Sec) (w : World) (h : Secs w A c xs) (hlen : xs.length ≤ 1099511627776) :
    Calls Try.prog 28 #[.slice A xs.length c] w fun e w' => ∃ v, e = .returned v ∧ Own w' w.heap.size 46 2 v (runsAt xs 0).length ((runsAt xs 0).flatMap rcells) ∧ Below w.heap.size w w' := by
  go_enter Try.func28, Try.ntmps28
  go_wp2
  go_loopw [3, 4] (fun v i w' => ∃ (rs : List (Nat × Nat)) (j : Nat) (A5 : Option Addr) (c5 : Nat), v = .slice A5 rs.length c5 ∧ i = .int .i64 j ∧ j ≤ xs.length ∧ Hid (rs ++ runsAt xs j = runsAt xs 0) ∧ rs.length ≤ j ∧ Hid (Own w' w.heap.size 46 2 (.slice A5 rs.length c5) rs.length (rs.flatMap rcells)) ∧ Hid (Below w.heap.size w w')) (fun _ i _ => xs.length - (intOf i).toNat)
  case atStart => exact ⟨[], 0, none, 0, rfl, rfl, Nat.zero_le _, rfl, Nat.le_refl _, Own.nil _ _ _ _, Below.refl _ _⟩
  case round =>
    obtain ⟨rs, j, A5, c5, rfl, rfl, hj, hrs, hrl, ho, hb⟩ := hrel
    by_cases hlt : j < xs.length
    · have hrp := runAt_pos (xs.drop j)
      have hrl2 : runAt (xs.drop j) ≤ xs.length - j := by
        have := runAt_le (xs.drop j) (by intro e; have := congrArg List.length e; simp at this; omega)
        simpa using this
      obtain ⟨R, hR⟩ : ∃ R, runAt (xs.drop j) = R := ⟨_, rfl⟩
      have HR := Lib.hid hR
      rw [hR] at hrp hrl2
      clear hR
      go_wp2_with fail
      refine (refequal_calls A c j xs _ (h.below hb.out) hlen hlt).mono ?_
      rintro e w2 ⟨rfl, n2, rfl⟩
      rw [HR.out]
      have HO2 := Lib.hid (ho.out.below (below_drews (Below.refl _ _) n2))
      have HB2 := Lib.hid (below_drews hb.out n2)
      by_cases h2 : 2 ≤ R
      · have hd : decide ((2 : Int) ≤ (R : Int)) = true := by simp; omega
        have h2' : (2 : Int) ≤ (R : Int) := by omega
        have HG := Lib.hid (runsAt_two hlt HR.out h2)
        go_wp2_with (at_builtin; refine Stop.at ?_)
        refine Stop.go ?_
        refine step_append E42 rfl (.tmp 15) (.tmp 19) rfl w.heap.size rfl (HO2.out.alloc _) rfl (Rd.new _ 46 #[.int .i64 j, .int .i64 R] 1 (by decide)) rfl (by simp [Value.oneCell']) (by omega) (by decide) (by have := HB2.out.size; simp at this ⊢; omega) ?_
        intro v1 w3 ho3 hg3
        obtain ⟨A6, c6, rfl, _⟩ := ho3.rd
        obtain ⟨rs6, hrs6⟩ : ∃ y, y = rs ++ [(j, R)] := ⟨_, rfl⟩
        have hl6 : rs6.length = rs.length + 1 := by rw [hrs6, List.length_append]; rfl
        have hc6 : rs6.flatMap rcells = rs.flatMap rcells ++ (#[Value.int .i64 (j : Int), .int .i64 (R : Int)] : Array Value).toList := by rw [hrs6, List.flatMap_append]; simp [rcells]
        rw [← hc6, ← hl6] at ho3
        have HO6 := Lib.hid ho3
        have HB6 := Lib.hid (HB2.out.trans (((Below.refl _ _).alloc (by have := HB2.out.size; omega) _).trans (hg3.below (HO2.out.alloc _) (by have := HB2.out.size; simp at this ⊢; omega))))
        have HS6 := Lib.hid (show rs6 ++ runsAt xs (j + R) = runsAt xs 0 by rw [hrs6, List.append_assoc, ← hrs.out, HG.out]; rfl)
        have hk6 : rs6.length ≤ j + R := by omega
        rw [← hl6]
        clear ho3 hg3 hrs6 hl6 hc6
        go_wp2
        exact ⟨⟨rs6, j + R, A6, c6, rfl, rfl, by omega, HS6, hk6, HO6, HB6⟩, by simp [intOf]; omega⟩
      · have hd : decide ((2 : Int) ≤ (R : Int)) = false := by simp; omega
        have h2' : ¬ (2 : Int) ≤ (R : Int) := by omega
        have HS6 := Lib.hid (show rs ++ runsAt xs (j + R) = runsAt xs 0 by rw [← hrs.out, runsAt_one hlt HR.out h2])
        go_wp2
        exact ⟨⟨rs, j + R, A5, c5, rfl, rfl, by omega, HS6, by omega, HO2, HB2⟩, by simp [intOf]; omega⟩
    · have hX : rs = runsAt xs 0 := by
        have := hrs.out
        rwa [runsAt_nil hlt, List.append_nil] at this
      have HX := Lib.hid hX
      clear hX
      go_wp2
      go_ret
      refine ⟨_, rfl, ?_, hb.out⟩
      rw [← HX.out]
      exact ho.out

theorem rcells_get (rs : List (Nat × Nat)) : ∀ (i j : Nat) (r : Nat × Nat), rs[i]? = some r → j < 2 → (rs.flatMap rcells)[i * 2 + j]? = (rcells r)[j]? := by
  induction rs with
  | nil => intro i j r h; simp at h
  | cons x rs ih =>
    intro i j r h hj
    rw [List.flatMap_cons]
    cases i with
    | zero =>
      simp at h; subst h
      rw [Nat.zero_mul, Nat.zero_add, List.getElem?_append_left (by simpa [rcells] using hj)]
    | succ i =>
      simp at h
      rw [List.getElem?_append_right (by simp [rcells]; omega), show (i + 1) * 2 + j - (rcells x).length = i * 2 + j from by simp [rcells]; omega]
      exact ih i j r h hj

theorem agg46 (w : World) : (isAgg 46).run Try.prog w = .ok true w := by
  unfold isAgg
  rw [Sem.run_bind, run_underlying Try.underlying46 w]
  rfl
theorem size46 (w : World) : (sizeOf 46).run Try.prog w = .ok 2 w := E42.run_size w
theorem quiet_ext {o : Oper} {a : Act} {W : World} {K : Act → Prop} {x : Operand} {ad : Addr} {p r : Int} (ho : o.op = .load 46 x) (hx : a.eval x = .pointer (some ad)) (hs : Row W ad [.int .i64 p, .int .i64 r]) (hk : K (a.put o.dst (.agg #[.int .i64 p, .int .i64 r]))) :
    o.quiet Try.prog a (fun w' => ∃ n, w' = W.drewN n) K := by
  refine quiet_val (.agg #[.int .i64 p, .int .i64 r]) ?_ hk
  rintro w ⟨n, rfl⟩
  have hl := run_loadCells_list (P := Try.prog) (W.drewN n) ad [.int .i64 p, .int .i64 r] (fun j u hj => hs j u hj)
  have hv : (loadVar 46 ad).run Try.prog (W.drewN n) = .ok (.agg #[.int .i64 p, .int .i64 r]) (W.drewN n) := by
    have h2 : [Value.int .i64 p, Value.int .i64 r].length = 2 := rfl
    rw [h2] at hl
    simp [loadVar, agg46, size46, hl]
  simp [execOp, ho, Instr.loadAt, Instr.sureAddr, hx, hv]

set_option maxRecDepth 20000 in
set_option maxHeartbeats 1000000 in
theorem same_runs (A A' : Option Addr) (c c' : Nat) (rs : List (Nat × Nat)) (w : World) (h : Rd w A rs.length c (rs.flatMap rcells)) (h' : Rd w A' rs.length c' (rs.flatMap rcells)) (hl : rs.length ≤ 1000000) :
    Calls Try.prog 26 #[.slice A rs.length c, .slice A' rs.length c'] w fun e w' => e = .returned (.bool true) ∧ ∃ n, w' = w.drewN n := by
  go_enter Try.func26, Try.ntmps26
  go_wp2
  go_loopw [5] (fun n w' => ∃ k : Nat, n = .int .i64 k ∧ k ≤ rs.length ∧ ∃ q, w' = w.drewN q) (fun n w' => rs.length - (intOf n).toNat)
  case atStart => exact ⟨0, rfl, by omega, 0, rfl⟩
  case round =>
    obtain ⟨k, rfl, hk, q, rfl⟩ := hrel
    by_cases hlt : k < rs.length
    · obtain ⟨⟨p, r⟩, hr⟩ : ∃ r, rs[k]? = some r := ⟨_, List.getElem?_eq_getElem hlt⟩
      obtain ⟨a, rfl⟩ : ∃ a, A = some a := by
        cases A with
        | none => have := (h.nil rfl).1; omega
        | some a => exact ⟨a, rfl⟩
      obtain ⟨a', rfl⟩ : ∃ a, A' = some a := by
        cases A' with
        | none => have := (h'.nil rfl).1; omega
        | some a => exact ⟨a, rfl⟩
      have g0 := rcells_get rs k 0 _ hr (by omega)
      have g1 := rcells_get rs k 1 _ hr (by omega)
      have hrow : ∀ b : Addr, (∀ (i : Nat) (u : Value), (rs.flatMap rcells)[i]? = some u → w.cell? (b.add i) = some u) → Row (w.drewN q) (b.add (k * 2)) [.int .i64 p, .int .i64 r] := by
        intro b hb i u hi
        rw [Addr.add_add']
        have hi2 : i < 2 := (List.getElem?_eq_some_iff.1 hi).1
        refine hb _ _ ?_
        rw [rcells_get rs k i _ hr hi2]
        exact hi
      have hr0 := hrow a (h.row a rfl)
      have hr1 := hrow a' (h'.row a' rfl)
      clear g0 g1 hr hrow
      go_wp2_with fail
      refine wp_region_quiet_lit (by kernel_rfl) (by kernel_rfl) ?_
      repeat (go_big_quiet_step (fail))
      go_big_quiet_want
      refine quiet_ext rfl rfl hr0 ?_
      go_big_quiet_on
      simp only [Act.put, List.setIfInBounds_toArray, List.set_cons_succ, List.set_cons_zero]
      repeat (go_big_quiet_step (fail))
      go_big_quiet_want
      refine quiet_ext rfl rfl hr1 ?_
      go_big_quiet_on
      simp only [Act.put, List.setIfInBounds_toArray, List.set_cons_succ, List.set_cons_zero]
      repeat (go_big_quiet_step (fail))
      refine wpQuiet_nil ?_
      intro _ hw'
      obtain ⟨nq, hw''⟩ := hw'
      subst hw''
      go_wp2
      exact ⟨⟨k + 1, rfl, by omega, q + nq, rfl⟩, by simp [intOf]; omega⟩
    · go_wp2
      go_ret
      exact ⟨rfl, q, rfl⟩

set_option maxRecDepth 20000 in
set_option maxHeartbeats 4000000 in
theorem finds_calls (A : Option Addr) (c : Nat) (xs : List Sec) (w : World) (h : Secs w A c xs) :
    Calls Try.prog 8 #[.slice A xs.length c] w fun e w' => e = .returned (.bool true) ∧ Below w.heap.size w w' := by
  by_cases hbig : 300 < xs.length
  · have b1 : (300 : Int) < (xs.length : Int) := by omega
    go_enter Try.func8, Try.ntmps8
    go_wp2_with fail
    refine (awake_calls w).mono ?_
    rintro e w1 ⟨rfl, hb1⟩
    go_wp2
    go_ret
    exact ⟨rfl, hb1⟩
  · have b1 : ¬ (300 : Int) < (xs.length : Int) := by omega
    have HH := Lib.hid h
    clear h
    go_enter Try.func8, Try.ntmps8
    go_wp2_with fail
    refine (Runs_calls A c xs w HH.out (by omega)).mono ?_
    rintro e w1 ⟨v1, rfl, ho1, hb1⟩
    obtain ⟨A1, c1, rfl, hr1⟩ := ho1.rd
    have HR1 := Lib.hid hr1
    have HB1 := Lib.hid hb1
    clear ho1 hr1 hb1
    go_wp2_with fail
    refine (refRuns_calls A c xs w1 (HH.out.below HB1.out) (by omega)).mono ?_
    rintro e w2 ⟨v2, rfl, ho2, hb2⟩
    obtain ⟨A2, c2, rfl, hr2⟩ := ho2.rd
    have HR2 := Lib.hid hr2
    have HR1' := Lib.hid (HR1.out.below hb2)
    have HB2 := Lib.hid (below_then HB1.out hb2)
    clear ho2 hr2 hb2
    go_wp2_with fail
    refine (same_runs A1 A2 c1 c2 (runsAt xs 0) w2 HR1'.out HR2.out (by have := runsAt_len xs 0; omega)).mono ?_
    rintro e w3 ⟨rfl, q, rfl⟩
    have HB3 := Lib.hid (below_drews HB2.out q)
    go_wp2_with fail
    refine (awake_calls _).mono ?_
    rintro e w4 ⟨rfl, hb4⟩
    have HB4 := Lib.hid (below_then HB3.out hb4)
    clear hb4
    go_wp2
    go_ret
    exact ⟨rfl, HB4.out⟩
end Go.Proofs.Ytfdkhopionknaaa
