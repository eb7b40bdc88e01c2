/- Layer 6: best (54). -/
import Derived.Test.YtfdkhopionknaaaDicB
namespace Go.Proofs.Ytfdkhopionknaaa
open Go.RowKit
set_option linter.unusedVariables false
set_option linter.unusedSimpArgs false

theorem prog_step {all : List UInt8} {at_ d m p : Nat} {ps : List Nat} {j : Nat} {r : Nat × Nat} (hp : ps[j]? = some p) (h : progBest all at_ (ps.take (j + 1)).reverse d m = r) :
    ((¬ (at_ - p ≤ 4096 ∧ m < 131)) → (d, m) = r) ∧ ((at_ - p ≤ 4096 ∧ m < 131) → (m < matchLen all at_ p → progBest all at_ (ps.take j).reverse (at_ - p) (matchLen all at_ p) = r) ∧ (¬ m < matchLen all at_ p → progBest all at_ (ps.take j).reverse d m = r)) := by
  obtain ⟨hj, e⟩ := List.getElem?_eq_some_iff.1 hp
  rw [List.take_succ_eq_append_getElem hj, List.reverse_append, e] at h
  have h' : progBest all at_ (p :: (ps.take j).reverse) d m = r := h
  rw [progBest] at h'
  refine ⟨fun hc => by rwa [if_neg hc] at h', fun hc => ?_⟩
  rw [if_pos hc] at h'
  exact ⟨fun hm => by rwa [if_pos hm] at h', fun hm => by rwa [if_neg hm] at h'⟩
theorem next_i {all : List UInt8} {at_ d m : Nat} {ps : List Nat} {j : Nat} {r : Nat × Nat} (hj : j < ps.length) (h : progBest all at_ (ps.take j).reverse d m = r) :
    (∃ j' : Nat, Value.int .i64 ((j : Int) - 1) = .int .i64 (j' : Int) ∧ j' < ps.length ∧ Hid (progBest all at_ (ps.take (j' + 1)).reverse d m = r)) ∨ (Value.int .i64 ((j : Int) - 1) = .int .i64 (-1) ∧ Hid ((d, m) = r)) := by
  rcases Nat.eq_zero_or_pos j with e | e
  · subst e
    exact .inr ⟨rfl, h⟩
  · refine .inl ⟨j - 1, by congr 1; omega, by omega, ?_⟩
    show _ = _
    rw [show j - 1 + 1 = j by omega]
    exact h
theorem quiet_load108 {o : Oper} {a : Act} {W : World} {K : Act → Prop} {x : Operand} {g : Nat} {k : List UInt8} (ho : o.op = .load 108 x) (hx : a.eval x = .pointer (some ⟨g, 0, none⟩)) (hg : W.heap[g]? = some (.cells (k.map B).toArray 108 (0, 0))) (h4 : k.length = 4) (hk : K (a.put o.dst (keyV k))) :
    o.quiet Try.prog a (fun w' => ∃ n, w' = W.drewN n) K := by
  refine quiet_val (keyV k) ?_ hk
  rintro w ⟨n, rfl⟩
  exact run_load108 ho hx hg h4
theorem quiet_lookup {o : Oper} {a : Act} {W : World} {K : Act → Prop} {x y : Operand} {m k v : Value} (ho : o.op = .lookup 85 x y false) (hx : a.eval x = m) (hy : a.eval y = k) (hr : ∀ n, (Instr.lookup 85 m k false).run Try.prog (W.drewN n) = .ok v (W.drewN n)) (hk : K (a.put o.dst v)) :
    o.quiet Try.prog a (fun w' => ∃ n, w' = W.drewN n) K := by
  refine quiet_val v ?_ hk
  rintro w ⟨n, rfl⟩
  unfold execOp
  simp only [ho, hx, hy, Sem.run_bind, Sem.run_pure, Result.andThen_ok, hr n]

set_option maxRecDepth 20000 in
set_option maxHeartbeats 8000000 in
theorem best_calls (base mb eb at_ : Nat) (all : List UInt8) (A : Option Addr) (ac : Nat) (vt vw : Value) (w : World) (hE : w.heap[eb]? = some (.cells #[vt, vw, .slice A all.length ac, .int .i64 at_, .map (some mb)] 89 (0, 0))) (hA : Bytes w A ac all)
    (hM : MapS base mb w (places all at_)) (hat : at_ ≤ all.length) (hl : all.length ≤ 1000000) :
    Calls Try.prog 54 #[.pointer (some ⟨eb, 0, none⟩)] w fun e w' => e = .returned (.tuple #[.int .i64 (best all at_).1, .int .i64 (best all at_).2]) ∧ Below w.heap.size w w' := by
  have hcw : w.cell? ⟨eb, 3, none⟩ = some (.int .i64 at_) := cell_k hE rfl
  obtain ⟨⟨D, N⟩, hDN⟩ : ∃ r, best all at_ = r := ⟨_, rfl⟩
  have HDN := Lib.hid hDN
  rw [hDN]
  have HE := Lib.hid hE
  have HA := Lib.hid hA
  have HM := Lib.hid hM
  clear hE hA hM hDN
  go_enter Try.func54, Try.ntmps54
  go_wp2_with fail
  refine (key_calls eb all at_ w ⟨A, ac, vt, vw, _, _, HE.out, HA.out⟩ hl (by omega)).mono ?_
  rintro e w1 ⟨hb1, ks, h4, rfl, hks⟩
  obtain ⟨w2, e2, hg2, hb2, hz2⟩ := alloc_facts w1 #[.int .u8 0, .int .u8 0, .int .u8 0, .int .u8 0] 108
  have HB1 := Lib.hid hb1
  have HKS := Lib.hid hks
  have H4 := Lib.hid h4
  have HB2 := Lib.hid hb2
  clear hb1 hks h4 hb2 hz2
  unfold keyV
  go_wp2_with ((with_reducible refine Stop.store 108 ?hst ?_); (case hst => rfl))
  refine Stop.go ?_
  refine step_store_row rfl 108 (.tmp 4) (.tmp 18) rfl rfl hg2 (vs := (ks.map B).toArray) rfl (by rw [List.size_toArray, List.length_map, H4.out]; exact inf108s) (by rw [List.size_toArray, List.length_map, H4.out]; rfl) (oneCell_B _) ?_
  intro w3 hg3 hgr3 hz3
  have hb3 : Below w.heap.size w w3 := HB1.out.trans ((HB2.out.grown hgr3 HB2.out.size (fun k hk => by cases hk; exact Nat.le_refl _)).mono HB1.out.size)
  have hE3 := (hb3.block _ (lt_of_heap HE.out)).trans HE.out
  have hc4 : w3.cell? ⟨eb, 4, none⟩ = some (.map (some mb)) := cell_k hE3 rfl
  have hc3 : w3.cell? ⟨eb, 3, none⟩ = some (.int .i64 at_) := cell_k hE3 rfl
  have HG3 := Lib.hid hg3
  have HE3 := Lib.hid hE3
  have HM3 := Lib.hid (HM.out.below hb3)
  have HA3 := Lib.hid (HA.out.below hb3)
  have HB3 := Lib.hid hb3
  clear hg2 hg3 hgr3 hz3 hb3 hE3 e2 hcw
  by_cases hc : at_ + 4 ≤ all.length
  · rw [decide_eq_true hc]
    have hke := HKS.out hc
    obtain ⟨v0, hlk, hov⟩ := map_lookup HM3.out ks H4.out
    obtain ⟨L, lc, rfl, hrd⟩ := hov.rd
    have hpr := best_prog all at_ hc
    rw [← hke] at hpr
    obtain ⟨ps, hps⟩ : ∃ x, x = places all at_ ks := ⟨_, rfl⟩
    have hpl : ps.length ≤ at_ := by rw [hps]; exact places_len _ _ _
    have hmem : ∀ (j p : Nat), ps[j]? = some p → p < at_ := fun j p hj => (places_lt (by rw [hps] at hj; exact List.mem_of_getElem? hj)).1
    rw [← hps] at hpr hrd hlk
    rw [HDN.out] at hpr
    have HPR := Lib.hid hpr
    have HRD := Lib.hid hrd
    have HMEM := Lib.hid hmem
    have HLK := Lib.hid hlk
    clear hpr hrd hov hlk hke hmem hps
    go_wp2_with fail
    refine wp_region_quiet_lit (by kernel_rfl) (by kernel_rfl) ?_
    repeat (go_big_quiet_step (fail))
    go_big_quiet_want
    refine quiet_load108 rfl rfl HG3.out H4.out ?_
    go_big_quiet_on
    simp only [Act.put, List.setIfInBounds_toArray, List.set_cons_succ, List.set_cons_zero]
    repeat (go_big_quiet_step (fail))
    go_big_quiet_want
    refine quiet_lookup rfl rfl rfl (fun n => HLK.out (w3.drewN n) rfl) ?_
    go_big_quiet_on
    simp only [Act.put, List.setIfInBounds_toArray, List.set_cons_succ, List.set_cons_zero]
    repeat (go_big_quiet_step (fail))
    refine wpQuiet_nil ?_
    intro _ hw'
    obtain ⟨nq0, hw''⟩ := hw'
    subst hw''
    have w62 : IntKind.i64.wrap ((ps.length : Int) - 1) = (ps.length : Int) - 1 := by rw [IntKind.wrap_i64]; omega
    go_wp2
    go_loopw [6, 7, 9] (fun d m i w' => ∃ dd mm q : Nat, d = .int .i64 dd ∧ m = .int .i64 mm ∧ mm ≤ 131 ∧ dd ≤ 4096 ∧ w' = w3.drewN q ∧ ((∃ j : Nat, i = .int .i64 j ∧ j < ps.length ∧ Hid (progBest all at_ (ps.take (j + 1)).reverse dd mm = (D, N))) ∨ (i = .int .i64 (-1) ∧ Hid ((dd, mm) = (D, N))))) (fun d m i w' => (intOf i + 1).toNat)
    case atStart =>
      refine ⟨0, 0, nq0, rfl, rfl, by omega, by omega, rfl, ?_⟩
      rcases Nat.eq_zero_or_pos ps.length with h0 | h0
      · refine .inr ⟨by rw [h0]; rfl, ?_⟩
        have := HPR.out
        rw [List.eq_nil_of_length_eq_zero h0] at this
        exact this
      · refine .inl ⟨ps.length - 1, by congr 1; omega, by omega, ?_⟩
        have := HPR.out
        rw [show ps.length - 1 + 1 = ps.length by omega, List.take_length]
        exact this
    case round =>
      obtain ⟨dd, mm, q, rfl, rfl, hmm, hdd, rfl, ⟨j, rfl, hj, hpg⟩ | ⟨rfl, hfin⟩⟩ := hrel
      · obtain ⟨p, hp⟩ : ∃ p, ps[j]? = some p := ⟨_, List.getElem?_eq_getElem hj⟩
        have hpa := HMEM.out j p hp
        obtain ⟨hs1, hs2⟩ := prog_step hp hpg.out
        obtain ⟨a, rfl⟩ : ∃ a, L = some a := by
          cases L with
          | none => have := (HRD.out.nil rfl).1; omega
          | some a => exact ⟨a, rfl⟩
        have hcl : w3.cell? (a.add j) = some (.int .i64 p) := HRD.out.row a rfl j _ (by rw [List.getElem?_map, hp]; rfl)
        have v1 : IntKind.i64.wrap ((at_ : Int) - (p : Int)) = (at_ : Int) - (p : Int) := by rw [IntKind.wrap_i64]; omega
        have v2 : IntKind.i64.wrap ((j : Int) - 1) = (j : Int) - 1 := by rw [IntKind.wrap_i64]; omega
        have b0 : (0 : Int) ≤ (j : Int) := by omega
        have HS1 := Lib.hid hs1
        have HS2 := Lib.hid hs2
        clear hs1 hs2 hp
        by_cases hd : at_ - p ≤ 4096
        · have b1 : (at_ : Int) - (p : Int) ≤ 4096 := by omega
          by_cases hm : mm < 131
          · have b2 : (mm : Int) < 131 := by omega
            go_wp2
            go_quiet (fail)
            obtain ⟨M, hM⟩ : ∃ M, matchLen all at_ p = M := ⟨_, rfl⟩
            have hM131 := (matchLen_le all at_ p hat).1
            rw [hM] at hM131
            obtain ⟨hs3, hs4⟩ := HS2.out ⟨hd, hm⟩
            rw [hM] at hs3 hs4
            have HS3 := Lib.hid hs3
            have HS4 := Lib.hid hs4
            have HMM := Lib.hid hM
            clear hM hs3 hs4
            go_wp2_with fail
            refine (length_calls eb at_ p all A ac vt vw _ (w3.drewN (q + nq)) HE3.out (HA3.out.drews (q + nq)) hpa hat hl).mono ?_
            rintro e w6 ⟨rfl, q6, rfl⟩
            rw [HMM.out]
            by_cases hg : mm < M
            · have b3 : (mm : Int) < (M : Int) := by omega
              have HN := Lib.hid (HS3.out hg)
              have hdist : ((at_ - p : Nat) : Int) = (at_ : Int) - (p : Int) := by omega
              go_wp2
              go_quiet (fail)
              go_wp2
              exact ⟨⟨at_ - p, M, _, by rw [hdist], rfl, hM131, hd, rfl, next_i hj HN.out⟩, by simp [intOf]⟩
            · have b3 : ¬ (mm : Int) < (M : Int) := by omega
              have HN := Lib.hid (HS4.out hg)
              go_wp2
              exact ⟨⟨dd, mm, _, rfl, rfl, hmm, hdd, rfl, next_i hj HN.out⟩, by simp [intOf]⟩
          · have b2 : ¬ (mm : Int) < 131 := by omega
            have d2 : decide ((mm : Int) < 131) = false := decide_eq_false b2
            have hx := HS1.out (fun h => hm h.2)
            obtain ⟨rfl, rfl⟩ : dd = D ∧ mm = N := by cases hx; exact ⟨rfl, rfl⟩
            clear hx
            go_wp2
            go_quiet (fail)
            go_wp2
            go_ret2
            exact ⟨rfl, below_drews (below_drews HB3.out _) _⟩
        · have b1 : ¬ (at_ : Int) - (p : Int) ≤ 4096 := by omega
          have d1 : decide ((at_ : Int) - (p : Int) ≤ 4096) = false := decide_eq_false b1
          have hx := HS1.out (fun h => hd h.1)
          obtain ⟨rfl, rfl⟩ : dd = D ∧ mm = N := by cases hx; exact ⟨rfl, rfl⟩
          clear hx
          go_wp2
          go_quiet (fail)
          go_wp2
          go_ret2
          exact ⟨rfl, below_drews (below_drews HB3.out _) _⟩
      · obtain ⟨rfl, rfl⟩ : dd = D ∧ mm = N := by have hx := hfin.out; cases hx; exact ⟨rfl, rfl⟩
        go_wp2
        go_quiet (fail)
        go_wp2
        go_ret2
        exact ⟨rfl, below_drews (below_drews HB3.out _) _⟩
  · rw [decide_eq_false hc]
    have hbn := HDN.out
    rw [best_none all at_ hat hc] at hbn
    obtain ⟨rfl, rfl⟩ : D = 0 ∧ N = 0 := by cases hbn; exact ⟨rfl, rfl⟩
    clear hbn
    go_wp2
    go_ret2
    exact ⟨rfl, HB3.out⟩
end Go.Proofs.Ytfdkhopionknaaa
