/- Decode (the reference's text). -/
import Derived.Test.YtfdkhopionknaaaDecP
import Derived.Test.YtfdkhopionknaaaEncR
import Derived.Test.YtfdkhopionknaaaRdrC
namespace Go.Proofs.Ytfdkhopionknaaa
open Go.RowKit
set_option linter.unusedVariables false
set_option linter.unusedSimpArgs false
attribute [local go_sem ↓] run_load_sec run_build_sec
attribute [local go_sem] isSec_secV unSec_secV

/-- An append to sectors leaves bytes elsewhere as they were. -/
theorem own_grew {W W2 : World} {v v2 u : Value} {n m b1 b2 : Nat} {xs ys : List Value} (h : Own W b1 38 8 v n xs) (k : Own W b2 5 1 u m ys) (g : Grew W W2 v v2) : Own W2 b2 5 1 u m ys := by
  refine k.kept g.grown ?_
  rcases k.2 with ⟨rfl, _⟩ | ⟨g1, _, _, cur1, rfl, _, hg1, _⟩
  · exact .inl rfl
  · refine .inr (fun e => ?_)
    rcases h.2 with ⟨rfl, _⟩ | ⟨g2, _, _, cur2, rfl, _, hg2, _⟩
    · simp [Value.ownBlock] at e
    · simp only [Value.ownBlock, Option.some.injEq] at e
      subst e
      rw [hg1] at hg2
      cases hg2
def elemG (kd k : Nat) (bs : List UInt8) : Sec := if kd = 0 then secOf (bs.drop (8 * k)) else if kd = 1 then secOf bs else Sec.zero
theorem grpG_snoc (kd k : Nat) (bs : List UInt8) : grpG kd (k + 1) bs = grpG kd k bs ++ [elemG kd k bs] := by
  unfold grpG elemG
  split
  · exact secsN_snoc k bs
  · split <;> exact List.replicate_succ'
theorem secOf_take (l : List UInt8) : secOf (l.take 8) = secOf l := by simp [secOf, List.getD, List.getElem?_take]
def lenU : Value → Nat
  | .slice _ n _ => n
  | _ => 0
theorem secAt_row {W : World} {g : Nat} {s : Sec} {t : TypeId} (h : W.heap[g]? = some (.cells s.cells.toArray t (0, 0))) : SecAt W ⟨g, 0, none⟩ s := by
  intro j u hj
  rw [Addr.add_lit, Nat.zero_add, cell_of_row _ _ j _ _ _ h]
  simpa using hj
theorem put_row {bs : List UInt8} (h : 8 ≤ bs.length) (zs : List Value) (hz : zs.length = 8) : (zs.take 0 ++ ((bs.take 8).map B ++ zs.drop (0 + ((bs.take 8).map B).length))) = (secOf bs).cells := by
  have e : (secOf bs).cells = (bs.take 8).map B := by unfold Sec.cells; rw [bytes_secOf bs h]
  have hl : ((bs.take 8).map B).length = 8 := by rw [List.length_map, List.length_take]; omega
  rw [e, hl, List.take_zero, List.nil_append, List.drop_eq_nil_of_le (by omega), List.append_nil]

set_option maxRecDepth 20000 in
set_option maxHeartbeats 6000000 in
theorem refDecode_mid (A : Option Addr) (c : Nat) (bs : List UInt8) (m : Nat) (hm : m ≤ 4096) (hm0 : 0 < m) (w : World) (h : Bytes w A c bs) (hlen : bs.length ≤ 1099511627776) :
    Calls Try.prog 24 #[.slice A bs.length c, .int .i64 (m : Int)] w (Decoded w (decM m bs)) := by
  have b1 : (0 : Int) ≤ (m : Int) := by omega
  have b2 : (m : Int) ≤ 4096 := by omega
  have b3 : (0 : Int) < (m : Int) := by omega
  have hM : m ≤ 4096 := by omega
  have HH := Lib.hid h
  clear h
  go_enter Try.func24, Try.ntmps24
  go_wp2
  go_loopw [6, 7] (fun v u wr => ∃ (A4 : Option Addr) (c4 : Nat) (bs4 : List UInt8) (O4 : Option Addr) (oc4 : Nat) (out4 : List Sec), v = .slice O4 out4.length oc4 ∧ u = .slice A4 bs4.length c4 ∧ bs4.length ≤ bs.length ∧ out4.length ≤ m ∧ Hid (Bytes wr A4 c4 bs4) ∧ Hid (Own wr w.heap.size 38 8 (.slice O4 out4.length oc4) out4.length ((flat out4).map B)) ∧ Hid (decL m bs4 out4 = decL m bs []) ∧ Hid (Below w.heap.size w wr)) (fun v u wr => lenU u)
  case atStart => exact ⟨A, c, bs, none, 0, [], rfl, rfl, Nat.le_refl _, Nat.zero_le _, HH.out, Own.nil _ _ _ _, rfl, Below.refl _ _⟩
  case round =>
    obtain ⟨A4, c4, bs4, O4, oc4, out4, rfl, rfl, hb4, ho4, HY4, HO4, HD4, HB4⟩ := hrel
    by_cases hne : 0 < bs4.length
    · have b9 : (0 : Int) < (bs4.length : Int) := by omega
      obtain ⟨⟨n, k, er⟩, hn⟩ : ∃ r, numG bs4 0 0 = r := ⟨_, rfl⟩
      obtain ⟨hle1, hle2, hle3⟩ := numG_le bs4 0 0 n k er hn
      have HN := Lib.hid hn
      clear hn
      go_wp2_with fail
      refine (refInt_calls A4 c4 bs4 wr HY4.out (by omega)).mono ?_
      rintro e w1 ⟨n', k', er', v', hn', rfl, hb1, ho1, hz1⟩
      rw [HN.out] at hn'
      cases hn'
      have HB1 := Lib.hid (HB4.out.trans (hb1.mono HB4.out.size))
      have HO1 := Lib.hid (HO4.out.below hb1)
      have HWR := Lib.hid HB4.out.size
      by_cases he : er = 0
      · subst he
        obtain ⟨h1, h2, h3⟩ := hle1 rfl
        obtain ⟨bs1, hbs1⟩ : ∃ x, x = bs4.drop k := ⟨_, rfl⟩
        have hl1 : bs1.length = bs4.length - k := by rw [hbs1, List.length_drop]
        have ho1' := ho1 rfl
        rw [← hbs1, ← hl1] at ho1'
        obtain ⟨A1, c1, rfl, _⟩ := ho1'.rd
        have HR1 := Lib.hid (ho1'.mono (base' := w.heap.size) HWR.out)
        have HBS1 := Lib.hid hbs1
        have hl1a : bs1.length ≤ bs4.length - k := by omega
        have HL1 := Lib.hid hl1
        clear hbs1 ho1 ho1' hz1 hb1 hle1 hle2 hle3
        obtain ⟨kd, hkd⟩ : ∃ x, n % 4 = x := ⟨_, rfl⟩
        obtain ⟨cn, hcn⟩ : ∃ x, n / 4 = x := ⟨_, rfl⟩
        have e1 : (n : Int).tmod 4 = (kd : Int) := by rw [← hkd, Int.tmod_eq_emod_of_nonneg (by omega)]; omega
        have e2 : (n : Int).tdiv 4 = (cn : Int) := by rw [← hcn, Int.tdiv_eq_ediv_of_nonneg (by omega)]; omega
        have HKD := Lib.hid hkd
        have HCN := Lib.hid hcn
        have hkd4 : kd ≤ 3 := by omega
        have hcnb : cn ≤ 9007199254740991 := by omega
        by_cases hf : 2 < kd ∨ cn = 0
        · have hst : stepG m bs4 out4 = (3, [], []) := stepG_form HN.out (by rw [hkd, hcn]; exact hf)
          have HDEC := Lib.hid (show decM m bs = (3, []) from decM_err (HD4.out.symm.trans ((decL_err (by omega) (by rw [hst]; decide)).trans (by rw [hst]))) (by decide))
          clear hst hkd hcn hl1
          by_cases hk3 : kd = 3
          · have b1 : ((kd : Int) == 3) = true := by rw [beq_iff_eq]; omega
            go_wp2
            go_ret2
            rw [HDEC.out]
            exact ⟨_, rfl, Own.nil _ _ _ _, HB1.out⟩
          · have b1 : ((kd : Int) == 3) = false := by rw [beq_eq_false_iff_ne]; omega
            have b2 : ((cn : Int) == 0) = true := by rw [beq_iff_eq]; omega
            go_wp2
            go_ret2
            rw [HDEC.out]
            exact ⟨_, rfl, Own.nil _ _ _ _, HB1.out⟩
        · have hnf : ¬ (2 < n % 4 ∨ n / 4 = 0) := by rw [hkd, hcn]; exact hf
          have b1 : ((kd : Int) == 3) = false := by rw [beq_eq_false_iff_ne]; omega
          have b2 : ((cn : Int) == 0) = false := by rw [beq_eq_false_iff_ne]; omega
          have hsub : ((m : Int) : Int) - (out4.length : Int) = ((m - out4.length : Nat) : Int) := by omega
          have HNF := Lib.hid hnf
          by_cases hl : m < cn + out4.length
          · have b4 : ((m - out4.length : Nat) : Int) < (cn : Int) := by omega
            have hst : stepG m bs4 out4 = (5, [], []) := stepG_long HN.out hnf (by rw [hcn]; exact hl)
            have HDEC := Lib.hid (show decM m bs = (5, []) from decM_err (HD4.out.symm.trans ((decL_err (by omega) (by rw [hst]; decide)).trans (by rw [hst]))) (by decide))
            clear hst hkd hcn hl1 hnf
            go_wp2
            go_ret2
            rw [HDEC.out]
            exact ⟨_, rfl, Own.nil _ _ _ _, HB1.out⟩
          · have b4 : ¬ ((m - out4.length : Nat) : Int) < (cn : Int) := by omega
            have b4n : ¬ m - out4.length < cn := by omega
            have b4d : decide (m - out4.length < cn) = false := decide_eq_false b4n
            have HL' := Lib.hid (show ¬ m < n / 4 + out4.length by rw [hcn]; exact hl)
            have hkd3 : kd = 0 ∨ kd = 1 ∨ kd = 2 := by omega
            have hcm : cn + out4.length ≤ m := by omega
            clear hkd hcn hl1 hnf
            rcases hkd3 with rfl | rfl | rfl
            · have hst : 8 * cn ≤ bs1.length → stepG m bs4 out4 = (0, bs1.drop (8 * cn), out4 ++ grpG 0 cn bs1) := fun hge => by
                rw [stepG_ok HN.out HNF.out HL'.out (by rw [HKD.out, HCN.out, ← HL1.out]; simp [needG]; try omega), HKD.out, HCN.out, HBS1.out, List.drop_drop]
                simp [needG]
              have hst1 : ¬ 8 * cn ≤ bs1.length → stepG m bs4 out4 = (10, [], []) := fun hge => by
                rw [stepG_torn HN.out HNF.out HL'.out (by rw [HKD.out, HCN.out, ← HL1.out]; simp [needG]; try omega)]
              have HST := Lib.hid hst
              have HST1 := Lib.hid hst1
              clear hst hst1
              by_cases hge : 8 * cn ≤ bs1.length
              · have b7 : ¬ (bs1.length : Int) < ((cn : Int) * 8) := by omega
                have b7' : decide ((bs1.length : Int) < ((cn : Int) * 8)) = false := decide_eq_false b7
                go_wp2
                go_loopw [14, 6] (fun i v wz => ∃ (j : Nat) (O5 : Option Addr) (oc5 : Nat) (out5 : List Sec), i = .int .i64 j ∧ v = .slice O5 out5.length oc5 ∧ j ≤ cn ∧ out5.length ≤ out4.length + j ∧ Hid (out5 = out4 ++ grpG 0 j bs1) ∧ Hid (Own wz w.heap.size 38 8 (.slice O5 out5.length oc5) out5.length ((flat out5).map B)) ∧ Hid (Own wz w.heap.size 5 1 (.slice A1 bs1.length c1) bs1.length (bs1.map B)) ∧ Hid (Below w.heap.size w wz)) (fun i v wz => cn - (intOf i).toNat)
                case atStart => exact ⟨0, O4, oc4, out4, rfl, rfl, Nat.zero_le _, Nat.le_refl _, by show _ = _; simp [grpG, secsN], HO1.out, HR1.out, HB1.out⟩
                case round =>
                  obtain ⟨j, O5, oc5, out5, rfl, rfl, hj, hlo5, hout5, ho5, hr5, hbw5⟩ := hrel
                  have HY5 := Lib.hid (show Bytes wr A1 c1 bs1 by obtain ⟨A', c', e, hr⟩ := hr5.out.rd; cases e; exact hr)
                  by_cases hjc : j < cn
                  · obtain ⟨w5, e5, hg5, hb5, hz5⟩ := alloc_facts wr #[.int .u8 0, .int .u8 0, .int .u8 0, .int .u8 0, .int .u8 0, .int .u8 0, .int .u8 0, .int .u8 0] 38
                    obtain ⟨A6, c6, bs6, hbs6, hsl6, hy6⟩ := bslice_lohi (HY5.out.below hb5) (j * 8) (j * 8 + 8) (by omega) (by omega)
                    have hl6 : bs6.length = 8 := by rw [hbs6.out, List.length_take, List.length_drop]; omega
                    rw [hl6] at hsl6
                    have e6a : ((j * 8 : Nat) : Int) = (j : Int) * 8 := by omega
                    have e6b : ((j * 8 + 8 : Nat) : Int) = ((j : Int) + 1) * 8 := by omega
                    rw [e6a, e6b] at hsl6
                    have hw6a : IntKind.i64.wrap ((j : Int) * 8) = (j : Int) * 8 := by rw [IntKind.wrap_i64]; omega
                    have hw6b : IntKind.i64.wrap ((j : Int) + 1) = (j : Int) + 1 := by rw [IntKind.wrap_i64]; omega
                    have hw6c : IntKind.i64.wrap (((j : Int) + 1) * 8) = ((j : Int) + 1) * 8 := by rw [IntKind.wrap_i64]; omega
                    have b6a : (0 : Int) ≤ (j : Int) * 8 := by omega
                    have b6b : (j : Int) * 8 ≤ ((j : Int) + 1) * 8 := by omega
                    have b6c : ((j : Int) + 1) * 8 ≤ (bs1.length : Int) := by omega
                    obtain ⟨a6, rfl⟩ := hy6.some_of (show 0 < bs6.length by omega)
                    have hrow6 : Row w5.drew a6 ((bs6.take 8).map B) := by rw [List.take_of_length_le (by omega)]; exact hy6.row a6 rfl
                    have hs6 : secOf bs6 = elemG 0 j bs1 := by
                      show _ = secOf (bs1.drop (8 * j))
                      rw [hbs6.out, show j * 8 + 8 - j * 8 = 8 by omega, show j * 8 = 8 * j by omega]
                      exact secOf_take _
                    go_wp2_with fail
                    go_region_held3 (fun wx => True) (trivial)
                      (first | ((refine step_copyEls E24 rfl (.tmp 66) (.tmp 73) rfl (g := wr.heap.size) (off := 0) (dLen := 8) (dCap := 8) (sLen := 8) (sCap := c6) (k := 8) (cs := (bs6.take 8).map B) (by rfl) (by rfl) hg5 (by decide) (by rw [List.length_map, List.length_take]; omega) hrow6 (by rw [List.length_map, List.length_take]; simp; omega) (oneCell_B _) ?_; intro w6 hg6 hgr6 hz6)))
                    have hg6' : w6.heap[wr.heap.size]? = some (.cells (elemG 0 j bs1).cells.toArray 38 (0, 0)) := by rw [hg6, ← hs6]; exact congrArg (fun l : List Value => some (Obj.cells l.toArray 38 (0, 0))) (put_row (by omega) _ rfl)
                    have hb6 : Below wr.heap.size wr w6 := (below_drews hb5 1).grown hgr6 (by show _ ≤ w5.heap.size; omega) (fun k hk => by cases hk; exact Nat.le_refl _)
                    clear hz6 hg6 hgr6 hsl6 hy6 hrow6 hs6 hw6a hw6b hw6c b6a b6b b6c e6a e6b hbs6 hl6
                    obtain ⟨p1, q1⟩ := secP_of (secAt_row hg6')
                    have HO6 := Lib.hid (ho5.out.below hb6)
                    have HR6 := Lib.hid (hr5.out.below hb6)
                    have HBW6 := Lib.hid (hbw5.out.trans (hb6.mono hbw5.out.size))
                    have hs6 : w.heap.size ≤ w6.heap.size := HBW6.out.size
                    clear hg6' hb6 hg5 hb5 hz5
                    go_wp2_with (at_builtin; refine Stop.at ?_)
                    refine Stop.go ?_
                    refine step_append E22 rfl (.tmp 81) (.tmp 83) rfl w.heap.size rfl (HO6.out.alloc _) rfl (Secs.one w6 (elemG 0 j bs1)) rfl (oneCell_B _) (by omega) (by decide) (by simp; omega) ?_
                    intro v7 w7 ho7 hg7
                    obtain ⟨O7, oc7, rfl, _⟩ := ho7.rd
                    obtain ⟨out7, hout7⟩ : ∃ y, y = out5 ++ [elemG 0 j bs1] := ⟨_, rfl⟩
                    have hl7 : out7.length = out5.length + 1 := by rw [hout7, List.length_append]; rfl
                    rw [← List.map_append, ← flat_append, ← hout7, ← hl7] at ho7
                    have HS7 := Lib.hid (show out7 = out4 ++ grpG 0 (j + 1) bs1 by rw [hout7, hout5.out, grpG_snoc, List.append_assoc])
                    have HB7 := Lib.hid (HBW6.out.trans (((Below.refl _ _).alloc hs6 _).trans (hg7.below (HO6.out.alloc _) (by simp; omega))))
                    have HR7 := Lib.hid (own_grew (HO6.out.alloc _) (HR6.out.alloc _) hg7)
                    have HO7 := Lib.hid ho7
                    have hl7a : out7.length ≤ out4.length + (j + 1) := by omega
                    rw [← hl7]
                    clear hg7 ho7 hout7 hl7 p1 q1
                    go_wp2
                    go_roundw
                    case rel => exact ⟨j + 1, O7, oc7, out7, rfl, rfl, by omega, hl7a, HS7, HO7, HR7, HB7⟩
                    case measure => simp [intOf]; omega
                  · have hjn : j = cn := by omega
                    obtain ⟨A9, c9, bs9, hbs9, hsl9, hy9⟩ := bslice_lo HY5.out (cn * 8) (by omega)
                    have hsl9' : ∀ w', (Instr.sliceAt 24 (.slice A1 bs1.length c1) (some (.int .i64 ((cn : Int) * 8))) none none).run Try.prog w' = .ok (.slice A9 bs9.length c9) w' := fun w' => by have := hsl9 w'; rw [show ((cn * 8 : Nat) : Int) = (cn : Int) * 8 by omega] at this; exact this
                    have hst := HST.out hge
                    have HD9 := Lib.hid (show decL m bs9 out5 = decL m bs [] by
                      rw [← HD4.out, decL_ok (m := m) (bs := bs4) (out := out4) (by omega) (by rw [hst]), hst, hbs9.out, hout5.out, hjn, show cn * 8 = 8 * cn by omega])
                    have hl9 : bs9.length ≤ bs1.length := by rw [hbs9.out, List.length_drop]; omega
                    have HY9 := Lib.hid hy9
                    have b8a : (0 : Int) ≤ ((cn : Int) * 8) := by omega
                    have b8b : ((cn : Int) * 8) ≤ (bs1.length : Int) := by omega
                    clear hsl9 hst hy9
                    go_wp2
                    go_roundw
                    case rel => exact ⟨A9, c9, bs9, O5, oc5, out5, rfl, rfl, by omega, by omega, HY9, ho5, HD9, hbw5⟩
                    case measure => simp [lenU]; omega
              · have hdec : decM m bs = (10, []) := decM_err (HD4.out.symm.trans ((decL_err (by omega) (by rw [HST1.out hge]; decide)).trans (by rw [HST1.out hge]))) (by decide)
                have HDEC := Lib.hid hdec
                have b7 : (bs1.length : Int) < ((cn : Int) * 8) := by omega
                have b7' : decide ((bs1.length : Int) < ((cn : Int) * 8)) = true := decide_eq_true b7
                clear hdec
                go_wp2
                go_ret2
                rw [HDEC.out]
                exact ⟨_, rfl, Own.nil _ _ _ _, HB1.out⟩
            · have hst : 8 * 1 ≤ bs1.length → stepG m bs4 out4 = (0, bs1.drop (8 * 1), out4 ++ grpG 1 cn bs1) := fun hge => by
                rw [stepG_ok HN.out HNF.out HL'.out (by rw [HKD.out, HCN.out, ← HL1.out]; simp [needG]; try omega), HKD.out, HCN.out, HBS1.out, List.drop_drop]
                simp [needG]
              have hst1 : ¬ 8 * 1 ≤ bs1.length → stepG m bs4 out4 = (10, [], []) := fun hge => by
                rw [stepG_torn HN.out HNF.out HL'.out (by rw [HKD.out, HCN.out, ← HL1.out]; simp [needG]; try omega)]
              have HST := Lib.hid hst
              have HST1 := Lib.hid hst1
              clear hst hst1
              by_cases hge : 8 * 1 ≤ bs1.length
              · have b7 : ¬ (bs1.length : Int) < 8 := by omega
                have b7' : decide ((bs1.length : Int) < 8) = false := decide_eq_false b7
                go_wp2
                go_loopw [14, 6] (fun i v wz => ∃ (j : Nat) (O5 : Option Addr) (oc5 : Nat) (out5 : List Sec), i = .int .i64 j ∧ v = .slice O5 out5.length oc5 ∧ j ≤ cn ∧ out5.length ≤ out4.length + j ∧ Hid (out5 = out4 ++ grpG 1 j bs1) ∧ Hid (Own wz w.heap.size 38 8 (.slice O5 out5.length oc5) out5.length ((flat out5).map B)) ∧ Hid (Own wz w.heap.size 5 1 (.slice A1 bs1.length c1) bs1.length (bs1.map B)) ∧ Hid (Below w.heap.size w wz)) (fun i v wz => cn - (intOf i).toNat)
                case atStart => exact ⟨0, O4, oc4, out4, rfl, rfl, Nat.zero_le _, Nat.le_refl _, by show _ = _; simp [grpG, secsN], HO1.out, HR1.out, HB1.out⟩
                case round =>
                  obtain ⟨j, O5, oc5, out5, rfl, rfl, hj, hlo5, hout5, ho5, hr5, hbw5⟩ := hrel
                  have HY5 := Lib.hid (show Bytes wr A1 c1 bs1 by obtain ⟨A', c', e, hr⟩ := hr5.out.rd; cases e; exact hr)
                  by_cases hjc : j < cn
                  · obtain ⟨w5, e5, hg5, hb5, hz5⟩ := alloc_facts wr #[.int .u8 0, .int .u8 0, .int .u8 0, .int .u8 0, .int .u8 0, .int .u8 0, .int .u8 0, .int .u8 0] 38
                    obtain ⟨A6, c6, bs6, hbs6, hsl6, hy6⟩ := bslice_hi (HY5.out.below hb5) 8 (by omega)
                    have hl6 : bs6.length = 8 := by rw [hbs6.out, List.length_take]; omega
                    rw [hl6] at hsl6
                    have hsl6' : ∀ w', (Instr.sliceAt 24 (.slice A1 bs1.length c1) none (some (.int .i64 8)) none).run Try.prog w' = .ok (.slice A6 8 c6) w' := hsl6
                    have b6c : (8 : Int) ≤ (bs1.length : Int) := by omega
                    obtain ⟨a6, rfl⟩ := hy6.some_of (show 0 < bs6.length by omega)
                    have hrow6 : Row w5.drew a6 ((bs6.take 8).map B) := by rw [List.take_of_length_le (by omega)]; exact hy6.row a6 rfl
                    have hs6 : secOf bs6 = elemG 1 j bs1 := by
                      show _ = secOf bs1
                      rw [hbs6.out]
                      exact secOf_take _
                    clear hsl6
                    go_wp2_with fail
                    go_region_held3 (fun wx => True) (trivial)
                      (first | ((refine step_copyEls E24 rfl (.tmp 77) (.tmp 79) rfl (g := wr.heap.size) (off := 0) (dLen := 8) (dCap := 8) (sLen := 8) (sCap := c6) (k := 8) (cs := (bs6.take 8).map B) (by rfl) (by rfl) hg5 (by decide) (by rw [List.length_map, List.length_take]; omega) hrow6 (by rw [List.length_map, List.length_take]; simp; omega) (oneCell_B _) ?_; intro w6 hg6 hgr6 hz6)))
                    have hg6' : w6.heap[wr.heap.size]? = some (.cells (elemG 1 j bs1).cells.toArray 38 (0, 0)) := by rw [hg6, ← hs6]; exact congrArg (fun l : List Value => some (Obj.cells l.toArray 38 (0, 0))) (put_row (by omega) _ rfl)
                    have hb6 : Below wr.heap.size wr w6 := (below_drews hb5 1).grown hgr6 (by show _ ≤ w5.heap.size; omega) (fun k hk => by cases hk; exact Nat.le_refl _)
                    clear hz6 hg6 hgr6 hsl6' hy6 hrow6 hs6 b6c hbs6 hl6
                    obtain ⟨p1, q1⟩ := secP_of (secAt_row hg6')
                    have HO6 := Lib.hid (ho5.out.below hb6)
                    have HR6 := Lib.hid (hr5.out.below hb6)
                    have HBW6 := Lib.hid (hbw5.out.trans (hb6.mono hbw5.out.size))
                    have hs6 : w.heap.size ≤ w6.heap.size := HBW6.out.size
                    clear hg6' hb6 hg5 hb5 hz5
                    go_wp2_with (at_builtin; refine Stop.at ?_)
                    refine Stop.go ?_
                    refine step_append E22 rfl (.tmp 81) (.tmp 83) rfl w.heap.size rfl (HO6.out.alloc _) rfl (Secs.one w6 (elemG 1 j bs1)) rfl (oneCell_B _) (by omega) (by decide) (by simp; omega) ?_
                    intro v7 w7 ho7 hg7
                    obtain ⟨O7, oc7, rfl, _⟩ := ho7.rd
                    obtain ⟨out7, hout7⟩ : ∃ y, y = out5 ++ [elemG 1 j bs1] := ⟨_, rfl⟩
                    have hl7 : out7.length = out5.length + 1 := by rw [hout7, List.length_append]; rfl
                    rw [← List.map_append, ← flat_append, ← hout7, ← hl7] at ho7
                    have HS7 := Lib.hid (show out7 = out4 ++ grpG 1 (j + 1) bs1 by rw [hout7, hout5.out, grpG_snoc, List.append_assoc])
                    have HB7 := Lib.hid (HBW6.out.trans (((Below.refl _ _).alloc hs6 _).trans (hg7.below (HO6.out.alloc _) (by simp; omega))))
                    have HR7 := Lib.hid (own_grew (HO6.out.alloc _) (HR6.out.alloc _) hg7)
                    have HO7 := Lib.hid ho7
                    have hl7a : out7.length ≤ out4.length + (j + 1) := by omega
                    rw [← hl7]
                    clear hg7 ho7 hout7 hl7 p1 q1
                    go_wp2
                    go_roundw
                    case rel => exact ⟨j + 1, O7, oc7, out7, rfl, rfl, by omega, hl7a, HS7, HO7, HR7, HB7⟩
                    case measure => simp [intOf]; omega
                  · have hjn : j = cn := by omega
                    obtain ⟨A9, c9, bs9, hbs9, hsl9, hy9⟩ := bslice_lo HY5.out (1 * 8) (by omega)
                    have hsl9' : ∀ w', (Instr.sliceAt 24 (.slice A1 bs1.length c1) (some (.int .i64 8)) none none).run Try.prog w' = .ok (.slice A9 bs9.length c9) w' := hsl9
                    have hst := HST.out hge
                    have HD9 := Lib.hid (show decL m bs9 out5 = decL m bs [] by
                      rw [← HD4.out, decL_ok (m := m) (bs := bs4) (out := out4) (by omega) (by rw [hst]), hst, hbs9.out, hout5.out, hjn, show 1 * 8 = 8 * 1 by omega])
                    have hl9 : bs9.length ≤ bs1.length := by rw [hbs9.out, List.length_drop]; omega
                    have HY9 := Lib.hid hy9
                    have b8a : (0 : Int) ≤ 8 := by omega
                    have b8b : 8 ≤ (bs1.length : Int) := by omega
                    clear hsl9 hst hy9
                    go_wp2
                    go_roundw
                    case rel => exact ⟨A9, c9, bs9, O5, oc5, out5, rfl, rfl, by omega, by omega, HY9, ho5, HD9, hbw5⟩
                    case measure => simp [lenU]; omega
              · have hdec : decM m bs = (10, []) := decM_err (HD4.out.symm.trans ((decL_err (by omega) (by rw [HST1.out hge]; decide)).trans (by rw [HST1.out hge]))) (by decide)
                have HDEC := Lib.hid hdec
                have b7 : (bs1.length : Int) < 8 := by omega
                have b7' : decide ((bs1.length : Int) < 8) = true := decide_eq_true b7
                clear hdec
                go_wp2
                go_ret2
                rw [HDEC.out]
                exact ⟨_, rfl, Own.nil _ _ _ _, HB1.out⟩
            · have hst : 8 * 0 ≤ bs1.length → stepG m bs4 out4 = (0, bs1.drop (8 * 0), out4 ++ grpG 2 cn bs1) := fun hge => by
                rw [stepG_ok HN.out HNF.out HL'.out (by rw [HKD.out, HCN.out, ← HL1.out]; simp [needG]; try omega), HKD.out, HCN.out, HBS1.out, List.drop_drop]
                simp [needG]
              have hst1 : ¬ 8 * 0 ≤ bs1.length → stepG m bs4 out4 = (10, [], []) := fun hge => by
                rw [stepG_torn HN.out HNF.out HL'.out (by rw [HKD.out, HCN.out, ← HL1.out]; simp [needG]; try omega)]
              have HST := Lib.hid hst
              have HST1 := Lib.hid hst1
              clear hst hst1
              by_cases hge : 8 * 0 ≤ bs1.length
              · have b7 : ¬ (bs1.length : Int) < 0 := by omega
                have b7' : decide ((bs1.length : Int) < 0) = false := decide_eq_false b7
                go_wp2
                go_loopw [14, 6] (fun i v wz => ∃ (j : Nat) (O5 : Option Addr) (oc5 : Nat) (out5 : List Sec), i = .int .i64 j ∧ v = .slice O5 out5.length oc5 ∧ j ≤ cn ∧ out5.length ≤ out4.length + j ∧ Hid (out5 = out4 ++ grpG 2 j bs1) ∧ Hid (Own wz w.heap.size 38 8 (.slice O5 out5.length oc5) out5.length ((flat out5).map B)) ∧ Hid (Own wz w.heap.size 5 1 (.slice A1 bs1.length c1) bs1.length (bs1.map B)) ∧ Hid (Below w.heap.size w wz)) (fun i v wz => cn - (intOf i).toNat)
                case atStart => exact ⟨0, O4, oc4, out4, rfl, rfl, Nat.zero_le _, Nat.le_refl _, by show _ = _; simp [grpG, secsN], HO1.out, HR1.out, HB1.out⟩
                case round =>
                  obtain ⟨j, O5, oc5, out5, rfl, rfl, hj, hlo5, hout5, ho5, hr5, hbw5⟩ := hrel
                  have HY5 := Lib.hid (show Bytes wr A1 c1 bs1 by obtain ⟨A', c', e, hr⟩ := hr5.out.rd; cases e; exact hr)
                  by_cases hjc : j < cn
                  · obtain ⟨w5, e5, hg5, hb5, hz5⟩ := alloc_facts wr #[.int .u8 0, .int .u8 0, .int .u8 0, .int .u8 0, .int .u8 0, .int .u8 0, .int .u8 0, .int .u8 0] 38
                    obtain ⟨w6, hw6⟩ : ∃ w6, w5 = w6 := ⟨_, rfl⟩
                    have hg6' : w5.heap[wr.heap.size]? = some (.cells (elemG 2 j bs1).cells.toArray 38 (0, 0)) := hg5
                    have hb6 : Below wr.heap.size wr w5 := hb5
                    clear hw6
                    obtain ⟨p1, q1⟩ := secP_of (secAt_row hg6')
                    have HO6 := Lib.hid (ho5.out.below hb6)
                    have HR6 := Lib.hid (hr5.out.below hb6)
                    have HBW6 := Lib.hid (hbw5.out.trans (hb6.mono hbw5.out.size))
                    have hs6 : w.heap.size ≤ w5.heap.size := HBW6.out.size
                    clear hg6' hb6 hg5 hb5 hz5
                    go_wp2_with (at_builtin; refine Stop.at ?_)
                    refine Stop.go ?_
                    refine step_append E22 rfl (.tmp 81) (.tmp 83) rfl w.heap.size rfl (HO6.out.alloc _) rfl (Secs.one w5 (elemG 2 j bs1)) rfl (oneCell_B _) (by omega) (by decide) (by simp; omega) ?_
                    intro v7 w7 ho7 hg7
                    obtain ⟨O7, oc7, rfl, _⟩ := ho7.rd
                    obtain ⟨out7, hout7⟩ : ∃ y, y = out5 ++ [elemG 2 j bs1] := ⟨_, rfl⟩
                    have hl7 : out7.length = out5.length + 1 := by rw [hout7, List.length_append]; rfl
                    rw [← List.map_append, ← flat_append, ← hout7, ← hl7] at ho7
                    have HS7 := Lib.hid (show out7 = out4 ++ grpG 2 (j + 1) bs1 by rw [hout7, hout5.out, grpG_snoc, List.append_assoc])
                    have HB7 := Lib.hid (HBW6.out.trans (((Below.refl _ _).alloc hs6 _).trans (hg7.below (HO6.out.alloc _) (by simp; omega))))
                    have HR7 := Lib.hid (own_grew (HO6.out.alloc _) (HR6.out.alloc _) hg7)
                    have HO7 := Lib.hid ho7
                    have hl7a : out7.length ≤ out4.length + (j + 1) := by omega
                    rw [← hl7]
                    clear hg7 ho7 hout7 hl7 p1 q1
                    go_wp2
                    go_roundw
                    case rel => exact ⟨j + 1, O7, oc7, out7, rfl, rfl, by omega, hl7a, HS7, HO7, HR7, HB7⟩
                    case measure => simp [intOf]; omega
                  · have hjn : j = cn := by omega
                    obtain ⟨A9, c9, bs9, hbs9, hsl9, hy9⟩ := bslice_lo HY5.out (0 * 8) (by omega)
                    have hsl9' : ∀ w', (Instr.sliceAt 24 (.slice A1 bs1.length c1) (some (.int .i64 0)) none none).run Try.prog w' = .ok (.slice A9 bs9.length c9) w' := hsl9
                    have hst := HST.out hge
                    have HD9 := Lib.hid (show decL m bs9 out5 = decL m bs [] by
                      rw [← HD4.out, decL_ok (m := m) (bs := bs4) (out := out4) (by omega) (by rw [hst]), hst, hbs9.out, hout5.out, hjn, show 0 * 8 = 8 * 0 by omega])
                    have hl9 : bs9.length ≤ bs1.length := by rw [hbs9.out, List.length_drop]; omega
                    have HY9 := Lib.hid hy9
                    have b8a : (0 : Int) ≤ 0 := by omega
                    have b8b : 0 ≤ (bs1.length : Int) := by omega
                    clear hsl9 hst hy9
                    go_wp2
                    go_roundw
                    case rel => exact ⟨A9, c9, bs9, O5, oc5, out5, rfl, rfl, by omega, by omega, HY9, ho5, HD9, hbw5⟩
                    case measure => simp [lenU]; omega
              · exact absurd (by omega) hge
      · have HDEC := Lib.hid (show decM m bs = (er, []) from decM_err (HD4.out.symm.trans ((decL_err (by omega) (by rw [stepG_er HN.out he]; exact he)).trans (by rw [stepG_er HN.out he]))) he)
        have hne0 : ((er : Int) != 0) = true := by simp; omega
        have hne1 : (er : Int) ≠ 0 := by omega
        go_wp2
        go_ret2
        rw [HDEC.out]
        exact ⟨_, rfl, Own.nil _ _ _ _, HB1.out⟩
    · obtain rfl : bs4 = [] := List.eq_nil_of_length_eq_zero (by omega)
      have HD5 := Lib.hid (HD4.out.symm.trans (decL_nil m out4))
      obtain ⟨A5, c5, e5, hrd5⟩ := HO4.out.rd
      cases e5
      have HWR := Lib.hid HB4.out.size
      go_wp2_with fail
      refine (refEncode_calls O4 oc4 out4 wr hrd5 (by omega)).mono ?_
      rintro e w5 hf
      obtain ⟨A6, c6, rfl, ho6, hr6, hb6⟩ := hf.parts
      have hby5 : Bytes w5 A c bs := (HH.out.below HB4.out).below hb6
      have HW5 := Lib.hid (HO4.out.below hb6)
      have HB5 := Lib.hid (HB4.out.trans (hb6.mono HWR.out))
      clear hb6 ho6 hf
      go_wp2_with fail
      refine (same_calls A6 A c6 c (encode out4) bs w5 hr6 hby5).mono ?_
      rintro e w6 ⟨rfl, rfl⟩
      by_cases heq : encode out4 = bs
      · have HDEC := Lib.hid (decM_ok HD5.out heq)
        have hd : decide (encode out4 = bs) = true := decide_eq_true heq
        clear hr6 hby5 heq
        go_wp2
        go_ret2
        rw [HDEC.out]
        exact ⟨_, rfl, HW5.out, HB5.out⟩
      · have HDEC := Lib.hid (decM_form HD5.out heq)
        have hd : decide (encode out4 = bs) = false := decide_eq_false heq
        clear hr6 hby5 heq
        go_wp2
        go_ret2
        rw [HDEC.out]
        exact ⟨_, rfl, Own.nil _ _ _ _, HB5.out⟩

set_option maxRecDepth 20000 in
set_option maxHeartbeats 6000000 in
theorem refDecode_zero (A : Option Addr) (c : Nat) (bs : List UInt8) (most : Int) (hneg : most ≤ 0) (w : World) (h : Bytes w A c bs) (hlen : bs.length ≤ 1099511627776) :
    Calls Try.prog 24 #[.slice A bs.length c, .int .i64 most] w (Decoded w (decM 0 bs)) := by
  have b2 : most ≤ 4096 := by omega
  have b3 : ¬ (0 : Int) < most := by omega
  have hM : 0 ≤ 4096 := by omega
  have HH := Lib.hid h
  clear h
  go_enter Try.func24, Try.ntmps24
  go_wp2
  go_loopw [6, 7] (fun v u wr => ∃ (A4 : Option Addr) (c4 : Nat) (bs4 : List UInt8) (O4 : Option Addr) (oc4 : Nat) (out4 : List Sec), v = .slice O4 out4.length oc4 ∧ u = .slice A4 bs4.length c4 ∧ bs4.length ≤ bs.length ∧ out4.length ≤ 0 ∧ Hid (Bytes wr A4 c4 bs4) ∧ Hid (Own wr w.heap.size 38 8 (.slice O4 out4.length oc4) out4.length ((flat out4).map B)) ∧ Hid (decL 0 bs4 out4 = decL 0 bs []) ∧ Hid (Below w.heap.size w wr)) (fun v u wr => lenU u)
  case atStart => exact ⟨A, c, bs, none, 0, [], rfl, rfl, Nat.le_refl _, Nat.zero_le _, HH.out, Own.nil _ _ _ _, rfl, Below.refl _ _⟩
  case round =>
    obtain ⟨A4, c4, bs4, O4, oc4, out4, rfl, rfl, hb4, ho4, HY4, HO4, HD4, HB4⟩ := hrel
    by_cases hne : 0 < bs4.length
    · have b9 : (0 : Int) < (bs4.length : Int) := by omega
      obtain ⟨⟨n, k, er⟩, hn⟩ : ∃ r, numG bs4 0 0 = r := ⟨_, rfl⟩
      obtain ⟨hle1, hle2, hle3⟩ := numG_le bs4 0 0 n k er hn
      have HN := Lib.hid hn
      clear hn
      go_wp2_with fail
      refine (refInt_calls A4 c4 bs4 wr HY4.out (by omega)).mono ?_
      rintro e w1 ⟨n', k', er', v', hn', rfl, hb1, ho1, hz1⟩
      rw [HN.out] at hn'
      cases hn'
      have HB1 := Lib.hid (HB4.out.trans (hb1.mono HB4.out.size))
      have HO1 := Lib.hid (HO4.out.below hb1)
      have HWR := Lib.hid HB4.out.size
      by_cases he : er = 0
      · subst he
        obtain ⟨h1, h2, h3⟩ := hle1 rfl
        obtain ⟨bs1, hbs1⟩ : ∃ x, x = bs4.drop k := ⟨_, rfl⟩
        have hl1 : bs1.length = bs4.length - k := by rw [hbs1, List.length_drop]
        have ho1' := ho1 rfl
        rw [← hbs1, ← hl1] at ho1'
        obtain ⟨A1, c1, rfl, _⟩ := ho1'.rd
        have HR1 := Lib.hid (ho1'.mono (base' := w.heap.size) HWR.out)
        have HBS1 := Lib.hid hbs1
        have hl1a : bs1.length ≤ bs4.length - k := by omega
        have HL1 := Lib.hid hl1
        clear hbs1 ho1 ho1' hz1 hb1 hle1 hle2 hle3
        obtain ⟨kd, hkd⟩ : ∃ x, n % 4 = x := ⟨_, rfl⟩
        obtain ⟨cn, hcn⟩ : ∃ x, n / 4 = x := ⟨_, rfl⟩
        have e1 : (n : Int).tmod 4 = (kd : Int) := by rw [← hkd, Int.tmod_eq_emod_of_nonneg (by omega)]; omega
        have e2 : (n : Int).tdiv 4 = (cn : Int) := by rw [← hcn, Int.tdiv_eq_ediv_of_nonneg (by omega)]; omega
        have HKD := Lib.hid hkd
        have HCN := Lib.hid hcn
        have hkd4 : kd ≤ 3 := by omega
        have hcnb : cn ≤ 9007199254740991 := by omega
        by_cases hf : 2 < kd ∨ cn = 0
        · have hst : stepG 0 bs4 out4 = (3, [], []) := stepG_form HN.out (by rw [hkd, hcn]; exact hf)
          have HDEC := Lib.hid (show decM 0 bs = (3, []) from decM_err (HD4.out.symm.trans ((decL_err (by omega) (by rw [hst]; decide)).trans (by rw [hst]))) (by decide))
          clear hst hkd hcn hl1
          by_cases hk3 : kd = 3
          · have b1 : ((kd : Int) == 3) = true := by rw [beq_iff_eq]; omega
            go_wp2
            go_ret2
            rw [HDEC.out]
            exact ⟨_, rfl, Own.nil _ _ _ _, HB1.out⟩
          · have b1 : ((kd : Int) == 3) = false := by rw [beq_eq_false_iff_ne]; omega
            have b2 : ((cn : Int) == 0) = true := by rw [beq_iff_eq]; omega
            go_wp2
            go_ret2
            rw [HDEC.out]
            exact ⟨_, rfl, Own.nil _ _ _ _, HB1.out⟩
        · have hnf : ¬ (2 < n % 4 ∨ n / 4 = 0) := by rw [hkd, hcn]; exact hf
          have b1 : ((kd : Int) == 3) = false := by rw [beq_eq_false_iff_ne]; omega
          have b2 : ((cn : Int) == 0) = false := by rw [beq_eq_false_iff_ne]; omega
          have hsub : (0 : Int) - (out4.length : Int) = ((0 - out4.length : Nat) : Int) := by omega
          have HNF := Lib.hid hnf
          by_cases hl : 0 < cn + out4.length
          · have b4 : ((0 - out4.length : Nat) : Int) < (cn : Int) := by omega
            have hst : stepG 0 bs4 out4 = (5, [], []) := stepG_long HN.out hnf (by rw [hcn]; exact hl)
            have HDEC := Lib.hid (show decM 0 bs = (5, []) from decM_err (HD4.out.symm.trans ((decL_err (by omega) (by rw [hst]; decide)).trans (by rw [hst]))) (by decide))
            clear hst hkd hcn hl1 hnf
            go_wp2
            go_ret2
            rw [HDEC.out]
            exact ⟨_, rfl, Own.nil _ _ _ _, HB1.out⟩
          · have b4 : ¬ ((0 - out4.length : Nat) : Int) < (cn : Int) := by omega
            have b4n : ¬ 0 - out4.length < cn := by omega
            have b4d : decide (0 - out4.length < cn) = false := decide_eq_false b4n
            have HL' := Lib.hid (show ¬ 0 < n / 4 + out4.length by rw [hcn]; exact hl)
            have hkd3 : kd = 0 ∨ kd = 1 ∨ kd = 2 := by omega
            have hcm : cn + out4.length ≤ 0 := by omega
            clear hkd hcn hl1 hnf
            rcases hkd3 with rfl | rfl | rfl
            all_goals exact absurd hcm (by omega)
      · have HDEC := Lib.hid (show decM 0 bs = (er, []) from decM_err (HD4.out.symm.trans ((decL_err (by omega) (by rw [stepG_er HN.out he]; exact he)).trans (by rw [stepG_er HN.out he]))) he)
        have hne0 : ((er : Int) != 0) = true := by simp; omega
        have hne1 : (er : Int) ≠ 0 := by omega
        go_wp2
        go_ret2
        rw [HDEC.out]
        exact ⟨_, rfl, Own.nil _ _ _ _, HB1.out⟩
    · obtain rfl : bs4 = [] := List.eq_nil_of_length_eq_zero (by omega)
      have HD5 := Lib.hid (HD4.out.symm.trans (decL_nil 0 out4))
      obtain ⟨A5, c5, e5, hrd5⟩ := HO4.out.rd
      cases e5
      have HWR := Lib.hid HB4.out.size
      go_wp2_with fail
      refine (refEncode_calls O4 oc4 out4 wr hrd5 (by omega)).mono ?_
      rintro e w5 hf
      obtain ⟨A6, c6, rfl, ho6, hr6, hb6⟩ := hf.parts
      have hby5 : Bytes w5 A c bs := (HH.out.below HB4.out).below hb6
      have HW5 := Lib.hid (HO4.out.below hb6)
      have HB5 := Lib.hid (HB4.out.trans (hb6.mono HWR.out))
      clear hb6 ho6 hf
      go_wp2_with fail
      refine (same_calls A6 A c6 c (encode out4) bs w5 hr6 hby5).mono ?_
      rintro e w6 ⟨rfl, rfl⟩
      by_cases heq : encode out4 = bs
      · have HDEC := Lib.hid (decM_ok HD5.out heq)
        have hd : decide (encode out4 = bs) = true := decide_eq_true heq
        clear hr6 hby5 heq
        go_wp2
        go_ret2
        rw [HDEC.out]
        exact ⟨_, rfl, HW5.out, HB5.out⟩
      · have HDEC := Lib.hid (decM_form HD5.out heq)
        have hd : decide (encode out4 = bs) = false := decide_eq_false heq
        clear hr6 hby5 heq
        go_wp2
        go_ret2
        rw [HDEC.out]
        exact ⟨_, rfl, Own.nil _ _ _ _, HB5.out⟩

set_option maxRecDepth 20000 in
set_option maxHeartbeats 6000000 in
theorem refDecode_big (A : Option Addr) (c : Nat) (bs : List UInt8) (most : Int) (hbig : 4096 < most) (w : World) (h : Bytes w A c bs) (hlen : bs.length ≤ 1099511627776) :
    Calls Try.prog 24 #[.slice A bs.length c, .int .i64 most] w (Decoded w (decM 4096 bs)) := by
  have hM : 4096 ≤ 4096 := by omega
  have HH := Lib.hid h
  clear h
  go_enter Try.func24, Try.ntmps24
  go_wp2
  go_loopw [6, 7] (fun v u wr => ∃ (A4 : Option Addr) (c4 : Nat) (bs4 : List UInt8) (O4 : Option Addr) (oc4 : Nat) (out4 : List Sec), v = .slice O4 out4.length oc4 ∧ u = .slice A4 bs4.length c4 ∧ bs4.length ≤ bs.length ∧ out4.length ≤ 4096 ∧ Hid (Bytes wr A4 c4 bs4) ∧ Hid (Own wr w.heap.size 38 8 (.slice O4 out4.length oc4) out4.length ((flat out4).map B)) ∧ Hid (decL 4096 bs4 out4 = decL 4096 bs []) ∧ Hid (Below w.heap.size w wr)) (fun v u wr => lenU u)
  case atStart => exact ⟨A, c, bs, none, 0, [], rfl, rfl, Nat.le_refl _, Nat.zero_le _, HH.out, Own.nil _ _ _ _, rfl, Below.refl _ _⟩
  case round =>
    obtain ⟨A4, c4, bs4, O4, oc4, out4, rfl, rfl, hb4, ho4, HY4, HO4, HD4, HB4⟩ := hrel
    by_cases hne : 0 < bs4.length
    · have b9 : (0 : Int) < (bs4.length : Int) := by omega
      obtain ⟨⟨n, k, er⟩, hn⟩ : ∃ r, numG bs4 0 0 = r := ⟨_, rfl⟩
      obtain ⟨hle1, hle2, hle3⟩ := numG_le bs4 0 0 n k er hn
      have HN := Lib.hid hn
      clear hn
      go_wp2_with fail
      refine (refInt_calls A4 c4 bs4 wr HY4.out (by omega)).mono ?_
      rintro e w1 ⟨n', k', er', v', hn', rfl, hb1, ho1, hz1⟩
      rw [HN.out] at hn'
      cases hn'
      have HB1 := Lib.hid (HB4.out.trans (hb1.mono HB4.out.size))
      have HO1 := Lib.hid (HO4.out.below hb1)
      have HWR := Lib.hid HB4.out.size
      by_cases he : er = 0
      · subst he
        obtain ⟨h1, h2, h3⟩ := hle1 rfl
        obtain ⟨bs1, hbs1⟩ : ∃ x, x = bs4.drop k := ⟨_, rfl⟩
        have hl1 : bs1.length = bs4.length - k := by rw [hbs1, List.length_drop]
        have ho1' := ho1 rfl
        rw [← hbs1, ← hl1] at ho1'
        obtain ⟨A1, c1, rfl, _⟩ := ho1'.rd
        have HR1 := Lib.hid (ho1'.mono (base' := w.heap.size) HWR.out)
        have HBS1 := Lib.hid hbs1
        have hl1a : bs1.length ≤ bs4.length - k := by omega
        have HL1 := Lib.hid hl1
        clear hbs1 ho1 ho1' hz1 hb1 hle1 hle2 hle3
        obtain ⟨kd, hkd⟩ : ∃ x, n % 4 = x := ⟨_, rfl⟩
        obtain ⟨cn, hcn⟩ : ∃ x, n / 4 = x := ⟨_, rfl⟩
        have e1 : (n : Int).tmod 4 = (kd : Int) := by rw [← hkd, Int.tmod_eq_emod_of_nonneg (by omega)]; omega
        have e2 : (n : Int).tdiv 4 = (cn : Int) := by rw [← hcn, Int.tdiv_eq_ediv_of_nonneg (by omega)]; omega
        have HKD := Lib.hid hkd
        have HCN := Lib.hid hcn
        have hkd4 : kd ≤ 3 := by omega
        have hcnb : cn ≤ 9007199254740991 := by omega
        by_cases hf : 2 < kd ∨ cn = 0
        · have hst : stepG 4096 bs4 out4 = (3, [], []) := stepG_form HN.out (by rw [hkd, hcn]; exact hf)
          have HDEC := Lib.hid (show decM 4096 bs = (3, []) from decM_err (HD4.out.symm.trans ((decL_err (by omega) (by rw [hst]; decide)).trans (by rw [hst]))) (by decide))
          clear hst hkd hcn hl1
          by_cases hk3 : kd = 3
          · have b1 : ((kd : Int) == 3) = true := by rw [beq_iff_eq]; omega
            go_wp2
            go_ret2
            rw [HDEC.out]
            exact ⟨_, rfl, Own.nil _ _ _ _, HB1.out⟩
          · have b1 : ((kd : Int) == 3) = false := by rw [beq_eq_false_iff_ne]; omega
            have b2 : ((cn : Int) == 0) = true := by rw [beq_iff_eq]; omega
            go_wp2
            go_ret2
            rw [HDEC.out]
            exact ⟨_, rfl, Own.nil _ _ _ _, HB1.out⟩
        · have hnf : ¬ (2 < n % 4 ∨ n / 4 = 0) := by rw [hkd, hcn]; exact hf
          have b1 : ((kd : Int) == 3) = false := by rw [beq_eq_false_iff_ne]; omega
          have b2 : ((cn : Int) == 0) = false := by rw [beq_eq_false_iff_ne]; omega
          have hsub : (4096 : Int) - (out4.length : Int) = ((4096 - out4.length : Nat) : Int) := by omega
          have HNF := Lib.hid hnf
          by_cases hl : 4096 < cn + out4.length
          · have b4 : ((4096 - out4.length : Nat) : Int) < (cn : Int) := by omega
            have hst : stepG 4096 bs4 out4 = (5, [], []) := stepG_long HN.out hnf (by rw [hcn]; exact hl)
            have HDEC := Lib.hid (show decM 4096 bs = (5, []) from decM_err (HD4.out.symm.trans ((decL_err (by omega) (by rw [hst]; decide)).trans (by rw [hst]))) (by decide))
            clear hst hkd hcn hl1 hnf
            go_wp2
            go_ret2
            rw [HDEC.out]
            exact ⟨_, rfl, Own.nil _ _ _ _, HB1.out⟩
          · have b4 : ¬ ((4096 - out4.length : Nat) : Int) < (cn : Int) := by omega
            have b4n : ¬ 4096 - out4.length < cn := by omega
            have b4d : decide (4096 - out4.length < cn) = false := decide_eq_false b4n
            have HL' := Lib.hid (show ¬ 4096 < n / 4 + out4.length by rw [hcn]; exact hl)
            have hkd3 : kd = 0 ∨ kd = 1 ∨ kd = 2 := by omega
            have hcm : cn + out4.length ≤ 4096 := by omega
            clear hkd hcn hl1 hnf
            rcases hkd3 with rfl | rfl | rfl
            · have hst : 8 * cn ≤ bs1.length → stepG 4096 bs4 out4 = (0, bs1.drop (8 * cn), out4 ++ grpG 0 cn bs1) := fun hge => by
                rw [stepG_ok HN.out HNF.out HL'.out (by rw [HKD.out, HCN.out, ← HL1.out]; simp [needG]; try omega), HKD.out, HCN.out, HBS1.out, List.drop_drop]
                simp [needG]
              have hst1 : ¬ 8 * cn ≤ bs1.length → stepG 4096 bs4 out4 = (10, [], []) := fun hge => by
                rw [stepG_torn HN.out HNF.out HL'.out (by rw [HKD.out, HCN.out, ← HL1.out]; simp [needG]; try omega)]
              have HST := Lib.hid hst
              have HST1 := Lib.hid hst1
              clear hst hst1
              by_cases hge : 8 * cn ≤ bs1.length
              · have b7 : ¬ (bs1.length : Int) < ((cn : Int) * 8) := by omega
                have b7' : decide ((bs1.length : Int) < ((cn : Int) * 8)) = false := decide_eq_false b7
                go_wp2
                go_loopw [14, 6] (fun i v wz => ∃ (j : Nat) (O5 : Option Addr) (oc5 : Nat) (out5 : List Sec), i = .int .i64 j ∧ v = .slice O5 out5.length oc5 ∧ j ≤ cn ∧ out5.length ≤ out4.length + j ∧ Hid (out5 = out4 ++ grpG 0 j bs1) ∧ Hid (Own wz w.heap.size 38 8 (.slice O5 out5.length oc5) out5.length ((flat out5).map B)) ∧ Hid (Own wz w.heap.size 5 1 (.slice A1 bs1.length c1) bs1.length (bs1.map B)) ∧ Hid (Below w.heap.size w wz)) (fun i v wz => cn - (intOf i).toNat)
                case atStart => exact ⟨0, O4, oc4, out4, rfl, rfl, Nat.zero_le _, Nat.le_refl _, by show _ = _; simp [grpG, secsN], HO1.out, HR1.out, HB1.out⟩
                case round =>
                  obtain ⟨j, O5, oc5, out5, rfl, rfl, hj, hlo5, hout5, ho5, hr5, hbw5⟩ := hrel
                  have HY5 := Lib.hid (show Bytes wr A1 c1 bs1 by obtain ⟨A', c', e, hr⟩ := hr5.out.rd; cases e; exact hr)
                  by_cases hjc : j < cn
                  · obtain ⟨w5, e5, hg5, hb5, hz5⟩ := alloc_facts wr #[.int .u8 0, .int .u8 0, .int .u8 0, .int .u8 0, .int .u8 0, .int .u8 0, .int .u8 0, .int .u8 0] 38
                    obtain ⟨A6, c6, bs6, hbs6, hsl6, hy6⟩ := bslice_lohi (HY5.out.below hb5) (j * 8) (j * 8 + 8) (by omega) (by omega)
                    have hl6 : bs6.length = 8 := by rw [hbs6.out, List.length_take, List.length_drop]; omega
                    rw [hl6] at hsl6
                    have e6a : ((j * 8 : Nat) : Int) = (j : Int) * 8 := by omega
                    have e6b : ((j * 8 + 8 : Nat) : Int) = ((j : Int) + 1) * 8 := by omega
                    rw [e6a, e6b] at hsl6
                    have hw6a : IntKind.i64.wrap ((j : Int) * 8) = (j : Int) * 8 := by rw [IntKind.wrap_i64]; omega
                    have hw6b : IntKind.i64.wrap ((j : Int) + 1) = (j : Int) + 1 := by rw [IntKind.wrap_i64]; omega
                    have hw6c : IntKind.i64.wrap (((j : Int) + 1) * 8) = ((j : Int) + 1) * 8 := by rw [IntKind.wrap_i64]; omega
                    have b6a : (0 : Int) ≤ (j : Int) * 8 := by omega
                    have b6b : (j : Int) * 8 ≤ ((j : Int) + 1) * 8 := by omega
                    have b6c : ((j : Int) + 1) * 8 ≤ (bs1.length : Int) := by omega
                    obtain ⟨a6, rfl⟩ := hy6.some_of (show 0 < bs6.length by omega)
                    have hrow6 : Row w5.drew a6 ((bs6.take 8).map B) := by rw [List.take_of_length_le (by omega)]; exact hy6.row a6 rfl
                    have hs6 : secOf bs6 = elemG 0 j bs1 := by
                      show _ = secOf (bs1.drop (8 * j))
                      rw [hbs6.out, show j * 8 + 8 - j * 8 = 8 by omega, show j * 8 = 8 * j by omega]
                      exact secOf_take _
                    go_wp2_with fail
                    go_region_held3 (fun wx => True) (trivial)
                      (first | ((refine step_copyEls E24 rfl (.tmp 66) (.tmp 73) rfl (g := wr.heap.size) (off := 0) (dLen := 8) (dCap := 8) (sLen := 8) (sCap := c6) (k := 8) (cs := (bs6.take 8).map B) (by rfl) (by rfl) hg5 (by decide) (by rw [List.length_map, List.length_take]; omega) hrow6 (by rw [List.length_map, List.length_take]; simp; omega) (oneCell_B _) ?_; intro w6 hg6 hgr6 hz6)))
                    have hg6' : w6.heap[wr.heap.size]? = some (.cells (elemG 0 j bs1).cells.toArray 38 (0, 0)) := by rw [hg6, ← hs6]; exact congrArg (fun l : List Value => some (Obj.cells l.toArray 38 (0, 0))) (put_row (by omega) _ rfl)
                    have hb6 : Below wr.heap.size wr w6 := (below_drews hb5 1).grown hgr6 (by show _ ≤ w5.heap.size; omega) (fun k hk => by cases hk; exact Nat.le_refl _)
                    clear hz6 hg6 hgr6 hsl6 hy6 hrow6 hs6 hw6a hw6b hw6c b6a b6b b6c e6a e6b hbs6 hl6
                    obtain ⟨p1, q1⟩ := secP_of (secAt_row hg6')
                    have HO6 := Lib.hid (ho5.out.below hb6)
                    have HR6 := Lib.hid (hr5.out.below hb6)
                    have HBW6 := Lib.hid (hbw5.out.trans (hb6.mono hbw5.out.size))
                    have hs6 : w.heap.size ≤ w6.heap.size := HBW6.out.size
                    clear hg6' hb6 hg5 hb5 hz5
                    go_wp2_with (at_builtin; refine Stop.at ?_)
                    refine Stop.go ?_
                    refine step_append E22 rfl (.tmp 81) (.tmp 83) rfl w.heap.size rfl (HO6.out.alloc _) rfl (Secs.one w6 (elemG 0 j bs1)) rfl (oneCell_B _) (by omega) (by decide) (by simp; omega) ?_
                    intro v7 w7 ho7 hg7
                    obtain ⟨O7, oc7, rfl, _⟩ := ho7.rd
                    obtain ⟨out7, hout7⟩ : ∃ y, y = out5 ++ [elemG 0 j bs1] := ⟨_, rfl⟩
                    have hl7 : out7.length = out5.length + 1 := by rw [hout7, List.length_append]; rfl
                    rw [← List.map_append, ← flat_append, ← hout7, ← hl7] at ho7
                    have HS7 := Lib.hid (show out7 = out4 ++ grpG 0 (j + 1) bs1 by rw [hout7, hout5.out, grpG_snoc, List.append_assoc])
                    have HB7 := Lib.hid (HBW6.out.trans (((Below.refl _ _).alloc hs6 _).trans (hg7.below (HO6.out.alloc _) (by simp; omega))))
                    have HR7 := Lib.hid (own_grew (HO6.out.alloc _) (HR6.out.alloc _) hg7)
                    have HO7 := Lib.hid ho7
                    have hl7a : out7.length ≤ out4.length + (j + 1) := by omega
                    rw [← hl7]
                    clear hg7 ho7 hout7 hl7 p1 q1
                    go_wp2
                    go_roundw
                    case rel => exact ⟨j + 1, O7, oc7, out7, rfl, rfl, by omega, hl7a, HS7, HO7, HR7, HB7⟩
                    case measure => simp [intOf]; omega
                  · have hjn : j = cn := by omega
                    obtain ⟨A9, c9, bs9, hbs9, hsl9, hy9⟩ := bslice_lo HY5.out (cn * 8) (by omega)
                    have hsl9' : ∀ w', (Instr.sliceAt 24 (.slice A1 bs1.length c1) (some (.int .i64 ((cn : Int) * 8))) none none).run Try.prog w' = .ok (.slice A9 bs9.length c9) w' := fun w' => by have := hsl9 w'; rw [show ((cn * 8 : Nat) : Int) = (cn : Int) * 8 by omega] at this; exact this
                    have hst := HST.out hge
                    have HD9 := Lib.hid (show decL 4096 bs9 out5 = decL 4096 bs [] by
                      rw [← HD4.out, decL_ok (m := 4096) (bs := bs4) (out := out4) (by omega) (by rw [hst]), hst, hbs9.out, hout5.out, hjn, show cn * 8 = 8 * cn by omega])
                    have hl9 : bs9.length ≤ bs1.length := by rw [hbs9.out, List.length_drop]; omega
                    have HY9 := Lib.hid hy9
                    have b8a : (0 : Int) ≤ ((cn : Int) * 8) := by omega
                    have b8b : ((cn : Int) * 8) ≤ (bs1.length : Int) := by omega
                    clear hsl9 hst hy9
                    go_wp2
                    go_roundw
                    case rel => exact ⟨A9, c9, bs9, O5, oc5, out5, rfl, rfl, by omega, by omega, HY9, ho5, HD9, hbw5⟩
                    case measure => simp [lenU]; omega
              · have hdec : decM 4096 bs = (10, []) := decM_err (HD4.out.symm.trans ((decL_err (by omega) (by rw [HST1.out hge]; decide)).trans (by rw [HST1.out hge]))) (by decide)
                have HDEC := Lib.hid hdec
                have b7 : (bs1.length : Int) < ((cn : Int) * 8) := by omega
                have b7' : decide ((bs1.length : Int) < ((cn : Int) * 8)) = true := decide_eq_true b7
                clear hdec
                go_wp2
                go_ret2
                rw [HDEC.out]
                exact ⟨_, rfl, Own.nil _ _ _ _, HB1.out⟩
            · have hst : 8 * 1 ≤ bs1.length → stepG 4096 bs4 out4 = (0, bs1.drop (8 * 1), out4 ++ grpG 1 cn bs1) := fun hge => by
                rw [stepG_ok HN.out HNF.out HL'.out (by rw [HKD.out, HCN.out, ← HL1.out]; simp [needG]; try omega), HKD.out, HCN.out, HBS1.out, List.drop_drop]
                simp [needG]
              have hst1 : ¬ 8 * 1 ≤ bs1.length → stepG 4096 bs4 out4 = (10, [], []) := fun hge => by
                rw [stepG_torn HN.out HNF.out HL'.out (by rw [HKD.out, HCN.out, ← HL1.out]; simp [needG]; try omega)]
              have HST := Lib.hid hst
              have HST1 := Lib.hid hst1
              clear hst hst1
              by_cases hge : 8 * 1 ≤ bs1.length
              · have b7 : ¬ (bs1.length : Int) < 8 := by omega
                have b7' : decide ((bs1.length : Int) < 8) = false := decide_eq_false b7
                go_wp2
                go_loopw [14, 6] (fun i v wz => ∃ (j : Nat) (O5 : Option Addr) (oc5 : Nat) (out5 : List Sec), i = .int .i64 j ∧ v = .slice O5 out5.length oc5 ∧ j ≤ cn ∧ out5.length ≤ out4.length + j ∧ Hid (out5 = out4 ++ grpG 1 j bs1) ∧ Hid (Own wz w.heap.size 38 8 (.slice O5 out5.length oc5) out5.length ((flat out5).map B)) ∧ Hid (Own wz w.heap.size 5 1 (.slice A1 bs1.length c1) bs1.length (bs1.map B)) ∧ Hid (Below w.heap.size w wz)) (fun i v wz => cn - (intOf i).toNat)
                case atStart => exact ⟨0, O4, oc4, out4, rfl, rfl, Nat.zero_le _, Nat.le_refl _, by show _ = _; simp [grpG, secsN], HO1.out, HR1.out, HB1.out⟩
                case round =>
                  obtain ⟨j, O5, oc5, out5, rfl, rfl, hj, hlo5, hout5, ho5, hr5, hbw5⟩ := hrel
                  have HY5 := Lib.hid (show Bytes wr A1 c1 bs1 by obtain ⟨A', c', e, hr⟩ := hr5.out.rd; cases e; exact hr)
                  by_cases hjc : j < cn
                  · obtain ⟨w5, e5, hg5, hb5, hz5⟩ := alloc_facts wr #[.int .u8 0, .int .u8 0, .int .u8 0, .int .u8 0, .int .u8 0, .int .u8 0, .int .u8 0, .int .u8 0] 38
                    obtain ⟨A6, c6, bs6, hbs6, hsl6, hy6⟩ := bslice_hi (HY5.out.below hb5) 8 (by omega)
                    have hl6 : bs6.length = 8 := by rw [hbs6.out, List.length_take]; omega
                    rw [hl6] at hsl6
                    have hsl6' : ∀ w', (Instr.sliceAt 24 (.slice A1 bs1.length c1) none (some (.int .i64 8)) none).run Try.prog w' = .ok (.slice A6 8 c6) w' := hsl6
                    have b6c : (8 : Int) ≤ (bs1.length : Int) := by omega
                    obtain ⟨a6, rfl⟩ := hy6.some_of (show 0 < bs6.length by omega)
                    have hrow6 : Row w5.drew a6 ((bs6.take 8).map B) := by rw [List.take_of_length_le (by omega)]; exact hy6.row a6 rfl
                    have hs6 : secOf bs6 = elemG 1 j bs1 := by
                      show _ = secOf bs1
                      rw [hbs6.out]
                      exact secOf_take _
                    clear hsl6
                    go_wp2_with fail
                    go_region_held3 (fun wx => True) (trivial)
                      (first | ((refine step_copyEls E24 rfl (.tmp 77) (.tmp 79) rfl (g := wr.heap.size) (off := 0) (dLen := 8) (dCap := 8) (sLen := 8) (sCap := c6) (k := 8) (cs := (bs6.take 8).map B) (by rfl) (by rfl) hg5 (by decide) (by rw [List.length_map, List.length_take]; omega) hrow6 (by rw [List.length_map, List.length_take]; simp; omega) (oneCell_B _) ?_; intro w6 hg6 hgr6 hz6)))
                    have hg6' : w6.heap[wr.heap.size]? = some (.cells (elemG 1 j bs1).cells.toArray 38 (0, 0)) := by rw [hg6, ← hs6]; exact congrArg (fun l : List Value => some (Obj.cells l.toArray 38 (0, 0))) (put_row (by omega) _ rfl)
                    have hb6 : Below wr.heap.size wr w6 := (below_drews hb5 1).grown hgr6 (by show _ ≤ w5.heap.size; omega) (fun k hk => by cases hk; exact Nat.le_refl _)
                    clear hz6 hg6 hgr6 hsl6' hy6 hrow6 hs6 b6c hbs6 hl6
                    obtain ⟨p1, q1⟩ := secP_of (secAt_row hg6')
                    have HO6 := Lib.hid (ho5.out.below hb6)
                    have HR6 := Lib.hid (hr5.out.below hb6)
                    have HBW6 := Lib.hid (hbw5.out.trans (hb6.mono hbw5.out.size))
                    have hs6 : w.heap.size ≤ w6.heap.size := HBW6.out.size
                    clear hg6' hb6 hg5 hb5 hz5
                    go_wp2_with (at_builtin; refine Stop.at ?_)
                    refine Stop.go ?_
                    refine step_append E22 rfl (.tmp 81) (.tmp 83) rfl w.heap.size rfl (HO6.out.alloc _) rfl (Secs.one w6 (elemG 1 j bs1)) rfl (oneCell_B _) (by omega) (by decide) (by simp; omega) ?_
                    intro v7 w7 ho7 hg7
                    obtain ⟨O7, oc7, rfl, _⟩ := ho7.rd
                    obtain ⟨out7, hout7⟩ : ∃ y, y = out5 ++ [elemG 1 j bs1] := ⟨_, rfl⟩
                    have hl7 : out7.length = out5.length + 1 := by rw [hout7, List.length_append]; rfl
                    rw [← List.map_append, ← flat_append, ← hout7, ← hl7] at ho7
                    have HS7 := Lib.hid (show out7 = out4 ++ grpG 1 (j + 1) bs1 by rw [hout7, hout5.out, grpG_snoc, List.append_assoc])
                    have HB7 := Lib.hid (HBW6.out.trans (((Below.refl _ _).alloc hs6 _).trans (hg7.below (HO6.out.alloc _) (by simp; omega))))
                    have HR7 := Lib.hid (own_grew (HO6.out.alloc _) (HR6.out.alloc _) hg7)
                    have HO7 := Lib.hid ho7
                    have hl7a : out7.length ≤ out4.length + (j + 1) := by omega
                    rw [← hl7]
                    clear hg7 ho7 hout7 hl7 p1 q1
                    go_wp2
                    go_roundw
                    case rel => exact ⟨j + 1, O7, oc7, out7, rfl, rfl, by omega, hl7a, HS7, HO7, HR7, HB7⟩
                    case measure => simp [intOf]; omega
                  · have hjn : j = cn := by omega
                    obtain ⟨A9, c9, bs9, hbs9, hsl9, hy9⟩ := bslice_lo HY5.out (1 * 8) (by omega)
                    have hsl9' : ∀ w', (Instr.sliceAt 24 (.slice A1 bs1.length c1) (some (.int .i64 8)) none none).run Try.prog w' = .ok (.slice A9 bs9.length c9) w' := hsl9
                    have hst := HST.out hge
                    have HD9 := Lib.hid (show decL 4096 bs9 out5 = decL 4096 bs [] by
                      rw [← HD4.out, decL_ok (m := 4096) (bs := bs4) (out := out4) (by omega) (by rw [hst]), hst, hbs9.out, hout5.out, hjn, show 1 * 8 = 8 * 1 by omega])
                    have hl9 : bs9.length ≤ bs1.length := by rw [hbs9.out, List.length_drop]; omega
                    have HY9 := Lib.hid hy9
                    have b8a : (0 : Int) ≤ 8 := by omega
                    have b8b : 8 ≤ (bs1.length : Int) := by omega
                    clear hsl9 hst hy9
                    go_wp2
                    go_roundw
                    case rel => exact ⟨A9, c9, bs9, O5, oc5, out5, rfl, rfl, by omega, by omega, HY9, ho5, HD9, hbw5⟩
                    case measure => simp [lenU]; omega
              · have hdec : decM 4096 bs = (10, []) := decM_err (HD4.out.symm.trans ((decL_err (by omega) (by rw [HST1.out hge]; decide)).trans (by rw [HST1.out hge]))) (by decide)
                have HDEC := Lib.hid hdec
                have b7 : (bs1.length : Int) < 8 := by omega
                have b7' : decide ((bs1.length : Int) < 8) = true := decide_eq_true b7
                clear hdec
                go_wp2
                go_ret2
                rw [HDEC.out]
                exact ⟨_, rfl, Own.nil _ _ _ _, HB1.out⟩
            · have hst : 8 * 0 ≤ bs1.length → stepG 4096 bs4 out4 = (0, bs1.drop (8 * 0), out4 ++ grpG 2 cn bs1) := fun hge => by
                rw [stepG_ok HN.out HNF.out HL'.out (by rw [HKD.out, HCN.out, ← HL1.out]; simp [needG]; try omega), HKD.out, HCN.out, HBS1.out, List.drop_drop]
                simp [needG]
              have hst1 : ¬ 8 * 0 ≤ bs1.length → stepG 4096 bs4 out4 = (10, [], []) := fun hge => by
                rw [stepG_torn HN.out HNF.out HL'.out (by rw [HKD.out, HCN.out, ← HL1.out]; simp [needG]; try omega)]
              have HST := Lib.hid hst
              have HST1 := Lib.hid hst1
              clear hst hst1
              by_cases hge : 8 * 0 ≤ bs1.length
              · have b7 : ¬ (bs1.length : Int) < 0 := by omega
                have b7' : decide ((bs1.length : Int) < 0) = false := decide_eq_false b7
                go_wp2
                go_loopw [14, 6] (fun i v wz => ∃ (j : Nat) (O5 : Option Addr) (oc5 : Nat) (out5 : List Sec), i = .int .i64 j ∧ v = .slice O5 out5.length oc5 ∧ j ≤ cn ∧ out5.length ≤ out4.length + j ∧ Hid (out5 = out4 ++ grpG 2 j bs1) ∧ Hid (Own wz w.heap.size 38 8 (.slice O5 out5.length oc5) out5.length ((flat out5).map B)) ∧ Hid (Own wz w.heap.size 5 1 (.slice A1 bs1.length c1) bs1.length (bs1.map B)) ∧ Hid (Below w.heap.size w wz)) (fun i v wz => cn - (intOf i).toNat)
                case atStart => exact ⟨0, O4, oc4, out4, rfl, rfl, Nat.zero_le _, Nat.le_refl _, by show _ = _; simp [grpG, secsN], HO1.out, HR1.out, HB1.out⟩
                case round =>
                  obtain ⟨j, O5, oc5, out5, rfl, rfl, hj, hlo5, hout5, ho5, hr5, hbw5⟩ := hrel
                  have HY5 := Lib.hid (show Bytes wr A1 c1 bs1 by obtain ⟨A', c', e, hr⟩ := hr5.out.rd; cases e; exact hr)
                  by_cases hjc : j < cn
                  · obtain ⟨w5, e5, hg5, hb5, hz5⟩ := alloc_facts wr #[.int .u8 0, .int .u8 0, .int .u8 0, .int .u8 0, .int .u8 0, .int .u8 0, .int .u8 0, .int .u8 0] 38
                    obtain ⟨w6, hw6⟩ : ∃ w6, w5 = w6 := ⟨_, rfl⟩
                    have hg6' : w5.heap[wr.heap.size]? = some (.cells (elemG 2 j bs1).cells.toArray 38 (0, 0)) := hg5
                    have hb6 : Below wr.heap.size wr w5 := hb5
                    clear hw6
                    obtain ⟨p1, q1⟩ := secP_of (secAt_row hg6')
                    have HO6 := Lib.hid (ho5.out.below hb6)
                    have HR6 := Lib.hid (hr5.out.below hb6)
                    have HBW6 := Lib.hid (hbw5.out.trans (hb6.mono hbw5.out.size))
                    have hs6 : w.heap.size ≤ w5.heap.size := HBW6.out.size
                    clear hg6' hb6 hg5 hb5 hz5
                    go_wp2_with (at_builtin; refine Stop.at ?_)
                    refine Stop.go ?_
                    refine step_append E22 rfl (.tmp 81) (.tmp 83) rfl w.heap.size rfl (HO6.out.alloc _) rfl (Secs.one w5 (elemG 2 j bs1)) rfl (oneCell_B _) (by omega) (by decide) (by simp; omega) ?_
                    intro v7 w7 ho7 hg7
                    obtain ⟨O7, oc7, rfl, _⟩ := ho7.rd
                    obtain ⟨out7, hout7⟩ : ∃ y, y = out5 ++ [elemG 2 j bs1] := ⟨_, rfl⟩
                    have hl7 : out7.length = out5.length + 1 := by rw [hout7, List.length_append]; rfl
                    rw [← List.map_append, ← flat_append, ← hout7, ← hl7] at ho7
                    have HS7 := Lib.hid (show out7 = out4 ++ grpG 2 (j + 1) bs1 by rw [hout7, hout5.out, grpG_snoc, List.append_assoc])
                    have HB7 := Lib.hid (HBW6.out.trans (((Below.refl _ _).alloc hs6 _).trans (hg7.below (HO6.out.alloc _) (by simp; omega))))
                    have HR7 := Lib.hid (own_grew (HO6.out.alloc _) (HR6.out.alloc _) hg7)
                    have HO7 := Lib.hid ho7
                    have hl7a : out7.length ≤ out4.length + (j + 1) := by omega
                    rw [← hl7]
                    clear hg7 ho7 hout7 hl7 p1 q1
                    go_wp2
                    go_roundw
                    case rel => exact ⟨j + 1, O7, oc7, out7, rfl, rfl, by omega, hl7a, HS7, HO7, HR7, HB7⟩
                    case measure => simp [intOf]; omega
                  · have hjn : j = cn := by omega
                    obtain ⟨A9, c9, bs9, hbs9, hsl9, hy9⟩ := bslice_lo HY5.out (0 * 8) (by omega)
                    have hsl9' : ∀ w', (Instr.sliceAt 24 (.slice A1 bs1.length c1) (some (.int .i64 0)) none none).run Try.prog w' = .ok (.slice A9 bs9.length c9) w' := hsl9
                    have hst := HST.out hge
                    have HD9 := Lib.hid (show decL 4096 bs9 out5 = decL 4096 bs [] by
                      rw [← HD4.out, decL_ok (m := 4096) (bs := bs4) (out := out4) (by omega) (by rw [hst]), hst, hbs9.out, hout5.out, hjn, show 0 * 8 = 8 * 0 by omega])
                    have hl9 : bs9.length ≤ bs1.length := by rw [hbs9.out, List.length_drop]; omega
                    have HY9 := Lib.hid hy9
                    have b8a : (0 : Int) ≤ 0 := by omega
                    have b8b : 0 ≤ (bs1.length : Int) := by omega
                    clear hsl9 hst hy9
                    go_wp2
                    go_roundw
                    case rel => exact ⟨A9, c9, bs9, O5, oc5, out5, rfl, rfl, by omega, by omega, HY9, ho5, HD9, hbw5⟩
                    case measure => simp [lenU]; omega
              · exact absurd (by omega) hge
      · have HDEC := Lib.hid (show decM 4096 bs = (er, []) from decM_err (HD4.out.symm.trans ((decL_err (by omega) (by rw [stepG_er HN.out he]; exact he)).trans (by rw [stepG_er HN.out he]))) he)
        have hne0 : ((er : Int) != 0) = true := by simp; omega
        have hne1 : (er : Int) ≠ 0 := by omega
        go_wp2
        go_ret2
        rw [HDEC.out]
        exact ⟨_, rfl, Own.nil _ _ _ _, HB1.out⟩
    · obtain rfl : bs4 = [] := List.eq_nil_of_length_eq_zero (by omega)
      have HD5 := Lib.hid (HD4.out.symm.trans (decL_nil 4096 out4))
      obtain ⟨A5, c5, e5, hrd5⟩ := HO4.out.rd
      cases e5
      have HWR := Lib.hid HB4.out.size
      go_wp2_with fail
      refine (refEncode_calls O4 oc4 out4 wr hrd5 (by omega)).mono ?_
      rintro e w5 hf
      obtain ⟨A6, c6, rfl, ho6, hr6, hb6⟩ := hf.parts
      have hby5 : Bytes w5 A c bs := (HH.out.below HB4.out).below hb6
      have HW5 := Lib.hid (HO4.out.below hb6)
      have HB5 := Lib.hid (HB4.out.trans (hb6.mono HWR.out))
      clear hb6 ho6 hf
      go_wp2_with fail
      refine (same_calls A6 A c6 c (encode out4) bs w5 hr6 hby5).mono ?_
      rintro e w6 ⟨rfl, rfl⟩
      by_cases heq : encode out4 = bs
      · have HDEC := Lib.hid (decM_ok HD5.out heq)
        have hd : decide (encode out4 = bs) = true := decide_eq_true heq
        clear hr6 hby5 heq
        go_wp2
        go_ret2
        rw [HDEC.out]
        exact ⟨_, rfl, HW5.out, HB5.out⟩
      · have HDEC := Lib.hid (decM_form HD5.out heq)
        have hd : decide (encode out4 = bs) = false := decide_eq_false heq
        clear hr6 hby5 heq
        go_wp2
        go_ret2
        rw [HDEC.out]
        exact ⟨_, rfl, Own.nil _ _ _ _, HB5.out⟩

theorem refDecode_calls (A : Option Addr) (c : Nat) (bs : List UInt8) (most : Int) (w : World) (h : Bytes w A c bs) (hlen : bs.length ≤ 1099511627776) :
    Calls Try.prog 24 #[.slice A bs.length c, .int .i64 most] w (Decoded w (decode bs most)) := by
  show Calls Try.prog 24 _ w (Decoded w (decM (mostN most) bs))
  by_cases h0 : most ≤ 0
  · rw [show mostN most = 0 by unfold mostN; omega]
    exact refDecode_zero A c bs most h0 w h hlen
  · by_cases h1 : 4096 < most
    · rw [show mostN most = 4096 by unfold mostN; omega]
      exact refDecode_big A c bs most h1 w h hlen
    · obtain ⟨m, rfl⟩ : ∃ m : Nat, most = (m : Int) := ⟨most.toNat, by omega⟩
      rw [show mostN (m : Int) = m by unfold mostN; omega]
      exact refDecode_mid A c bs m (by omega) (by omega) w h hlen
end Go.Proofs.Ytfdkhopionknaaa
