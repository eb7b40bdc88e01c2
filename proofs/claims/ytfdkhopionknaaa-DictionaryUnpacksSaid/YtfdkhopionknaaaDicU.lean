/- Layer 6, the reference: Decode (34). -/
import Derived.Test.YtfdkhopionknaaaDicF
import Derived.Test.YtfdkhopionknaaaDicS
namespace Go.Proofs.Ytfdkhopionknaaa
open Go.RowKit
set_option linter.unusedVariables false
set_option linter.unusedSimpArgs false

set_option maxRecDepth 20000 in
set_option maxHeartbeats 16000000 in
theorem refdDecode_calls (A1 A2 : Option Addr) (c1 c2 : Nat) (dict bs : List UInt8) (most : Int) (w : World) (h1 : Bytes w A1 c1 dict) (h2 : Bytes w A2 c2 bs) (hd : dict.length ≤ 100000) (hb : bs.length ≤ 1000000) (hm : most ≤ 1000000) :
    Calls Try.prog 34 #[.slice A1 dict.length c1, .slice A2 bs.length c2, .int .i64 most] w (DecodedD w (decodeD dict bs most)) := by
  have H1 := Lib.hid h1
  have H2 := Lib.hid h2
  clear h1 h2
  obtain ⟨⟨r1, r2⟩, hr⟩ : ∃ r, decodeD dict bs most = r := ⟨_, rfl⟩
  rw [hr]
  by_cases hneg : most < 0
  · have hr' := hr
    unfold decodeD at hr'
    rw [if_pos hneg] at hr'
    obtain ⟨rfl, rfl⟩ : r1 = 2 ∧ r2 = [] := by cases hr'; exact ⟨rfl, rfl⟩
    clear hr hr'
    go_enter Try.func34, Try.ntmps34
    go_wp2
    go_ret2
    exact ⟨none, 0, rfl, Own.nil _ _ _ _, Below.refl _ _⟩
  · obtain ⟨m, rfl⟩ : ∃ m : Nat, most = m := ⟨most.toNat, by omega⟩
    unfold decodeD at hr
    rw [if_neg hneg, Int.toNat_natCast] at hr
    have HR := Lib.hid hr
    have hm' : m ≤ 1000000 := by omega
    clear hr
    go_enter Try.func34, Try.ntmps34
    go_wp2_with (at_builtin; refine Stop.at ?_)
    refine Stop.go ?_
    have hba : Below w.heap.size w (w.alloc (.cells #[] 5)) := (Below.refl _ _).alloc (Nat.le_refl _) _
    refine step_append E24 rfl (.tmp 17) (.tmp 18) rfl w.heap.size (n := 0) (xs := []) rfl (Own.empty w (Nat.le_refl _)) rfl (H1.out.below hba) (by simp) (oneCell_B _) (by omega) (by decide) (by simp) ?_
    intro v1 w1 ho1 hg1
    obtain ⟨T0, tc0, rfl⟩ := own_slice ho1
    have hb1 : Below w.heap.size w w1 := hba.trans (hg1.below (Own.empty w (Nat.le_refl _)) (by simp))
    rw [Nat.zero_add, List.nil_append] at ho1
    rw [Nat.zero_add]
    have HO1 := Lib.hid ho1
    have HB1 := Lib.hid hb1
    have HP1 : Hid (Apart w1 A2 c2 bs (.slice T0 dict.length tc0)) := Apart.start H2.out hb1 ho1
    clear hba ho1 hg1 hb1
    go_wp2
    go_loopw [1, 8] (fun bv av w' => ∃ (bs' a : List UInt8) (A : Option Addr) (c : Nat) (T : Option Addr) (tc : Nat), bv = .slice A bs'.length c ∧ av = .slice T a.length tc ∧ Hid (decT dict.length m bs' a = (r1, r2)) ∧ dict.length ≤ a.length ∧ a.length ≤ dict.length + m ∧ bs'.length ≤ bs.length ∧
      Hid (Own w' w.heap.size 5 1 (.slice T a.length tc) a.length (a.map B)) ∧ Hid (Apart w' A c bs' (.slice T a.length tc)) ∧ Hid (Below w.heap.size w w')) (fun bv av w' => lenV bv)
    case atStart => exact ⟨bs, dict, A2, c2, T0, tc0, rfl, rfl, HR, Nat.le_refl _, by omega, Nat.le_refl _, HO1, HP1, HB1⟩
    case round =>
      obtain ⟨bs', a, A, c, T, tc, rfl, rfl, HDT, hal, ham, hbl, HO, HP, HB⟩ := hrel
      by_cases h0 : 0 < bs'.length
      · have b0 : (0 : Int) < (bs'.length : Int) := by omega
        obtain ⟨ad, rfl⟩ := HP.out.1.some_of h0
        obtain ⟨x, hx, hcx, hx256, hdr⟩ := byte_at HP.out.1 h0
        rw [show ad.add 0 = ad from by unfold Addr.add; simp] at hcx
        obtain ⟨A3, c3, r, hr3, hsl0, hby⟩ := bslice_lo HP.out.1 1 (by omega)
        have hsl : ∀ w', (Instr.sliceAt 24 (.slice (some ad) bs'.length c) (some (.int .i64 1)) none none).run Try.prog w' = .ok (.slice A3 r.length c3) w' := hsl0
        have hcc : bs'.getD 0 0 = UInt8.ofNat x.toNat := by rw [List.getD, hx]; simp
        have hdrop : bs'.drop 1 = r := hr3.out.symm
        have hrl : r.length + 1 = bs'.length := by rw [← hdrop, List.length_drop]; omega
        have HAP := Lib.hid (HP.out.slice (l := 1) (by omega) hby (by omega) (hsl0 wr))
        obtain ⟨c, hxc⟩ : ∃ c, x.toNat = c := ⟨_, rfl⟩
        rw [hxc] at hcc hcx hx256
        have HCC := Lib.hid hcc
        have HDROP := Lib.hid hdrop
        have HRL := Lib.hid hrl
        have hrl2 : r.length ≤ 1000000 := by omega
        have hbs0 : bs'.length ≠ 0 := by omega
        have vs : IntKind.i64.wrap ((a.length : Int) - (dict.length : Int)) = ((a.length - dict.length : Nat) : Int) := by rw [IntKind.wrap_i64]; omega
        obtain ⟨G, hG⟩ : ∃ G, a.length - dict.length = G := ⟨_, rfl⟩
        rw [hG] at vs
        have hGm : G ≤ m := by omega
        have HG := Lib.hid hG
        clear hx hdr hr3 hcc hdrop hrl hby hxc hsl0 hG
        by_cases hc0 : c = 0
        · have hR := HDT.out.symm.trans (decT_err hbs0 (stepD_zero HCC.out HDROP.out hx256 hc0) (by decide))
          obtain ⟨rfl, rfl⟩ : r1 = 3 ∧ r2 = [] := by cases hR; exact ⟨rfl, rfl⟩
          have b1 : ((c : Int) == 0) = true := by rw [beq_iff_eq]; omega
          clear hR
          go_wp2
          go_ret2
          exact ⟨none, 0, rfl, Own.nil _ _ _ _, HB.out⟩
        · have b1 : ((c : Int) == 0) = false := by rw [beq_eq_false_iff_ne]; omega
          by_cases hc7 : c ≤ 127
          · have b2 : (c : Int) < 128 := by omega
            by_cases htorn : r.length < c
            · have b3 : (r.length : Int) < (c : Int) := by omega
              have hR := HDT.out.symm.trans (decT_err hbs0 (stepD_torn HCC.out HDROP.out hx256 hc0 hc7 htorn) (by decide))
              obtain ⟨rfl, rfl⟩ : r1 = 10 ∧ r2 = [] := by cases hR; exact ⟨rfl, rfl⟩
              clear hR
              go_wp2
              go_ret2
              exact ⟨none, 0, rfl, Own.nil _ _ _ _, HB.out⟩
            · have b3 : ¬ (r.length : Int) < (c : Int) := by omega
              have vw : IntKind.i64.wrap ((G : Int) + (c : Int)) = (G : Int) + (c : Int) := by rw [IntKind.wrap_i64]; omega
              by_cases hlong : m < a.length - dict.length + c
              · have d1 : (m : Int) < (G : Int) + (c : Int) := by have := HG.out; omega
                have hR := HDT.out.symm.trans (decT_err hbs0 (stepD_llong HCC.out HDROP.out hx256 hc0 hc7 htorn hlong) (by decide))
                obtain ⟨rfl, rfl⟩ : r1 = 5 ∧ r2 = [] := by cases hR; exact ⟨rfl, rfl⟩
                clear hR
                go_wp2
                go_ret2
                exact ⟨none, 0, rfl, Own.nil _ _ _ _, HB.out⟩
              · have d1 : ¬ (m : Int) < (G : Int) + (c : Int) := by have := HG.out; omega
                obtain ⟨S, sc, wsn, hwsn, hsh, hbh⟩ := bslice_hi HAP.out.1 c (by omega)
                obtain ⟨A5, c5, rb, hrb, hsl5, hby5⟩ := bslice_lo HAP.out.1 c (by omega)
                have HWL := Lib.hid (show wsn.length = c by rw [hwsn.out, List.length_take]; omega)
                have HAP5 := Lib.hid (HAP.out.slice (l := c) (by omega) hby5 (by rw [hrb.out, List.length_drop]; omega) (hsl5 wr))
                have HBH := Lib.hid hbh
                have hzb : (a.length + wsn.length) * 1 ≤ 140737488355328 := by have := HWL.out; omega
                have HR2 : Hid (rb = r.drop c) := hrb
                obtain ⟨a2, ha2⟩ : ∃ y, y = a ++ wsn := ⟨_, rfl⟩
                have HA2' := Lib.hid ha2
                have HA2 : Hid (a2 = a ++ r.take c) := by show a2 = _; rw [ha2, hwsn.out]
                have HL2' := Lib.hid (show a2.length = a.length + wsn.length by rw [ha2, List.length_append])
                have HL2 := Lib.hid (show a2.length = a.length + c by rw [HL2'.out, HWL.out])
                have hR := (decT_ok hbs0 (stepD_lit HCC.out HDROP.out hx256 hc0 hc7 htorn hlong)).symm.trans HDT.out
                rw [← HA2.out, ← HR2.out] at hR
                have HDT2 := Lib.hid hR
                have q1 : dict.length ≤ a2.length := by have := HL2.out; omega
                have q2 : a2.length ≤ dict.length + m := by have := HL2.out; omega
                have q3 : rb.length < bs'.length := by have := congrArg List.length HR2.out; rw [List.length_drop] at this; have := HRL.out; omega
                clear hbh hby5 ha2 hR
                go_wp2_with (at_builtin; refine Stop.at ?_)
                refine Stop.go ?_
                refine step_append E24 rfl (.tmp 46) (.tmp 49) rfl w.heap.size (n := a.length) (xs := a.map B) (by simp [Act.eval, Act.put]) HO.out (by simp [Act.eval, Act.put]) HBH.out (by simp) (oneCell_B _) hzb (by decide) HB.out.size ?_
                intro v2 w2 ho2 hg2
                obtain ⟨T2, tc2, rfl⟩ := own_slice ho2
                rw [← List.map_append, ← HA2'.out, ← HL2'.out] at ho2
                rw [← HL2'.out] at hg2 ⊢
                have HB2 := Lib.hid (HB.out.trans (hg2.below HO.out HB.out.size))
                have HP2 := Lib.hid (HAP5.out.grew hg2)
                have HO2 := Lib.hid ho2
                clear ho2 hg2
                go_wp2
                exact ⟨⟨rb, a2, A5, c5, T2, tc2, rfl, rfl, HDT2, q1, q2, by omega, HO2, HP2, HB2⟩, by simp [lenV]; exact q3⟩
          · have b2 : ¬ (c : Int) < 128 := by omega
            go_wp2_with fail
            refine (refInt_calls A3 c3 r wr HAP.out.1 (by omega)).mono ?_
            rintro e w3 ⟨n, k, er, v3, hn, rfl, hb3, ho3, hz3⟩
            have hle := numG_le r 0 0 n k er hn
            have HN := Lib.hid hn
            have HB3 := Lib.hid (HB.out.trans (hb3.mono HB.out.size))
            have HO3' := Lib.hid (HO.out.below hb3)
            clear hn
            by_cases he : er = 0
            · obtain ⟨hk1, hk2, hn2⟩ := hle.1 he
              have ho3' := ho3 he
              clear hle ho3 hz3
              obtain ⟨rb, hrb⟩ : ∃ y, y = r.drop k := ⟨_, rfl⟩
              have hrbl : rb.length = r.length - k := by rw [hrb, List.length_drop]
              rw [← hrb, ← hrbl] at ho3'
              obtain ⟨A5, c5, rfl⟩ := own_slice ho3'
              have HP3 := Lib.hid (Apart.own (v := .slice T a.length tc) ho3' (fun k hk => (HO.out.lt _ hk).2))
              have HR2 : Hid (rb = r.drop k) := hrb
              have hrb2 : rb.length ≤ 1000000 := by omega
              subst he
              clear ho3' hrb hrbl hb3
              have be : ((0 : Int) != 0) = false := by decide
              by_cases hform : n < 1 ∨ 4096 < n ∨ a.length < n
              · have hR := HDT.out.symm.trans (decT_err hbs0 (stepD_form HCC.out HDROP.out hx256 HN.out hc7 rfl hform) (by decide))
                obtain ⟨rfl, rfl⟩ : r1 = 3 ∧ r2 = [] := by cases hR; exact ⟨rfl, rfl⟩
                clear hR
                by_cases f1 : n < 1
                · have g1 : ((n : Int) == 0) = true := by rw [beq_iff_eq]; omega
                  go_wp2
                  go_ret2
                  exact ⟨none, 0, rfl, Own.nil _ _ _ _, HB3.out⟩
                · have g1 : ((n : Int) == 0) = false := by rw [beq_eq_false_iff_ne]; omega
                  by_cases f2 : 4096 < n
                  · have g2 : (4096 : Int) < (n : Int) := by omega
                    go_wp2
                    go_ret2
                    exact ⟨none, 0, rfl, Own.nil _ _ _ _, HB3.out⟩
                  · have g2 : ¬ (4096 : Int) < (n : Int) := by omega
                    have g3 : (a.length : Int) < (n : Int) := by omega
                    go_wp2
                    go_ret2
                    exact ⟨none, 0, rfl, Own.nil _ _ _ _, HB3.out⟩
              · have g1 : ((n : Int) == 0) = false := by rw [beq_eq_false_iff_ne]; omega
                have g2 : ¬ (4096 : Int) < (n : Int) := by omega
                have g3 : ¬ (a.length : Int) < (n : Int) := by omega
                have e2 : decide ((4096 : Int) < (n : Int)) = false := decide_eq_false g2
                have e3 : decide ((a.length : Int) < (n : Int)) = false := decide_eq_false g3
                have e3' : decide (a.length < n) = false := decide_eq_false (by omega)
                obtain ⟨N, hN⟩ : ∃ N, c - 124 = N := ⟨_, rfl⟩
                have v1 : IntKind.i64.wrap ((c : Int) - 128) = (c : Int) - 128 := by rw [IntKind.wrap_i64]; omega
                have v2 : IntKind.i64.wrap ((c : Int) - 128 + 4) = (N : Int) := by rw [IntKind.wrap_i64]; omega
                have hN131 : N ≤ 131 := by omega
                have vw : IntKind.i64.wrap ((G : Int) + (N : Int)) = (G : Int) + (N : Int) := by rw [IntKind.wrap_i64]; omega
                have HNN := Lib.hid hN
                have HHF := Lib.hid hform
                have hn1 : 1 ≤ n := by omega
                clear hN hform
                by_cases hlong : m < a.length - dict.length + (c - 124)
                · have d1 : (m : Int) < (G : Int) + (N : Int) := by have := HG.out; have := HNN.out; omega
                  have hR := HDT.out.symm.trans (decT_err hbs0 (stepD_mlong HCC.out HDROP.out hx256 HN.out hc7 rfl HHF.out hlong) (by decide))
                  obtain ⟨rfl, rfl⟩ : r1 = 5 ∧ r2 = [] := by cases hR; exact ⟨rfl, rfl⟩
                  clear hR
                  go_wp2
                  go_ret2
                  exact ⟨none, 0, rfl, Own.nil _ _ _ _, HB3.out⟩
                · have d1 : ¬ (m : Int) < (G : Int) + (N : Int) := by have := HG.out; have := HNN.out; omega
                  have d1' : decide ((m : Int) < (G : Int) + (N : Int)) = false := decide_eq_false d1
                  have hGN : a.length + N ≤ dict.length + m := by have := HG.out; have := HNN.out; omega
                  have HDT2 := Lib.hid ((decT_ok hbs0 (stepD_match HCC.out HDROP.out hx256 HN.out hc7 rfl HHF.out hlong)).symm.trans HDT.out)
                  clear hlong
                  go_wp2
                  go_loopw [8, 14] (fun av i w' => ∃ (j : Nat) (T2 : Option Addr) (tc2 : Nat) (a2 : List UInt8), i = .int .i64 j ∧ j ≤ N ∧ av = .slice T2 a2.length tc2 ∧ Hid (a2 = copyN n j a) ∧ a2.length ≤ a.length + j ∧ a.length + j ≤ a2.length ∧ Hid (Own w' w.heap.size 5 1 (.slice T2 a2.length tc2) a2.length (a2.map B)) ∧
                    Hid (Apart w' A5 c5 rb (.slice T2 a2.length tc2)) ∧ Hid (Below w.heap.size w w')) (fun av i w' => N - (intOf i).toNat)
                  case atStart => exact ⟨0, T, tc, a, rfl, Nat.zero_le _, rfl, rfl, by omega, by omega, HO3', HP3, HB3⟩
                  case round =>
                    obtain ⟨j, T2, tc2, a2, rfl, hj, rfl, ha2, hl1, hl2, ho2, hp2, hb2⟩ := hrel
                    by_cases hlt : j < N
                    · have d2 : (j : Int) < (N : Int) := by omega
                      have hidx : a2.length - n < a2.length := by omega
                      obtain ⟨t, rfl⟩ := (own_bytes ho2.out).some_of hidx
                      obtain ⟨y, hy, hcy, hy256, _⟩ := byte_at (own_bytes ho2.out) hidx
                      obtain ⟨I, hI⟩ : ∃ I, a2.length - n = I := ⟨_, rfl⟩
                      rw [hI] at hy hcy hidx
                      have vI : IntKind.i64.wrap ((a2.length : Int) - (n : Int)) = (I : Int) := by rw [IntKind.wrap_i64]; omega
                      have HCP := Lib.hid (show copyN n (j + 1) a = a2 ++ [y] by
                        rw [ha2.out]
                        rw [ha2.out] at hI hy
                        exact copyN_succ (by rw [hI]; exact hy))
                      have hzb : (a2.length + 1) * 1 ≤ 140737488355328 := by omega
                      have hI2 : (I : Int) < (a2.length : Int) := by omega
                      clear hI hy
                      go_wp2_with (at_builtin; refine Stop.at ?_)
                      refine Stop.go ?_
                      refine step_append E24 rfl (.tmp 92) (.tmp 100) rfl w.heap.size rfl (ho2.out.alloc (.cells #[B y] 5)) rfl (Rd.new _ 5 #[B y] 1 (by decide)) rfl (by simp [Value.oneCell', B]) hzb (by decide) (by have := hb2.out.size; simp; omega) ?_
                      intro v6 w6 ho6 hg6
                      obtain ⟨T6, tc6, rfl⟩ := own_slice ho6
                      have hba : Below wr.heap.size wr (wr.alloc (.cells #[B y] 5)) := (Below.refl _ _).alloc (Nat.le_refl _) _
                      obtain ⟨a6, ha6⟩ : ∃ z, z = a2 ++ [y] := ⟨_, rfl⟩
                      have hl6 : a6.length = a2.length + 1 := by rw [ha6, List.length_append]; rfl
                      have ho6' : Own w6 w.heap.size 5 1 (.slice T6 a6.length tc6) a6.length (a6.map B) := by rw [hl6, ha6, List.map_append]; exact ho6
                      have hg6' : Grew (wr.alloc (.cells #[B y] 5)) w6 (.slice (some t) a2.length tc2) (.slice T6 a6.length tc6) := by rw [hl6]; exact hg6
                      have HO6 := Lib.hid ho6'
                      have HP6 := Lib.hid ((hp2.out.below hba).grew hg6')
                      have HB6 := Lib.hid ((hb2.out.trans (hba.mono hb2.out.size)).trans (hg6'.below (ho2.out.alloc (.cells #[B y] 5)) (by have := hb2.out.size; simp; omega)))
                      have HA6 : Hid (a6 = copyN n (j + 1) a) := by show a6 = _; rw [ha6, HCP.out]
                      rw [← hl6]
                      have q1 : a6.length ≤ a.length + (j + 1) := by omega
                      have q2 : a.length + (j + 1) ≤ a6.length := by omega
                      clear ho6 hg6 ho6' hg6' hba hl6 ha6
                      go_wp2
                      exact ⟨⟨j + 1, T6, tc6, a6, rfl, by omega, rfl, HA6, q1, q2, HO6, HP6, HB6⟩, by simp [intOf]; omega⟩
                    · have d2 : ¬ (j : Int) < (N : Int) := by omega
                      have hjN : j = N := by omega
                      subst hjN
                      have hR := HDT2.out
                      rw [HNN.out, ← ha2.out, ← HR2.out] at hR
                      have HDT3 := Lib.hid hR
                      have q1 : dict.length ≤ a2.length := by omega
                      have q2 : a2.length ≤ dict.length + m := by omega
                      have q3 : rb.length < bs'.length := by have := congrArg List.length HR2.out; rw [List.length_drop] at this; have := HRL.out; omega
                      clear hR e2 e3 e3' v1 v2 vw d1 d1'
                      go_wp2
                      exact ⟨⟨rb, a2, A5, c5, T2, tc2, rfl, rfl, HDT3, q1, q2, by omega, ho2, hp2, hb2⟩, by simp [lenV]; exact q3⟩
            · have hR := HDT.out.symm.trans (decT_err hbs0 (stepD_er HCC.out HDROP.out hx256 HN.out hc7 he) he)
              obtain ⟨rfl, rfl⟩ : r1 = er ∧ r2 = [] := by cases hR; exact ⟨rfl, rfl⟩
              have be : ((r1 : Int) != 0) = true := by rw [bne_iff_ne]; omega
              clear hR hle ho3 hz3
              go_wp2
              go_ret2
              exact ⟨none, 0, rfl, Own.nil _ _ _ _, HB3.out⟩
      · have hz : bs'.length = 0 := by omega
        have b0 : ¬ (0 : Int) < (bs'.length : Int) := by omega
        have hR := HDT.out.symm.trans (decT_nil hz)
        obtain ⟨rfl, hr2⟩ : r1 = 0 ∧ r2 = a.drop dict.length := by cases hR; exact ⟨rfl, rfl⟩
        obtain ⟨A5, c5, rb, hrb, hsl5, hby5⟩ := bslice_lo (own_bytes HO.out) dict.length hal
        have HRB := Lib.hid (show rb = r2 by rw [hrb.out, hr2])
        have hrl : rb.length ≤ 2000000 := by rw [hrb.out, List.length_drop]; omega
        have hba : Below wr.heap.size wr (wr.alloc (.cells #[] 5)) := (Below.refl _ _).alloc (Nat.le_refl _) _
        have HBY := Lib.hid (hby5.below hba)
        have HOE := Lib.hid (Own.empty wr (base := w.heap.size) HB.out.size)
        have HBE := Lib.hid (HB.out.trans (hba.mono HB.out.size))
        clear hR hz hr2 hby5 hba
        go_wp2_with (at_builtin; refine Stop.at ?_)
        refine Stop.go ?_
        refine step_append E24 rfl (.tmp 103) (.tmp 107) rfl w.heap.size (n := 0) (xs := []) rfl HOE.out rfl HBY.out (by simp) (oneCell_B _) (by omega) (by decide) HBE.out.size ?_
        intro v3 w3 ho3 hg3
        obtain ⟨T3, tc3, rfl⟩ := own_slice ho3
        have HB3 := Lib.hid (HBE.out.trans (hg3.below HOE.out HBE.out.size))
        rw [Nat.zero_add, List.nil_append] at ho3
        rw [Nat.zero_add]
        have HO3 := Lib.hid ho3
        clear ho3 hg3
        go_wp2
        go_ret2
        have e := HRB.out
        subst e
        exact ⟨T3, tc3, rfl, HO3.out, HB3.out⟩
end Go.Proofs.Ytfdkhopionknaaa
