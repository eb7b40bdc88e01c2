/- DictionaryTokens: the walk. -/
import Derived.Test.YtfdkhopionknaaaDicZ
import Derived.Test.YtfdkhopionknaaaDicSm
namespace Go.Proofs.Ytfdkhopionknaaa
open Go.RowKit
set_option linter.unusedVariables false
set_option linter.unusedSimpArgs false
/-- append at an operation that is guarded, and wanted. -/
theorem step_appendG {P : Program} {t e : TypeId} {size bytes : Nat} (E : Elem P t e size bytes) {ops : Array Oper} {rest : List Oper} {o : Oper} {a : Act} {w : World} {Q : Exit → Act → World → Prop}
    (hw : Region.wanted o (yielded ops a.tmps) = true) (s x : Operand) (ho : o.op = .call { callee := .builtin .append, args := #[s, x], argTypes := #[t, t] })
    (base : Nat) {v : Value} {n : Nat} {xs : List Value} (hs : a.eval s = v) (hown : Own w base e size v n xs)
    {X : Option Addr} {m c : Nat} {news : List Value} (hx : a.eval x = .slice X m c) (hrd : Rd w X m c news) (hl : news.length = m * size) (h1 : ∀ u ∈ news, u.oneCell' = true)
    (hbytes : (n + m) * bytes ≤ 140737488355328) (hb1 : 1 ≤ bytes) (hbase : base ≤ w.heap.size)
    (h : ∀ v' w', Own w' base e size v' (n + m) (xs ++ news) → Grew w w' v v' → wpList P ops Q rest (a.put o.dst v') w') :
    wpList P ops Q (o :: rest) a w := by
  refine wpList_step fun K hK => ?_
  rw [if_pos hw]
  obtain ⟨v', w', hr, h2, h3⟩ := run_append (P := P) (ty := o.type) E hown hrd hl h1 hbytes hb1 hbase
  unfold Oper.wp execOp
  simp only [ho, resolve, invoke, builtin, Sem.run_bind, Sem.run_pure, Result.andThen_ok, List.map_toArray, List.map_cons, List.map_nil, hs, hx, hr]
  exact hK _ _ (h v' w' h2 h3)

set_option maxRecDepth 20000 in
set_option maxHeartbeats 6000000 in
theorem dtokens_calls (A0 A1 A2 : Option Addr) (c0 c1 c2 : Nat) (dict a b : List UInt8) (w : World) (h0 : Bytes w A0 c0 dict) (h1 : Bytes w A1 c1 a) (h2 : Bytes w A2 c2 b) :
    Calls Try.prog 15 #[.slice A0 dict.length c0, .slice A1 a.length c1, .slice A2 b.length c2] w fun e w' => e = .returned (.bool true) ∧ Below w.heap.size w w' := by
  have H0 := Lib.hid h0
  have H1 := Lib.hid h1
  have H2 := Lib.hid h2
  clear h0 h1 h2
  by_cases hs : dict.length ≤ 400 ∧ a.length ≤ 400 ∧ b.length ≤ 400
  · have hR : decide (∀ t ∈ [(A0, dict.length, c0), (A1, a.length, c1), (A2, b.length, c2)], t.2.1 ≤ 400) = true := by simp; omega
    have HR := Lib.hid hR
    obtain ⟨hs0, hs1, hs2⟩ := hs
    obtain ⟨ra, hra⟩ : ∃ r, encodeD dict a = r := ⟨_, rfl⟩
    obtain ⟨known, hkn⟩ : ∃ r, r = dict ++ a := ⟨_, rfl⟩
    obtain ⟨rb, hrb⟩ : ∃ r, encodeD known b = r := ⟨_, rfl⟩
    obtain ⟨M, hM⟩ : ∃ M, a.length + b.length = M := ⟨_, rfl⟩
    obtain ⟨ab, hab⟩ : ∃ x, x = a ++ b := ⟨_, rfl⟩
    have hkl : known.length = dict.length + a.length := by rw [hkn, List.length_append]
    have hral : ra.length ≤ 800 := by
      have := encD_len (dict ++ a) dict.length [] (by simp)
      rw [← hra]
      unfold encodeD
      simp only [List.length_nil, List.length_append] at this
      omega
    have hrbl : rb.length ≤ 800 := by
      have := encD_len (known ++ b) known.length [] (by simp)
      rw [← hrb]
      unfold encodeD
      simp only [List.length_nil, List.length_append] at this
      omega
    have HD := Lib.hid (show decodeD dict (ra ++ rb) ((M : Nat) : Int) = (0, ab) by rw [← hra, ← hrb, hkn, ← hM, hab]; exact decode_two dict a b)
    have HRA := Lib.hid hra
    have HRB := Lib.hid hrb
    have HKN := Lib.hid hkn
    have HKL := Lib.hid hkl
    have HAB := Lib.hid hab
    have vM : IntKind.i64.wrap ((a.length : Int) + (b.length : Int)) = (M : Int) := by rw [IntKind.wrap_i64]; omega
    have hM8 : M ≤ 800 := by omega
    have hk8 : known.length ≤ 800 := by omega
    clear hR hra hrb hkn hkl hab hM
    go_enter Try.func15, Try.ntmps15
    go_wp2_with fail
    refine (small_lit [(A0, dict.length, c0), (A1, a.length, c1), (A2, b.length, c2)] w true (by simp) HR.out).mono ?_
    rintro e w1 ⟨rfl, hb1⟩
    have hba : Below w1.heap.size w1 (w1.alloc (.cells #[] 5)) := (Below.refl _ _).alloc (Nat.le_refl _) _
    go_wp2_with (at_builtin; refine Stop.at ?_)
    refine Stop.go ?_
    refine step_append E24 rfl (.tmp 18) (.tmp 19) rfl w1.heap.size (n := 0) (xs := []) rfl (Own.empty w1 (Nat.le_refl _)) rfl ((H0.out.below hb1.out).below hba) (by simp) (oneCell_B _) (by omega) (by decide) hba.size ?_
    intro v2 w2 ho2 hg2
    obtain ⟨T2, tc2, rfl⟩ := own_slice ho2
    have hb2 : Below w1.heap.size w1 w2 := hba.trans (hg2.below (Own.empty w1 (Nat.le_refl _)) hba.size)
    rw [Nat.zero_add, List.nil_append] at ho2
    rw [Nat.zero_add]
    have HO2 := Lib.hid ho2
    have HB2 := Lib.hid hb2
    have hzb : (dict.length + a.length) * 1 ≤ 140737488355328 := by omega
    clear ho2 hg2 hb2 hba
    go_wp2_with (at_builtin; refine Stop.at ?_)
    refine Stop.go ?_
    refine step_append E24 rfl (.tmp 20) (.tmp 21) rfl w1.heap.size rfl HO2.out rfl ((H1.out.below hb1.out).below HB2.out) (by simp) (oneCell_B _) hzb (by decide) HB2.out.size ?_
    intro v3 w3 ho3 hg3
    obtain ⟨T3, tc3, rfl⟩ := own_slice ho3
    rw [← List.map_append, ← HKN.out, ← HKL.out] at ho3
    rw [← HKL.out] at hg3 ⊢
    have HB3 := Lib.hid (below_then hb1.out (HB2.out.trans (hg3.below HO2.out HB2.out.size)))
    have HY3 := Lib.hid (own_bytes ho3)
    clear ho3 hg3
    have hbc : Below w3.heap.size w3 (w3.alloc (.cells #[] 5)) := (Below.refl _ _).alloc (Nat.le_refl _) _
    go_wp2_with fail
    refine (dEnc_lit A0 A1 c0 c1 dict a ra (w3.alloc (.cells #[] 5)) HRA.out ((H0.out.below HB3.out).below hbc) ((H1.out.below HB3.out).below hbc) (by omega)).mono ?_
    rintro e w4 ⟨A4, c4, rfl, hA4, hb4⟩
    have HE4 := Lib.hid ((Own.empty w3 (Nat.le_refl _)).below hb4.out)
    have hb34 : Below w3.heap.size w3 w4 := hbc.trans (hb4.out.mono hbc.size)
    have HB34 := Lib.hid hb34
    have HB4 := Lib.hid (below_then HB3.out hb34)
    have HY4 := Lib.hid (HY3.out.below hb34)
    clear hbc hb34 hb4
    go_wp2_with (at_builtin; refine Stop.at ?_)
    refine Stop.go ?_
    refine step_append E24 rfl (.tmp 23) (.tmp 26) rfl w3.heap.size (n := 0) (xs := []) rfl HE4.out rfl hA4.out (by simp) (oneCell_B _) (by omega) (by decide) HB34.out.size ?_
    intro v5 w5 ho5 hg5
    obtain ⟨T5, tc5, rfl⟩ := own_slice ho5
    have hb35 : Below w3.heap.size w3 w5 := HB34.out.trans (hg5.below HE4.out HB34.out.size)
    rw [Nat.zero_add, List.nil_append] at ho5
    rw [Nat.zero_add]
    have HO5 := Lib.hid ho5
    have HB35 := Lib.hid hb35
    have HB5 := Lib.hid (below_then HB3.out hb35)
    have HY5 := Lib.hid (HY3.out.below hb35)
    clear ho5 hg5 hb35
    go_wp2_with fail
    refine (dEnc_lit T3 A2 tc3 c2 known b rb w5 HRB.out HY5.out (H2.out.below HB5.out) (by omega)).mono ?_
    rintro e w6 ⟨A6, c6, rfl, hA6, hb6⟩
    have HO6 := Lib.hid (HO5.out.below hb6.out)
    have HB36 := Lib.hid (HB35.out.trans (hb6.out.mono HB35.out.size))
    have hzc : (ra.length + rb.length) * 1 ≤ 140737488355328 := by omega
    clear hb6
    go_wp2_with (at_builtin; refine Stop.at ?_)
    refine Stop.go ?_
    refine step_append E24 rfl (.tmp 27) (.tmp 30) rfl w3.heap.size rfl HO6.out rfl hA6.out (by simp) (oneCell_B _) hzc (by decide) HB36.out.size ?_
    intro v7 w7 ho7 hg7
    obtain ⟨T7, tc7, rfl⟩ := own_slice ho7
    obtain ⟨tok, htok⟩ : ∃ x, x = ra ++ rb := ⟨_, rfl⟩
    have htl : tok.length = ra.length + rb.length := by rw [htok, List.length_append]
    rw [← List.map_append, ← htok, ← htl] at ho7
    rw [← htl] at hg7 ⊢
    have HB7 := Lib.hid (below_then HB3.out (HB36.out.trans (hg7.below HO6.out HB36.out.size)))
    have HY7 := Lib.hid (own_bytes ho7)
    have HD7 := Lib.hid (show decodeD dict tok ((M : Nat) : Int) = (0, ab) by rw [htok]; exact HD.out)
    have htl2 : tok.length ≤ 1600 := by omega
    clear ho7 hg7 htok htl
    go_wp2_with fail
    refine (dDec_lit A0 T7 c0 tc7 dict tok M _ w7 HD7.out (H0.out.below HB7.out) HY7.out (by omega) (by omega) (by omega)).mono ?_
    rintro e w8 ⟨A8, c8, rfl, hA8, hb8⟩
    have HB8 := Lib.hid (below_then HB7.out hb8.out)
    go_wp2_with fail
    refine (awake6_calls w8).mono ?_
    rintro e w9 ⟨rfl, hb9⟩
    have HB9 := Lib.hid (below_then HB8.out hb9)
    have HA9 := Lib.hid (hA8.out.below hb9)
    clear hb9
    have hbd : Below w9.heap.size w9 (w9.alloc (.cells #[] 5)) := (Below.refl _ _).alloc (Nat.le_refl _) _
    go_wp2_with (at_builtin; refine Stop.at ?_)
    refine Stop.go ?_
    refine step_appendG E24 (by first | rfl | simp [Region.wanted, yielded]) (.tmp 50) (.tmp 51) rfl w9.heap.size (n := 0) (xs := []) rfl (Own.empty w9 (Nat.le_refl _)) rfl ((H1.out.below HB9.out).below hbd) (by simp) (oneCell_B _) (by omega) (by decide) hbd.size ?_
    intro v10 w10 ho10 hg10
    obtain ⟨T10, tc10, rfl⟩ := own_slice ho10
    have hb10 : Below w9.heap.size w9 w10 := hbd.trans (hg10.below (Own.empty w9 (Nat.le_refl _)) hbd.size)
    rw [Nat.zero_add, List.nil_append] at ho10
    rw [Nat.zero_add]
    have HO10 := Lib.hid ho10
    have HB910 := Lib.hid hb10
    have hzd : (a.length + b.length) * 1 ≤ 140737488355328 := by omega
    clear ho10 hg10 hb10 hbd
    go_wp2_with (at_builtin; refine Stop.at ?_)
    refine Stop.go ?_
    refine step_appendG E24 (by first | rfl | simp [Region.wanted, yielded]) (.tmp 52) (.tmp 53) rfl w9.heap.size rfl HO10.out rfl ((H2.out.below HB9.out).below HB910.out) (by simp) (oneCell_B _) hzd (by decide) HB910.out.size ?_
    intro v11 w11 ho11 hg11
    obtain ⟨T11, tc11, rfl⟩ := own_slice ho11
    have hal : ab.length = a.length + b.length := by rw [HAB.out, List.length_append]
    rw [← List.map_append, ← HAB.out, ← hal] at ho11
    rw [← hal] at hg11 ⊢
    have hb11 : Below w9.heap.size w9 w11 := HB910.out.trans (hg11.below HO10.out HB910.out.size)
    have HB11 := Lib.hid (below_then HB9.out hb11)
    have HA11 := Lib.hid (HA9.out.below hb11)
    have HY11 := Lib.hid (own_bytes ho11)
    clear ho11 hg11 hb11 hal
    go_wp2_with fail
    refine (equal_calls A8 T11 c8 tc11 ab ab w11 HA11.out HY11.out).mono ?_
    rintro e w12 ⟨rfl, rfl⟩
    rw [decide_eq_true rfl]
    go_wp2
    go_ret
    exact ⟨rfl, HB11.out⟩
  · have hR : decide (∀ t ∈ [(A0, dict.length, c0), (A1, a.length, c1), (A2, b.length, c2)], t.2.1 ≤ 400) = false := by simp; omega
    have HR := Lib.hid hR
    clear hR hs
    go_enter Try.func15, Try.ntmps15
    go_wp2_with fail
    refine (small_lit [(A0, dict.length, c0), (A1, a.length, c1), (A2, b.length, c2)] w false (by simp) HR.out).mono ?_
    rintro e w1 ⟨rfl, hb1⟩
    go_wp2_with fail
    refine (awake6_calls w1).mono ?_
    rintro e w2 ⟨rfl, hb2⟩
    have HB2 := Lib.hid (below_then hb1.out hb2)
    clear hb1 hb2
    go_wp2
    go_ret
    exact ⟨rfl, HB2.out⟩
end Go.Proofs.Ytfdkhopionknaaa
