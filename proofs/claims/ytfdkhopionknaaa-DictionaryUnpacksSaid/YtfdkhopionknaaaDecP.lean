/- Decode (program's text). -/
import Derived.Test.YtfdkhopionknaaaRdrD
import Derived.Test.YtfdkhopionknaaaEncP
namespace Go.Proofs.Ytfdkhopionknaaa
open Go.RowKit
set_option linter.unusedVariables false
set_option linter.unusedSimpArgs false

/-- How many bytes are left in the reader at R. -/
def lenAt (W : World) (R : Nat) : Nat := match W.cell? ⟨R, 0, none⟩ with | some (.slice _ n _) => n | _ => 0
theorem lenAt_of {W : World} {R : Nat} {A : Option Addr} {n c : Nat} {a b : Value} (h : W.heap[R]? = some (.cells #[.slice A n c, a, b] 78 (0, 0))) : lenAt W R = n := by
  have : W.cell? ⟨R, 0, none⟩ = some (.slice A n c) := by rw [cell_of_row _ _ 0 _ _ _ h]; rfl
  unfold lenAt
  rw [this]
/-- The decoding under a length that counts. -/
def decM (m : Nat) (bs : List UInt8) : Nat × List Sec :=
  if (decL m bs []).1 ≠ 0 then ((decL m bs []).1, []) else if encode (decL m bs []).2 = bs then (0, (decL m bs []).2) else (3, [])
theorem decM_err {m : Nat} {bs : List UInt8} {e : Nat} {l : List Sec} (h : decL m bs [] = (e, l)) (he : e ≠ 0) : decM m bs = (e, []) := by unfold decM; rw [h]; exact if_pos he
theorem decM_ok {m : Nat} {bs : List UInt8} {l : List Sec} (h : decL m bs [] = (0, l)) (he : encode l = bs) : decM m bs = (0, l) := by
  unfold decM; rw [h]; rw [if_neg (by simp)]; exact if_pos he
theorem decM_form {m : Nat} {bs : List UInt8} {l : List Sec} (h : decL m bs [] = (0, l)) (he : encode l ≠ bs) : decM m bs = (3, []) := by
  unfold decM; rw [h]; rw [if_neg (by simp)]; exact if_neg he
theorem step_out (m : Nat) (bs : List UInt8) (out : List Sec) (ho : out.length ≤ m) (h : (stepG m bs out).1 = 0) : (stepG m bs out).2.2.length ≤ m := by
  obtain ⟨⟨n, k, er⟩, hn⟩ : ∃ r, numG bs 0 0 = r := ⟨_, rfl⟩
  by_cases he : er = 0
  · subst he
    by_cases h2 : 2 < n % 4 ∨ n / 4 = 0
    · rw [stepG_form hn h2] at h; cases h
    by_cases h3 : m < n / 4 + out.length
    · rw [stepG_long hn h2 h3] at h; cases h
    by_cases h4 : bs.length - k < 8 * needG (n % 4) (n / 4)
    · rw [stepG_torn hn h2 h3 h4] at h; cases h
    rw [stepG_ok hn h2 h3 h4, List.length_append, grpG_length]
    omega
  · rw [stepG_er hn he] at h; exact absurd h he

/-- What Decode hands back. -/
def Decoded (w : World) (r : Nat × List Sec) (e : Ending) (w' : World) : Prop :=
  ∃ v, e = .returned (.tuple #[v, .int .i64 r.1]) ∧ Own w' w.heap.size 38 8 v r.2.length ((flat r.2).map B) ∧ Below w.heap.size w w'
theorem leave23 {w w' : World} {tmps : Array Value} {O : Option Addr} {oc er : Nat} {out : List Sec} (h4 : tmps.getD 4 undef = .pointer (some ⟨w.heap.size, 0, none⟩)) (h5 : tmps.getD 5 undef = .pointer (some ⟨w.heap.size + 1, 0, none⟩))
    (hl : w'.heap[w.heap.size]? = some (.cells #[.slice O out.length oc] 22 (0, 0))) (he : w'.heap[w.heap.size + 1]? = some (.cells #[.int .i64 er] 29 (0, 0))) (ho : Own w' w.heap.size 38 8 (.slice O out.length oc) out.length ((flat out).map B)) (hb : Below w.heap.size w w') :
    Leaves Try.prog Try.f23 tmps (Decoded w (er, out)) [] .returning w' := by
  have c4 : w'.cell? ⟨w.heap.size, 0, none⟩ = some (.slice O out.length oc) := by rw [cell_of_row _ _ 0 _ _ _ hl]; rfl
  have c5 : w'.cell? ⟨w.heap.size + 1, 0, none⟩ = some (.int .i64 er) := by rw [cell_of_row _ _ 0 _ _ _ he]; rfl
  have h4' : tmps[4]?.getD undef = .pointer (some ⟨w.heap.size, 0, none⟩) := by simpa using h4
  have h5' : tmps[5]?.getD undef = .pointer (some ⟨w.heap.size + 1, 0, none⟩) := by simpa using h5
  have hr : (results Try.f23 tmps).run Try.prog w' = .ok (.tuple #[.slice O out.length oc, .int .i64 er]) w' := by simp [results, Try.results23, go_sem, c4, c5, h4', h5']
  exact ⟨_, hr, _, rfl, ho, hb⟩

set_option maxRecDepth 20000 in
set_option maxHeartbeats 3000000 in
theorem Decode_neg (A : Option Addr) (c : Nat) (bs : List UInt8) (most : Int) (hneg : most < 0) (w : World) (h : Bytes w A c bs) (hlen : bs.length ≤ 1099511627776) :
    Calls Try.prog 23 #[.slice A bs.length c, .int .i64 most] w (Decoded w (decM 0 bs)) := by
  have b1 : ¬ (0 : Int) ≤ most := by omega
  have hM : 0 ≤ 4096 := by omega
  obtain ⟨w1, e1, hg1, hb1, hz1⟩ := alloc_facts w #[.slice none 0 0] 22
  obtain ⟨w2, e2, hg2, hb2, hz2⟩ := alloc_facts w1 #[.int .i64 0] 29
  obtain ⟨w3, e3, hg3, hb3, hz3⟩ := alloc_facts w2 #[.slice A bs.length c, .int .i64 0, .slice none 0 0] 78
  have hmf : ∀ (fn : Fn) (first cap : Array Value) (w : World), (Instr.makeFunc fn first cap).run Try.prog w = .ok (.func fn first cap) w := fun _ _ _ _ => rfl
  have hz3' : w3.heap.size = w.heap.size + 3 := by omega
  have hb03 : Below w.heap.size w w3 := (hb1.trans (hb2.mono (by omega))).trans (hb3.mono (by omega))
  have hl3 : w3.heap[w.heap.size]? = some (.cells #[.slice none 0 0] 22 (0, 0)) := by rw [hb3.block _ (by omega), hb2.block _ (by omega)]; exact hg1
  have he3 : w3.heap[w.heap.size + 1]? = some (.cells #[.int .i64 0] 29 (0, 0)) := by rw [hb3.block _ (by omega), ← hz1]; exact hg2
  have hr3 : w3.heap[w.heap.size + 1 + 1]? = some (.cells #[.slice A bs.length c, .int .i64 0, .slice none 0 0] 78 (0, 0)) := by rw [show w.heap.size + 1 + 1 = w2.heap.size by omega]; exact hg3
  have hby3 : Bytes w3 A c bs := h.below hb03
  have HRS := Lib.hid (show RS0 (w.heap.size + 1 + 1) w3 bs 0 [] from ⟨A, c, none, 0, hr3, hby3, Own.nil _ _ _ _⟩)
  have HL3 := Lib.hid hl3
  have HE3 := Lib.hid he3
  have HB3 := Lib.hid hb03
  have HH := Lib.hid h
  clear hg1 hb1 hg2 hb2 hg3 hb3 hl3 he3 hr3 hb03 h hby3
  go_enter_defers Try.func23, Try.ntmps23
  go_wp2
  go_loopw [23] (fun i wr => ∃ (bs4 : List UInt8) (out4 : List Sec), bs4.length ≤ bs.length ∧ out4.length ≤ 0 ∧ Hid (RS0 (w.heap.size + 1 + 1) wr bs4 0 out4) ∧ Hid (decL 0 bs4 out4 = decL 0 bs []) ∧
      Hid (wr.heap[w.heap.size]? = some (.cells #[.slice none 0 0] 22 (0, 0))) ∧ Hid (wr.heap[w.heap.size + 1]? = some (.cells #[.int .i64 0] 29 (0, 0))) ∧ Hid (Below w.heap.size w wr)) (fun i wr => lenAt wr (w.heap.size + 1 + 1))
  case atStart => exact ⟨bs, [], Nat.le_refl _, Nat.zero_le _, HRS.out, rfl, HL3.out, HE3.out, HB3.out⟩
  case round =>
    obtain ⟨bs4, out4, hb4, ho4, HRS4, HD4, HL4, HE4, HB4⟩ := hrel
    obtain ⟨A4, c4, O4, oc4, hr4, hy4, hw4⟩ := HRS4.out
    have hc0 : wr.cell? ⟨w.heap.size + 1 + 1, 0, none⟩ = some (.slice A4 bs4.length c4) := by rw [cell_of_row _ _ 0 _ _ _ hr4]; rfl
    have HR4 := Lib.hid hr4
    have HLA := Lib.hid (lenAt_of hr4)
    clear hr4
    by_cases hne : 0 < bs4.length
    · have b9 : (0 : Int) < (bs4.length : Int) := by omega
      go_wp2_with fail
      refine (group_calls (w.heap.size + 1 + 1) bs4 0 out4 wr HRS4.out (by omega) hM ho4).mono ?_
      rintro e w5 ⟨hbl, ⟨hne0, rfl⟩ | ⟨heq, rfl, hrs⟩⟩
      · have hdec : decM 0 bs = ((stepG 0 bs4 out4).1, []) := decM_err (HD4.out.symm.trans (decL_err (by omega) hne0)) hne0
        have HDEC := Lib.hid hdec
        have hl5 : w5.heap[w.heap.size]? = some (.cells #[.slice none 0 0] 22 (0, 0)) := (hbl.block _ (by omega)).trans HL4.out
        have he5 : w5.heap[w.heap.size + 1]? = some (.cells #[.int .i64 0] 29 (0, 0)) := (hbl.block _ (by omega)).trans HE4.out
        have HB5 := Lib.hid (HB4.out.trans (hbl.mono (by omega)))
        clear hdec hne0
        dsimp only [failure]
        generalize (stepG 0 bs4 out4).1 = er at *
        go_wp2
        refine leaves_cons (f := 46) (args := #[.pointer (some ⟨w.heap.size, 0, none⟩), .pointer (some ⟨w.heap.size + 1, 0, none⟩)]) (by simp) (by simp [go_sem]) ?_
        refine (catch_failure w.heap.size w.heap.size (w.heap.size + 1) (Nat.le_refl _) (by omega) (by omega) er _ _ _ hl5 he5).mono ?_
        rintro e u' w6 ⟨rfl, rfl, hl6, he6, hb6⟩
        rw [HDEC.out]
        exact leave23 rfl rfl hl6 he6 (Own.nil _ _ _ _) (HB5.out.trans hb6)
      · have hdo := decL_ok (m := 0) (bs := bs4) (out := out4) (by omega) heq
        have hso := step_out 0 bs4 out4 ho4 heq
        have hsd := stepG_dec 0 bs4 out4 heq
        have HD5 := Lib.hid (hdo.symm.trans HD4.out)
        obtain ⟨⟨er, bs5, out5⟩, hst⟩ : ∃ r, stepG 0 bs4 out4 = r := ⟨_, rfl⟩
        rw [hst] at hrs hso hsd HD5
        simp only at hrs hso hsd HD5
        have HRS5 := Lib.hid hrs.zero
        have HL5 := Lib.hid ((hbl.block _ (by omega)).trans HL4.out)
        have HE5 := Lib.hid ((hbl.block _ (by omega)).trans HE4.out)
        have HB5 := Lib.hid (HB4.out.trans (hbl.mono (by omega)))
        have HLA5 := Lib.hid (show lenAt w5 (w.heap.size + 1 + 1) < lenAt wr (w.heap.size + 1 + 1) by obtain ⟨A', c', O', oc', hr', _⟩ := hrs; rw [HLA.out, lenAt_of hr']; exact hsd)
        clear hrs hbl heq hst hdo
        go_wp2
        exact ⟨⟨bs5, out5, by omega, hso, HRS5, HD5, HL5, HE5, HB5⟩, HLA5.out⟩
    · obtain rfl : bs4 = [] := List.eq_nil_of_length_eq_zero (by omega)
      have HD5 := Lib.hid (HD4.out.symm.trans (decL_nil 0 out4))
      obtain ⟨A5, c5, e5, hrd5⟩ := hw4.rd
      cases e5
      have hcO : wr.cell? ⟨w.heap.size + 1 + 1, 2, none⟩ = some (.slice O4 out4.length oc4) := by rw [cell_of_row _ _ 2 _ _ _ HR4.out]; rfl
      go_wp2_with fail
      refine (Encode_calls O4 oc4 out4 wr hrd5 (by omega)).mono ?_
      rintro e w5 hf
      obtain ⟨A6, c6, rfl, ho6, hr6, hb6⟩ := hf.parts
      have hby5 : Bytes w5 A c bs := (HH.out.below HB4.out).below hb6
      have HL5 := Lib.hid ((hb6.block _ (lt_of_heap HL4.out)).trans HL4.out)
      have HE5 := Lib.hid ((hb6.block _ (lt_of_heap HE4.out)).trans HE4.out)
      have HR5 := Lib.hid ((hb6.block _ (lt_of_heap HR4.out)).trans HR4.out)
      have HW5 := Lib.hid (hw4.below hb6)
      have HB5 := Lib.hid (HB4.out.trans (hb6.mono HB4.out.size))
      clear hb6 ho6 hw4 hf
      go_wp2_with fail
      refine (equal_calls A6 A c6 c (encode out4) bs w5 hr6 hby5).mono ?_
      rintro e w6 ⟨rfl, rfl⟩
      by_cases heq : encode out4 = bs
      · have HDEC := Lib.hid (decM_ok HD5.out heq)
        have hd : decide (encode out4 = bs) = true := decide_eq_true heq
        have hcO6 : w6.cell? ⟨w.heap.size + 1 + 1, 2, none⟩ = some (.slice O4 out4.length oc4) := by rw [cell_of_row _ _ 2 _ _ _ HR5.out]; rfl
        clear hr6 hby5 heq
        go_wp2_with ((with_reducible refine Stop.store 22 ?hst ?_); (case hst => rfl))
        refine Stop.go ?_
        refine step_store_one rfl 22 (.tmp 4) (.tmp 35) rfl rfl HL5.out (by simp) rfl (by kernel_rfl) rfl rfl ?_
        intro w7 hl7 hg7 hz7
        have he7 : w7.heap[w.heap.size + 1]? = some (.cells #[.int .i64 0] 29 (0, 0)) := (hg7.block _ (lt_of_heap HE5.out) (fun x => by have := Option.some.inj x; omega)).trans HE5.out
        have HW7 := Lib.hid (HW5.out.kept hg7 (.inr (fun x => by have := (HW5.out.lt _ x).1; omega)))
        have HB7 := Lib.hid (HB5.out.grown hg7 HB5.out.size (fun k hk => by cases hk; exact Nat.le_refl _))
        have hl7' : w7.heap[w.heap.size]? = some (.cells #[.slice O4 out4.length oc4] 22 (0, 0)) := hl7
        clear hg7 hl7
        go_wp2_with ((with_reducible refine Stop.store 29 ?hst ?_); (case hst => rfl))
        refine Stop.go ?_
        refine step_store_one rfl 29 (.tmp 5) (.const (.int .i64 0)) rfl rfl he7 (by simp) rfl (by kernel_rfl) rfl rfl ?_
        intro w8 he8 hg8 hz8
        have hl8 : w8.heap[w.heap.size]? = some (.cells #[.slice O4 out4.length oc4] 22 (0, 0)) := (hg8.block _ (lt_of_heap hl7') (fun x => by have := Option.some.inj x; omega)).trans hl7'
        have he8' : w8.heap[w.heap.size + 1]? = some (.cells #[.int .i64 ((0 : Nat) : Int)] 29 (0, 0)) := he8
        have HW8 := Lib.hid ((HW7.out.kept hg8 (.inr (fun x => by have := (HW7.out.lt _ x).1; omega))).mono (base' := w.heap.size) (by omega))
        have HB8 := Lib.hid (HB7.out.grown hg8 HB7.out.size (fun k hk => by cases hk; exact Nat.le_succ _))
        have HL8 := Lib.hid hl8
        have HE8 := Lib.hid he8'
        clear hg8 he8 he8' hl8 hl7' he7
        go_wp2
        refine leaves_cons (f := 46) (args := #[.pointer (some ⟨w.heap.size, 0, none⟩), .pointer (some ⟨w.heap.size + 1, 0, none⟩)]) (by simp) (by simp [go_sem]) ?_
        refine (catch_idle ⟨w.heap.size, 0, none⟩ ⟨w.heap.size + 1, 0, none⟩ _).mono ?_
        rintro e u' w9 ⟨rfl, rfl, rfl⟩
        rw [HDEC.out]
        exact leave23 rfl rfl HL8.out HE8.out HW8.out HB8.out
      · have HDEC := Lib.hid (decM_form HD5.out heq)
        have hd : decide (encode out4 = bs) = false := decide_eq_false heq
        clear hr6 hby5 heq
        go_wp2_with ((with_reducible refine Stop.store 22 ?hst ?_); (case hst => rfl))
        refine Stop.go ?_
        refine step_store_one rfl 22 (.tmp 4) (.const (.slice none 0 0)) rfl rfl HL5.out (by simp) rfl (by kernel_rfl) rfl rfl ?_
        intro w7 hl7 hg7 hz7
        have he7 : w7.heap[w.heap.size + 1]? = some (.cells #[.int .i64 0] 29 (0, 0)) := (hg7.block _ (lt_of_heap HE5.out) (fun x => by have := Option.some.inj x; omega)).trans HE5.out
        have HB7 := Lib.hid (HB5.out.grown hg7 HB5.out.size (fun k hk => by cases hk; exact Nat.le_refl _))
        have hl7' : w7.heap[w.heap.size]? = some (.cells #[.slice none 0 0] 22 (0, 0)) := hl7
        clear hg7 hl7
        go_wp2_with ((with_reducible refine Stop.store 29 ?hst ?_); (case hst => rfl))
        refine Stop.go ?_
        refine step_store_one rfl 29 (.tmp 5) (.const (.int .i64 3)) rfl rfl he7 (by simp) rfl (by kernel_rfl) rfl rfl ?_
        intro w8 he8 hg8 hz8
        have hl8 : w8.heap[w.heap.size]? = some (.cells #[.slice none 0 0] 22 (0, 0)) := (hg8.block _ (lt_of_heap hl7') (fun x => by have := Option.some.inj x; omega)).trans hl7'
        have he8' : w8.heap[w.heap.size + 1]? = some (.cells #[.int .i64 ((3 : Nat) : Int)] 29 (0, 0)) := he8
        have HB8 := Lib.hid (HB7.out.grown hg8 HB7.out.size (fun k hk => by cases hk; exact Nat.le_succ _))
        have HL8 := Lib.hid hl8
        have HE8 := Lib.hid he8'
        clear hg8 he8 he8' hl8 hl7' he7
        go_wp2
        refine leaves_cons (f := 46) (args := #[.pointer (some ⟨w.heap.size, 0, none⟩), .pointer (some ⟨w.heap.size + 1, 0, none⟩)]) (by simp) (by simp [go_sem]) ?_
        refine (catch_idle ⟨w.heap.size, 0, none⟩ ⟨w.heap.size + 1, 0, none⟩ _).mono ?_
        rintro e u' w9 ⟨rfl, rfl, rfl⟩
        rw [HDEC.out]
        exact leave23 (out := []) rfl rfl HL8.out HE8.out (Own.nil _ _ _ _) HB8.out

set_option maxRecDepth 20000 in
set_option maxHeartbeats 3000000 in
theorem Decode_mid (A : Option Addr) (c : Nat) (bs : List UInt8) (m : Nat) (hm : m ≤ 4096) (w : World) (h : Bytes w A c bs) (hlen : bs.length ≤ 1099511627776) :
    Calls Try.prog 23 #[.slice A bs.length c, .int .i64 (m : Int)] w (Decoded w (decM m bs)) := by
  have b1 : (0 : Int) ≤ (m : Int) := by omega
  have b2 : (m : Int) ≤ 4096 := by omega
  have hM : m ≤ 4096 := by omega
  obtain ⟨w1, e1, hg1, hb1, hz1⟩ := alloc_facts w #[.slice none 0 0] 22
  obtain ⟨w2, e2, hg2, hb2, hz2⟩ := alloc_facts w1 #[.int .i64 0] 29
  obtain ⟨w3, e3, hg3, hb3, hz3⟩ := alloc_facts w2 #[.slice A bs.length c, .int .i64 (m : Int), .slice none 0 0] 78
  have hmf : ∀ (fn : Fn) (first cap : Array Value) (w : World), (Instr.makeFunc fn first cap).run Try.prog w = .ok (.func fn first cap) w := fun _ _ _ _ => rfl
  have hz3' : w3.heap.size = w.heap.size + 3 := by omega
  have hb03 : Below w.heap.size w w3 := (hb1.trans (hb2.mono (by omega))).trans (hb3.mono (by omega))
  have hl3 : w3.heap[w.heap.size]? = some (.cells #[.slice none 0 0] 22 (0, 0)) := by rw [hb3.block _ (by omega), hb2.block _ (by omega)]; exact hg1
  have he3 : w3.heap[w.heap.size + 1]? = some (.cells #[.int .i64 0] 29 (0, 0)) := by rw [hb3.block _ (by omega), ← hz1]; exact hg2
  have hr3 : w3.heap[w.heap.size + 1 + 1]? = some (.cells #[.slice A bs.length c, .int .i64 (m : Int), .slice none 0 0] 78 (0, 0)) := by rw [show w.heap.size + 1 + 1 = w2.heap.size by omega]; exact hg3
  have hby3 : Bytes w3 A c bs := h.below hb03
  have HRS := Lib.hid (show RS0 (w.heap.size + 1 + 1) w3 bs m [] from ⟨A, c, none, 0, hr3, hby3, Own.nil _ _ _ _⟩)
  have HL3 := Lib.hid hl3
  have HE3 := Lib.hid he3
  have HB3 := Lib.hid hb03
  have HH := Lib.hid h
  clear hg1 hb1 hg2 hb2 hg3 hb3 hl3 he3 hr3 hb03 h hby3
  go_enter_defers Try.func23, Try.ntmps23
  go_wp2
  go_loopw [23] (fun i wr => ∃ (bs4 : List UInt8) (out4 : List Sec), bs4.length ≤ bs.length ∧ out4.length ≤ m ∧ Hid (RS0 (w.heap.size + 1 + 1) wr bs4 m out4) ∧ Hid (decL m bs4 out4 = decL m bs []) ∧
      Hid (wr.heap[w.heap.size]? = some (.cells #[.slice none 0 0] 22 (0, 0))) ∧ Hid (wr.heap[w.heap.size + 1]? = some (.cells #[.int .i64 0] 29 (0, 0))) ∧ Hid (Below w.heap.size w wr)) (fun i wr => lenAt wr (w.heap.size + 1 + 1))
  case atStart => exact ⟨bs, [], Nat.le_refl _, Nat.zero_le _, HRS.out, rfl, HL3.out, HE3.out, HB3.out⟩
  case round =>
    obtain ⟨bs4, out4, hb4, ho4, HRS4, HD4, HL4, HE4, HB4⟩ := hrel
    obtain ⟨A4, c4, O4, oc4, hr4, hy4, hw4⟩ := HRS4.out
    have hc0 : wr.cell? ⟨w.heap.size + 1 + 1, 0, none⟩ = some (.slice A4 bs4.length c4) := by rw [cell_of_row _ _ 0 _ _ _ hr4]; rfl
    have HR4 := Lib.hid hr4
    have HLA := Lib.hid (lenAt_of hr4)
    clear hr4
    by_cases hne : 0 < bs4.length
    · have b9 : (0 : Int) < (bs4.length : Int) := by omega
      go_wp2_with fail
      refine (group_calls (w.heap.size + 1 + 1) bs4 m out4 wr HRS4.out (by omega) hM ho4).mono ?_
      rintro e w5 ⟨hbl, ⟨hne0, rfl⟩ | ⟨heq, rfl, hrs⟩⟩
      · have hdec : decM m bs = ((stepG m bs4 out4).1, []) := decM_err (HD4.out.symm.trans (decL_err (by omega) hne0)) hne0
        have HDEC := Lib.hid hdec
        have hl5 : w5.heap[w.heap.size]? = some (.cells #[.slice none 0 0] 22 (0, 0)) := (hbl.block _ (by omega)).trans HL4.out
        have he5 : w5.heap[w.heap.size + 1]? = some (.cells #[.int .i64 0] 29 (0, 0)) := (hbl.block _ (by omega)).trans HE4.out
        have HB5 := Lib.hid (HB4.out.trans (hbl.mono (by omega)))
        clear hdec hne0
        dsimp only [failure]
        generalize (stepG m bs4 out4).1 = er at *
        go_wp2
        refine leaves_cons (f := 46) (args := #[.pointer (some ⟨w.heap.size, 0, none⟩), .pointer (some ⟨w.heap.size + 1, 0, none⟩)]) (by simp) (by simp [go_sem]) ?_
        refine (catch_failure w.heap.size w.heap.size (w.heap.size + 1) (Nat.le_refl _) (by omega) (by omega) er _ _ _ hl5 he5).mono ?_
        rintro e u' w6 ⟨rfl, rfl, hl6, he6, hb6⟩
        rw [HDEC.out]
        exact leave23 rfl rfl hl6 he6 (Own.nil _ _ _ _) (HB5.out.trans hb6)
      · have hdo := decL_ok (m := m) (bs := bs4) (out := out4) (by omega) heq
        have hso := step_out m bs4 out4 ho4 heq
        have hsd := stepG_dec m bs4 out4 heq
        have HD5 := Lib.hid (hdo.symm.trans HD4.out)
        obtain ⟨⟨er, bs5, out5⟩, hst⟩ : ∃ r, stepG m bs4 out4 = r := ⟨_, rfl⟩
        rw [hst] at hrs hso hsd HD5
        simp only at hrs hso hsd HD5
        have HRS5 := Lib.hid hrs.zero
        have HL5 := Lib.hid ((hbl.block _ (by omega)).trans HL4.out)
        have HE5 := Lib.hid ((hbl.block _ (by omega)).trans HE4.out)
        have HB5 := Lib.hid (HB4.out.trans (hbl.mono (by omega)))
        have HLA5 := Lib.hid (show lenAt w5 (w.heap.size + 1 + 1) < lenAt wr (w.heap.size + 1 + 1) by obtain ⟨A', c', O', oc', hr', _⟩ := hrs; rw [HLA.out, lenAt_of hr']; exact hsd)
        clear hrs hbl heq hst hdo
        go_wp2
        exact ⟨⟨bs5, out5, by omega, hso, HRS5, HD5, HL5, HE5, HB5⟩, HLA5.out⟩
    · obtain rfl : bs4 = [] := List.eq_nil_of_length_eq_zero (by omega)
      have HD5 := Lib.hid (HD4.out.symm.trans (decL_nil m out4))
      obtain ⟨A5, c5, e5, hrd5⟩ := hw4.rd
      cases e5
      have hcO : wr.cell? ⟨w.heap.size + 1 + 1, 2, none⟩ = some (.slice O4 out4.length oc4) := by rw [cell_of_row _ _ 2 _ _ _ HR4.out]; rfl
      go_wp2_with fail
      refine (Encode_calls O4 oc4 out4 wr hrd5 (by omega)).mono ?_
      rintro e w5 hf
      obtain ⟨A6, c6, rfl, ho6, hr6, hb6⟩ := hf.parts
      have hby5 : Bytes w5 A c bs := (HH.out.below HB4.out).below hb6
      have HL5 := Lib.hid ((hb6.block _ (lt_of_heap HL4.out)).trans HL4.out)
      have HE5 := Lib.hid ((hb6.block _ (lt_of_heap HE4.out)).trans HE4.out)
      have HR5 := Lib.hid ((hb6.block _ (lt_of_heap HR4.out)).trans HR4.out)
      have HW5 := Lib.hid (hw4.below hb6)
      have HB5 := Lib.hid (HB4.out.trans (hb6.mono HB4.out.size))
      clear hb6 ho6 hw4 hf
      go_wp2_with fail
      refine (equal_calls A6 A c6 c (encode out4) bs w5 hr6 hby5).mono ?_
      rintro e w6 ⟨rfl, rfl⟩
      by_cases heq : encode out4 = bs
      · have HDEC := Lib.hid (decM_ok HD5.out heq)
        have hd : decide (encode out4 = bs) = true := decide_eq_true heq
        have hcO6 : w6.cell? ⟨w.heap.size + 1 + 1, 2, none⟩ = some (.slice O4 out4.length oc4) := by rw [cell_of_row _ _ 2 _ _ _ HR5.out]; rfl
        clear hr6 hby5 heq
        go_wp2_with ((with_reducible refine Stop.store 22 ?hst ?_); (case hst => rfl))
        refine Stop.go ?_
        refine step_store_one rfl 22 (.tmp 4) (.tmp 35) rfl rfl HL5.out (by simp) rfl (by kernel_rfl) rfl rfl ?_
        intro w7 hl7 hg7 hz7
        have he7 : w7.heap[w.heap.size + 1]? = some (.cells #[.int .i64 0] 29 (0, 0)) := (hg7.block _ (lt_of_heap HE5.out) (fun x => by have := Option.some.inj x; omega)).trans HE5.out
        have HW7 := Lib.hid (HW5.out.kept hg7 (.inr (fun x => by have := (HW5.out.lt _ x).1; omega)))
        have HB7 := Lib.hid (HB5.out.grown hg7 HB5.out.size (fun k hk => by cases hk; exact Nat.le_refl _))
        have hl7' : w7.heap[w.heap.size]? = some (.cells #[.slice O4 out4.length oc4] 22 (0, 0)) := hl7
        clear hg7 hl7
        go_wp2_with ((with_reducible refine Stop.store 29 ?hst ?_); (case hst => rfl))
        refine Stop.go ?_
        refine step_store_one rfl 29 (.tmp 5) (.const (.int .i64 0)) rfl rfl he7 (by simp) rfl (by kernel_rfl) rfl rfl ?_
        intro w8 he8 hg8 hz8
        have hl8 : w8.heap[w.heap.size]? = some (.cells #[.slice O4 out4.length oc4] 22 (0, 0)) := (hg8.block _ (lt_of_heap hl7') (fun x => by have := Option.some.inj x; omega)).trans hl7'
        have he8' : w8.heap[w.heap.size + 1]? = some (.cells #[.int .i64 ((0 : Nat) : Int)] 29 (0, 0)) := he8
        have HW8 := Lib.hid ((HW7.out.kept hg8 (.inr (fun x => by have := (HW7.out.lt _ x).1; omega))).mono (base' := w.heap.size) (by omega))
        have HB8 := Lib.hid (HB7.out.grown hg8 HB7.out.size (fun k hk => by cases hk; exact Nat.le_succ _))
        have HL8 := Lib.hid hl8
        have HE8 := Lib.hid he8'
        clear hg8 he8 he8' hl8 hl7' he7
        go_wp2
        refine leaves_cons (f := 46) (args := #[.pointer (some ⟨w.heap.size, 0, none⟩), .pointer (some ⟨w.heap.size + 1, 0, none⟩)]) (by simp) (by simp [go_sem]) ?_
        refine (catch_idle ⟨w.heap.size, 0, none⟩ ⟨w.heap.size + 1, 0, none⟩ _).mono ?_
        rintro e u' w9 ⟨rfl, rfl, rfl⟩
        rw [HDEC.out]
        exact leave23 rfl rfl HL8.out HE8.out HW8.out HB8.out
      · have HDEC := Lib.hid (decM_form HD5.out heq)
        have hd : decide (encode out4 = bs) = false := decide_eq_false heq
        clear hr6 hby5 heq
        go_wp2_with ((with_reducible refine Stop.store 22 ?hst ?_); (case hst => rfl))
        refine Stop.go ?_
        refine step_store_one rfl 22 (.tmp 4) (.const (.slice none 0 0)) rfl rfl HL5.out (by simp) rfl (by kernel_rfl) rfl rfl ?_
        intro w7 hl7 hg7 hz7
        have he7 : w7.heap[w.heap.size + 1]? = some (.cells #[.int .i64 0] 29 (0, 0)) := (hg7.block _ (lt_of_heap HE5.out) (fun x => by have := Option.some.inj x; omega)).trans HE5.out
        have HB7 := Lib.hid (HB5.out.grown hg7 HB5.out.size (fun k hk => by cases hk; exact Nat.le_refl _))
        have hl7' : w7.heap[w.heap.size]? = some (.cells #[.slice none 0 0] 22 (0, 0)) := hl7
        clear hg7 hl7
        go_wp2_with ((with_reducible refine Stop.store 29 ?hst ?_); (case hst => rfl))
        refine Stop.go ?_
        refine step_store_one rfl 29 (.tmp 5) (.const (.int .i64 3)) rfl rfl he7 (by simp) rfl (by kernel_rfl) rfl rfl ?_
        intro w8 he8 hg8 hz8
        have hl8 : w8.heap[w.heap.size]? = some (.cells #[.slice none 0 0] 22 (0, 0)) := (hg8.block _ (lt_of_heap hl7') (fun x => by have := Option.some.inj x; omega)).trans hl7'
        have he8' : w8.heap[w.heap.size + 1]? = some (.cells #[.int .i64 ((3 : Nat) : Int)] 29 (0, 0)) := he8
        have HB8 := Lib.hid (HB7.out.grown hg8 HB7.out.size (fun k hk => by cases hk; exact Nat.le_succ _))
        have HL8 := Lib.hid hl8
        have HE8 := Lib.hid he8'
        clear hg8 he8 he8' hl8 hl7' he7
        go_wp2
        refine leaves_cons (f := 46) (args := #[.pointer (some ⟨w.heap.size, 0, none⟩), .pointer (some ⟨w.heap.size + 1, 0, none⟩)]) (by simp) (by simp [go_sem]) ?_
        refine (catch_idle ⟨w.heap.size, 0, none⟩ ⟨w.heap.size + 1, 0, none⟩ _).mono ?_
        rintro e u' w9 ⟨rfl, rfl, rfl⟩
        rw [HDEC.out]
        exact leave23 (out := []) rfl rfl HL8.out HE8.out (Own.nil _ _ _ _) HB8.out

set_option maxRecDepth 20000 in
set_option maxHeartbeats 3000000 in
theorem Decode_big (A : Option Addr) (c : Nat) (bs : List UInt8) (most : Int) (hbig : 4096 < most) (w : World) (h : Bytes w A c bs) (hlen : bs.length ≤ 1099511627776) :
    Calls Try.prog 23 #[.slice A bs.length c, .int .i64 most] w (Decoded w (decM 4096 bs)) := by
  have b1 : (0 : Int) ≤ most := by omega
  have hM : 4096 ≤ 4096 := by omega
  obtain ⟨w1, e1, hg1, hb1, hz1⟩ := alloc_facts w #[.slice none 0 0] 22
  obtain ⟨w2, e2, hg2, hb2, hz2⟩ := alloc_facts w1 #[.int .i64 0] 29
  obtain ⟨w3, e3, hg3, hb3, hz3⟩ := alloc_facts w2 #[.slice A bs.length c, .int .i64 4096, .slice none 0 0] 78
  have hmf : ∀ (fn : Fn) (first cap : Array Value) (w : World), (Instr.makeFunc fn first cap).run Try.prog w = .ok (.func fn first cap) w := fun _ _ _ _ => rfl
  have hz3' : w3.heap.size = w.heap.size + 3 := by omega
  have hb03 : Below w.heap.size w w3 := (hb1.trans (hb2.mono (by omega))).trans (hb3.mono (by omega))
  have hl3 : w3.heap[w.heap.size]? = some (.cells #[.slice none 0 0] 22 (0, 0)) := by rw [hb3.block _ (by omega), hb2.block _ (by omega)]; exact hg1
  have he3 : w3.heap[w.heap.size + 1]? = some (.cells #[.int .i64 0] 29 (0, 0)) := by rw [hb3.block _ (by omega), ← hz1]; exact hg2
  have hr3 : w3.heap[w.heap.size + 1 + 1]? = some (.cells #[.slice A bs.length c, .int .i64 4096, .slice none 0 0] 78 (0, 0)) := by rw [show w.heap.size + 1 + 1 = w2.heap.size by omega]; exact hg3
  have hby3 : Bytes w3 A c bs := h.below hb03
  have HRS := Lib.hid (show RS0 (w.heap.size + 1 + 1) w3 bs 4096 [] from ⟨A, c, none, 0, hr3, hby3, Own.nil _ _ _ _⟩)
  have HL3 := Lib.hid hl3
  have HE3 := Lib.hid he3
  have HB3 := Lib.hid hb03
  have HH := Lib.hid h
  clear hg1 hb1 hg2 hb2 hg3 hb3 hl3 he3 hr3 hb03 h hby3
  go_enter_defers Try.func23, Try.ntmps23
  go_wp2
  go_loopw [23] (fun i wr => ∃ (bs4 : List UInt8) (out4 : List Sec), bs4.length ≤ bs.length ∧ out4.length ≤ 4096 ∧ Hid (RS0 (w.heap.size + 1 + 1) wr bs4 4096 out4) ∧ Hid (decL 4096 bs4 out4 = decL 4096 bs []) ∧
      Hid (wr.heap[w.heap.size]? = some (.cells #[.slice none 0 0] 22 (0, 0))) ∧ Hid (wr.heap[w.heap.size + 1]? = some (.cells #[.int .i64 0] 29 (0, 0))) ∧ Hid (Below w.heap.size w wr)) (fun i wr => lenAt wr (w.heap.size + 1 + 1))
  case atStart => exact ⟨bs, [], Nat.le_refl _, Nat.zero_le _, HRS.out, rfl, HL3.out, HE3.out, HB3.out⟩
  case round =>
    obtain ⟨bs4, out4, hb4, ho4, HRS4, HD4, HL4, HE4, HB4⟩ := hrel
    obtain ⟨A4, c4, O4, oc4, hr4, hy4, hw4⟩ := HRS4.out
    have hc0 : wr.cell? ⟨w.heap.size + 1 + 1, 0, none⟩ = some (.slice A4 bs4.length c4) := by rw [cell_of_row _ _ 0 _ _ _ hr4]; rfl
    have HR4 := Lib.hid hr4
    have HLA := Lib.hid (lenAt_of hr4)
    clear hr4
    by_cases hne : 0 < bs4.length
    · have b9 : (0 : Int) < (bs4.length : Int) := by omega
      go_wp2_with fail
      refine (group_calls (w.heap.size + 1 + 1) bs4 4096 out4 wr HRS4.out (by omega) hM ho4).mono ?_
      rintro e w5 ⟨hbl, ⟨hne0, rfl⟩ | ⟨heq, rfl, hrs⟩⟩
      · have hdec : decM 4096 bs = ((stepG 4096 bs4 out4).1, []) := decM_err (HD4.out.symm.trans (decL_err (by omega) hne0)) hne0
        have HDEC := Lib.hid hdec
        have hl5 : w5.heap[w.heap.size]? = some (.cells #[.slice none 0 0] 22 (0, 0)) := (hbl.block _ (by omega)).trans HL4.out
        have he5 : w5.heap[w.heap.size + 1]? = some (.cells #[.int .i64 0] 29 (0, 0)) := (hbl.block _ (by omega)).trans HE4.out
        have HB5 := Lib.hid (HB4.out.trans (hbl.mono (by omega)))
        clear hdec hne0
        dsimp only [failure]
        generalize (stepG 4096 bs4 out4).1 = er at *
        go_wp2
        refine leaves_cons (f := 46) (args := #[.pointer (some ⟨w.heap.size, 0, none⟩), .pointer (some ⟨w.heap.size + 1, 0, none⟩)]) (by simp) (by simp [go_sem]) ?_
        refine (catch_failure w.heap.size w.heap.size (w.heap.size + 1) (Nat.le_refl _) (by omega) (by omega) er _ _ _ hl5 he5).mono ?_
        rintro e u' w6 ⟨rfl, rfl, hl6, he6, hb6⟩
        rw [HDEC.out]
        exact leave23 rfl rfl hl6 he6 (Own.nil _ _ _ _) (HB5.out.trans hb6)
      · have hdo := decL_ok (m := 4096) (bs := bs4) (out := out4) (by omega) heq
        have hso := step_out 4096 bs4 out4 ho4 heq
        have hsd := stepG_dec 4096 bs4 out4 heq
        have HD5 := Lib.hid (hdo.symm.trans HD4.out)
        obtain ⟨⟨er, bs5, out5⟩, hst⟩ : ∃ r, stepG 4096 bs4 out4 = r := ⟨_, rfl⟩
        rw [hst] at hrs hso hsd HD5
        simp only at hrs hso hsd HD5
        have HRS5 := Lib.hid hrs.zero
        have HL5 := Lib.hid ((hbl.block _ (by omega)).trans HL4.out)
        have HE5 := Lib.hid ((hbl.block _ (by omega)).trans HE4.out)
        have HB5 := Lib.hid (HB4.out.trans (hbl.mono (by omega)))
        have HLA5 := Lib.hid (show lenAt w5 (w.heap.size + 1 + 1) < lenAt wr (w.heap.size + 1 + 1) by obtain ⟨A', c', O', oc', hr', _⟩ := hrs; rw [HLA.out, lenAt_of hr']; exact hsd)
        clear hrs hbl heq hst hdo
        go_wp2
        exact ⟨⟨bs5, out5, by omega, hso, HRS5, HD5, HL5, HE5, HB5⟩, HLA5.out⟩
    · obtain rfl : bs4 = [] := List.eq_nil_of_length_eq_zero (by omega)
      have HD5 := Lib.hid (HD4.out.symm.trans (decL_nil 4096 out4))
      obtain ⟨A5, c5, e5, hrd5⟩ := hw4.rd
      cases e5
      have hcO : wr.cell? ⟨w.heap.size + 1 + 1, 2, none⟩ = some (.slice O4 out4.length oc4) := by rw [cell_of_row _ _ 2 _ _ _ HR4.out]; rfl
      go_wp2_with fail
      refine (Encode_calls O4 oc4 out4 wr hrd5 (by omega)).mono ?_
      rintro e w5 hf
      obtain ⟨A6, c6, rfl, ho6, hr6, hb6⟩ := hf.parts
      have hby5 : Bytes w5 A c bs := (HH.out.below HB4.out).below hb6
      have HL5 := Lib.hid ((hb6.block _ (lt_of_heap HL4.out)).trans HL4.out)
      have HE5 := Lib.hid ((hb6.block _ (lt_of_heap HE4.out)).trans HE4.out)
      have HR5 := Lib.hid ((hb6.block _ (lt_of_heap HR4.out)).trans HR4.out)
      have HW5 := Lib.hid (hw4.below hb6)
      have HB5 := Lib.hid (HB4.out.trans (hb6.mono HB4.out.size))
      clear hb6 ho6 hw4 hf
      go_wp2_with fail
      refine (equal_calls A6 A c6 c (encode out4) bs w5 hr6 hby5).mono ?_
      rintro e w6 ⟨rfl, rfl⟩
      by_cases heq : encode out4 = bs
      · have HDEC := Lib.hid (decM_ok HD5.out heq)
        have hd : decide (encode out4 = bs) = true := decide_eq_true heq
        have hcO6 : w6.cell? ⟨w.heap.size + 1 + 1, 2, none⟩ = some (.slice O4 out4.length oc4) := by rw [cell_of_row _ _ 2 _ _ _ HR5.out]; rfl
        clear hr6 hby5 heq
        go_wp2_with ((with_reducible refine Stop.store 22 ?hst ?_); (case hst => rfl))
        refine Stop.go ?_
        refine step_store_one rfl 22 (.tmp 4) (.tmp 35) rfl rfl HL5.out (by simp) rfl (by kernel_rfl) rfl rfl ?_
        intro w7 hl7 hg7 hz7
        have he7 : w7.heap[w.heap.size + 1]? = some (.cells #[.int .i64 0] 29 (0, 0)) := (hg7.block _ (lt_of_heap HE5.out) (fun x => by have := Option.some.inj x; omega)).trans HE5.out
        have HW7 := Lib.hid (HW5.out.kept hg7 (.inr (fun x => by have := (HW5.out.lt _ x).1; omega)))
        have HB7 := Lib.hid (HB5.out.grown hg7 HB5.out.size (fun k hk => by cases hk; exact Nat.le_refl _))
        have hl7' : w7.heap[w.heap.size]? = some (.cells #[.slice O4 out4.length oc4] 22 (0, 0)) := hl7
        clear hg7 hl7
        go_wp2_with ((with_reducible refine Stop.store 29 ?hst ?_); (case hst => rfl))
        refine Stop.go ?_
        refine step_store_one rfl 29 (.tmp 5) (.const (.int .i64 0)) rfl rfl he7 (by simp) rfl (by kernel_rfl) rfl rfl ?_
        intro w8 he8 hg8 hz8
        have hl8 : w8.heap[w.heap.size]? = some (.cells #[.slice O4 out4.length oc4] 22 (0, 0)) := (hg8.block _ (lt_of_heap hl7') (fun x => by have := Option.some.inj x; omega)).trans hl7'
        have he8' : w8.heap[w.heap.size + 1]? = some (.cells #[.int .i64 ((0 : Nat) : Int)] 29 (0, 0)) := he8
        have HW8 := Lib.hid ((HW7.out.kept hg8 (.inr (fun x => by have := (HW7.out.lt _ x).1; omega))).mono (base' := w.heap.size) (by omega))
        have HB8 := Lib.hid (HB7.out.grown hg8 HB7.out.size (fun k hk => by cases hk; exact Nat.le_succ _))
        have HL8 := Lib.hid hl8
        have HE8 := Lib.hid he8'
        clear hg8 he8 he8' hl8 hl7' he7
        go_wp2
        refine leaves_cons (f := 46) (args := #[.pointer (some ⟨w.heap.size, 0, none⟩), .pointer (some ⟨w.heap.size + 1, 0, none⟩)]) (by simp) (by simp [go_sem]) ?_
        refine (catch_idle ⟨w.heap.size, 0, none⟩ ⟨w.heap.size + 1, 0, none⟩ _).mono ?_
        rintro e u' w9 ⟨rfl, rfl, rfl⟩
        rw [HDEC.out]
        exact leave23 rfl rfl HL8.out HE8.out HW8.out HB8.out
      · have HDEC := Lib.hid (decM_form HD5.out heq)
        have hd : decide (encode out4 = bs) = false := decide_eq_false heq
        clear hr6 hby5 heq
        go_wp2_with ((with_reducible refine Stop.store 22 ?hst ?_); (case hst => rfl))
        refine Stop.go ?_
        refine step_store_one rfl 22 (.tmp 4) (.const (.slice none 0 0)) rfl rfl HL5.out (by simp) rfl (by kernel_rfl) rfl rfl ?_
        intro w7 hl7 hg7 hz7
        have he7 : w7.heap[w.heap.size + 1]? = some (.cells #[.int .i64 0] 29 (0, 0)) := (hg7.block _ (lt_of_heap HE5.out) (fun x => by have := Option.some.inj x; omega)).trans HE5.out
        have HB7 := Lib.hid (HB5.out.grown hg7 HB5.out.size (fun k hk => by cases hk; exact Nat.le_refl _))
        have hl7' : w7.heap[w.heap.size]? = some (.cells #[.slice none 0 0] 22 (0, 0)) := hl7
        clear hg7 hl7
        go_wp2_with ((with_reducible refine Stop.store 29 ?hst ?_); (case hst => rfl))
        refine Stop.go ?_
        refine step_store_one rfl 29 (.tmp 5) (.const (.int .i64 3)) rfl rfl he7 (by simp) rfl (by kernel_rfl) rfl rfl ?_
        intro w8 he8 hg8 hz8
        have hl8 : w8.heap[w.heap.size]? = some (.cells #[.slice none 0 0] 22 (0, 0)) := (hg8.block _ (lt_of_heap hl7') (fun x => by have := Option.some.inj x; omega)).trans hl7'
        have he8' : w8.heap[w.heap.size + 1]? = some (.cells #[.int .i64 ((3 : Nat) : Int)] 29 (0, 0)) := he8
        have HB8 := Lib.hid (HB7.out.grown hg8 HB7.out.size (fun k hk => by cases hk; exact Nat.le_succ _))
        have HL8 := Lib.hid hl8
        have HE8 := Lib.hid he8'
        clear hg8 he8 he8' hl8 hl7' he7
        go_wp2
        refine leaves_cons (f := 46) (args := #[.pointer (some ⟨w.heap.size, 0, none⟩), .pointer (some ⟨w.heap.size + 1, 0, none⟩)]) (by simp) (by simp [go_sem]) ?_
        refine (catch_idle ⟨w.heap.size, 0, none⟩ ⟨w.heap.size + 1, 0, none⟩ _).mono ?_
        rintro e u' w9 ⟨rfl, rfl, rfl⟩
        rw [HDEC.out]
        exact leave23 (out := []) rfl rfl HL8.out HE8.out (Own.nil _ _ _ _) HB8.out

theorem Decode_calls (A : Option Addr) (c : Nat) (bs : List UInt8) (most : Int) (w : World) (h : Bytes w A c bs) (hlen : bs.length ≤ 1099511627776) :
    Calls Try.prog 23 #[.slice A bs.length c, .int .i64 most] w (Decoded w (decode bs most)) := by
  show Calls Try.prog 23 _ w (Decoded w (decM (mostN most) bs))
  by_cases h0 : most < 0
  · rw [show mostN most = 0 by unfold mostN; omega]
    exact Decode_neg A c bs most h0 w h hlen
  · by_cases h1 : 4096 < most
    · rw [show mostN most = 4096 by unfold mostN; omega]
      exact Decode_big A c bs most h1 w h hlen
    · obtain ⟨m, rfl⟩ : ∃ m : Nat, most = (m : Int) := ⟨most.toNat, by omega⟩
      rw [show mostN (m : Int) = m by unfold mostN; omega]
      exact Decode_mid A c bs m (by omega) w h hlen
end Go.Proofs.Ytfdkhopionknaaa
