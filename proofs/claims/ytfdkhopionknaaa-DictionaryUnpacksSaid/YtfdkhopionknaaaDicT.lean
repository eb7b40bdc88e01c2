/- Layer 6, the reference: Encode (32). -/
import Derived.Test.YtfdkhopionknaaaDicR
import Derived.Test.YtfdkhopionknaaaDicS
import Derived.Test.YtfdkhopionknaaaDicE
namespace Go.Proofs.Ytfdkhopionknaaa
open Go.RowKit
set_option linter.unusedVariables false
set_option linter.unusedSimpArgs false

theorem apart_own2 {w : World} {base : Nat} {A : Option Addr} {c : Nat} {bs : List UInt8} {v : Value} (h : Own w base 5 1 (.slice A bs.length c) bs.length (bs.map B)) (hne : (Value.slice A bs.length c).ownBlock = none ∨ (Value.slice A bs.length c).ownBlock ≠ v.ownBlock) : Apart w A c bs v := by
  refine ⟨own_bytes h, fun a ha _ => ?_⟩
  have e : (Value.slice A bs.length c).ownBlock = some a.block := by rw [ha]; rfl
  refine ⟨(h.lt _ e).2, ?_⟩
  rcases hne with h' | h'
  · rw [e] at h'; cases h'
  · rwa [e] at h'

set_option maxRecDepth 20000 in
set_option maxHeartbeats 8000000 in
theorem refdEncode_calls (A1 A2 : Option Addr) (c1 c2 : Nat) (dict b : List UInt8) (w : World) (h1 : Bytes w A1 c1 dict) (h2 : Bytes w A2 c2 b) (hlen : dict.length + b.length ≤ 100000) :
    Calls Try.prog 32 #[.slice A1 dict.length c1, .slice A2 b.length c2] w (Fresh w (encodeD dict b)) := by
  have H1 := Lib.hid h1
  have H2 := Lib.hid h2
  clear h1 h2
  go_enter Try.func32, Try.ntmps32
  go_wp2_with (at_builtin; refine Stop.at ?_)
  refine Stop.go ?_
  have hba : Below w.heap.size w (w.alloc (.cells #[] 5)) := (Below.refl _ _).alloc (Nat.le_refl _) _
  refine step_append E24 rfl (.tmp 11) (.tmp 12) rfl w.heap.size (n := 0) (xs := []) rfl (Own.empty w (Nat.le_refl _)) rfl (H1.out.below hba) (by simp) (oneCell_B _) (by omega) (by decide) (by simp) ?_
  intro v1 w1 ho1 hg1
  obtain ⟨T1, tc1, rfl⟩ := own_slice ho1
  have hb1 : Below w.heap.size w w1 := hba.trans (hg1.below (Own.empty w (Nat.le_refl _)) (by simp))
  rw [Nat.zero_add, List.nil_append] at ho1
  rw [Nat.zero_add]
  have HO1 := Lib.hid ho1
  have HB1 := Lib.hid hb1
  have hzb : (dict.length + b.length) * 1 ≤ 140737488355328 := by omega
  clear hba ho1 hg1 hb1
  go_wp2_with (at_builtin; refine Stop.at ?_)
  refine Stop.go ?_
  refine step_append E24 rfl (.tmp 13) (.tmp 14) rfl w.heap.size rfl HO1.out rfl (H2.out.below HB1.out) (by simp) (oneCell_B _) hzb (by decide) HB1.out.size ?_
  intro v2 W0 ho2 hg2
  obtain ⟨all, hall⟩ : ∃ x, x = dict ++ b := ⟨_, rfl⟩
  have hla : all.length = dict.length + b.length := by rw [hall, List.length_append]
  obtain ⟨A, ac, rfl⟩ := own_slice ho2
  rw [← List.map_append, ← hall, ← hla] at ho2
  rw [← hla] at hg2 ⊢
  have hb2 : Below w.heap.size w W0 := HB1.out.trans (hg2.below HO1.out HB1.out.size)
  have HA0 := Lib.hid (own_bytes ho2)
  have hl : all.length ≤ 100000 := by omega
  have hdl : dict.length ≤ all.length := by omega
  have HALL := Lib.hid hall
  have HB2 := Lib.hid hb2
  have HT0 := Lib.hid (encD_len all dict.length [] hdl)
  obtain ⟨total, htot⟩ : ∃ x, x = encD all dict.length [] := ⟨_, rfl⟩
  have htl : total.length ≤ 200000 := by
    have := HT0.out
    rw [← htot] at this
    simp only [List.length_nil] at this
    omega
  have HTOT := Lib.hid htot
  have HRES := Lib.hid (show encodeD dict b = total by rw [htot, HALL.out]; rfl)
  clear htot HT0 hall hla ho2 hg2 hb2
  go_wp2
  go_loopw [6, 7, 8] (fun ov rv iv w' => ∃ (ts ws : List UInt8) (at_ : Nat) (T W : Option Addr) (tc wc : Nat), ov = .slice T ts.length tc ∧ rv = .slice W ws.length wc ∧ iv = .int .i64 at_ ∧ Hid (ts ++ encD all at_ ws = total) ∧ at_ ≤ all.length ∧ ts.length ≤ 200000 ∧ ws.length ≤ at_ ∧
    Hid (Own w' W0.heap.size 5 1 (.slice T ts.length tc) ts.length (ts.map B)) ∧ Hid (Own w' W0.heap.size 5 1 (.slice W ws.length wc) ws.length (ws.map B)) ∧ Hid ((Value.slice W ws.length wc).ownBlock = none ∨ (Value.slice W ws.length wc).ownBlock ≠ (Value.slice T ts.length tc).ownBlock) ∧ Hid (Below W0.heap.size W0 w')) (fun ov rv iv w' => all.length - (intOf iv).toNat)
  case atStart => exact ⟨[], [], dict.length, none, none, 0, 0, rfl, rfl, rfl, by show [] ++ _ = _; rw [List.nil_append, HTOT.out], hdl, by simp, by simp, Own.nil _ _ _ _, Own.nil _ _ _ _, .inl rfl, Below.refl _ _⟩
  case round =>
    obtain ⟨ts, ws, at_, T, W, tc, wc, rfl, rfl, rfl, heq, hat, htl2, hwl2, hT, hW, hne, hb⟩ := hrel
    by_cases hlt : at_ < all.length
    · have d1 : (at_ : Int) < (all.length : Int) := by omega
      obtain ⟨⟨D, N⟩, hDN⟩ : ∃ r, best all at_ = r := ⟨_, rfl⟩
      have hbl := best_le all at_ hat
      have hbf := best_found all at_
      rw [hDN] at hbl hbf
      have HDN := Lib.hid hDN
      obtain ⟨hN1, hN2, hD1, hD2⟩ := hbl
      have h04 : N = 0 ∨ 4 ≤ N := by
        rcases hbf with e | ⟨_, _, _, _, h⟩
        · cases e; exact .inl rfl
        · exact .inr h
      have HBA := Lib.hid (HA0.out.below hb.out)
      clear hDN hbf
      go_wp2_with fail
      refine (refbest_calls at_ all A ac wr HBA.out hat (by omega) D N HDN.out).mono ?_
      rintro e w3 ⟨rfl, q3, rfl⟩
      rcases h04 with h0 | h4
      · subst h0
        obtain ⟨a, rfl⟩ := HBA.out.some_of hlt
        obtain ⟨x, hx, hcx, hx256, hdr⟩ := byte_at HBA.out hlt
        obtain ⟨ws2, hws2⟩ : ∃ y, y = ws ++ [x] := ⟨_, rfl⟩
        have HEQ2 := Lib.hid (show ts ++ encD all (at_ + 1) ws2 = total by
          rw [← heq.out, encD_lit hlt (by rw [HDN.out]), hws2, hdr]; rfl)
        have hl2 : ws2.length = ws.length + 1 := by rw [hws2, List.length_append]; rfl
        have HWS2 := Lib.hid hws2
        have vp : IntKind.i64.wrap ((at_ : Int) + 1) = ((at_ + 1 : Nat) : Int) := by rw [IntKind.wrap_i64]; omega
        have hba : Below (wr.drewN q3).heap.size (wr.drewN q3) ((wr.drewN q3).alloc (.cells #[B x] 5)) := (Below.refl _ _).alloc (Nat.le_refl _) _
        have HTD := Lib.hid ((show Own (wr.drewN q3) W0.heap.size 5 1 (.slice T ts.length tc) ts.length (ts.map B) from hT.out).alloc (.cells #[B x] 5))
        have HWD := Lib.hid ((show Own (wr.drewN q3) W0.heap.size 5 1 (.slice W ws.length wc) ws.length (ws.map B) from hW.out).alloc (.cells #[B x] 5))
        have hsz : W0.heap.size ≤ wr.heap.size := hb.out.size
        have HL2 := Lib.hid hl2
        clear hx hdr hws2 hl2
        go_wp2_with (at_builtin; refine Stop.at ?_)
        refine Stop.go ?_
        refine step_append E24 rfl (.tmp 30) (.tmp 35) rfl W0.heap.size rfl HWD.out rfl (Rd.new _ 5 #[B x] 1 (by decide)) rfl (by simp [Value.oneCell', B]) (by omega) (by decide) (by simp; omega) ?_
        intro v6 w6 ho6 hg6
        obtain ⟨W6, wc6, rfl⟩ := own_slice ho6
        obtain ⟨hT6, hne6⟩ := own_beside HTD.out HWD.out hg6 (ne_symm' hne.out)
        have HT6 := Lib.hid hT6
        have HW6 := Lib.hid (show Own w6 W0.heap.size 5 1 (.slice W6 ws2.length wc6) ws2.length (ws2.map B) by rw [HL2.out, HWS2.out, List.map_append]; exact ho6)
        have HNE6 := Lib.hid (show (Value.slice W6 ws2.length wc6).ownBlock = none ∨ (Value.slice W6 ws2.length wc6).ownBlock ≠ (Value.slice T ts.length tc).ownBlock by rw [HL2.out]; exact ne_symm' hne6)
        have HB6 := Lib.hid ((below_drews hb.out q3).trans ((hba.mono hsz).trans (hg6.below HWD.out (by simp; omega))))
        have hw2 : ws2.length ≤ at_ + 1 := by have := HL2.out; omega
        rw [show ws.length + 1 = ws2.length from HL2.out.symm]
        clear ho6 hg6 hT6 hne6 hba
        go_wp2
        exact ⟨⟨ts, ws2, at_ + 1, T, W6, tc, wc6, rfl, rfl, rfl, HEQ2, by omega, htl2, hw2, HT6, HW6, HNE6, HB6⟩, by simp [intOf]; omega⟩
      · have b1 : ((N : Int) == 0) = false := by rw [beq_eq_false_iff_ne]; omega
        obtain ⟨t1, ht1⟩ : ∃ x, x = ts ++ lits ws := ⟨_, rfl⟩
        have hlw := lits_len ws
        have hl1 : t1.length ≤ 400000 := by rw [ht1, List.length_append]; omega
        have HT1 := Lib.hid ht1
        obtain ⟨K, hK⟩ : ∃ K, 124 + N = K := ⟨_, rfl⟩
        have v1 : IntKind.i64.wrap (128 + (N : Int)) = 128 + (N : Int) := by rw [IntKind.wrap_i64]; omega
        have v2 : IntKind.i64.wrap (128 + (N : Int) - 4) = (K : Int) := by rw [IntKind.wrap_i64]; omega
        have v3 : IntKind.u8.wrap (K : Int) = (K : Int) := by rw [IntKind.wrap_u8]; omega
        have v4 : IntKind.i64.wrap ((at_ : Int) + (N : Int)) = ((at_ + N : Nat) : Int) := by rw [IntKind.wrap_i64]; omega
        have hput : Hid (putI (D : Int) = putN D) := by
          show putI (D : Int) = putN D
          unfold putI
          rw [if_neg (by omega)]
          simp
        have HKK := Lib.hid hK
        have hK255 : K < 256 := by omega
        have HAP := Lib.hid (show Apart (wr.drewN q3) W wc ws (.slice T ts.length tc) from apart_own2 hW.out hne.out)
        have HTQ := Lib.hid (show Own (wr.drewN q3) W0.heap.size 5 1 (.slice T ts.length tc) ts.length (ts.map B) from hT.out)
        have hsz : W0.heap.size ≤ wr.heap.size := hb.out.size
        clear ht1 hK
        go_wp2_with fail
        refine (literals_calls W0.heap.size T W tc wc ts ws (wr.drewN q3) HTQ.out HAP.out hsz (by omega)).mono ?_
        rw [← HT1.out]
        rintro e w4 ⟨T4, tc4, rfl, ho4, hg4⟩
        have HO4 := Lib.hid ho4
        have HB4 := Lib.hid ((below_drews hb.out q3).trans (hg4.below HTQ.out hsz))
        clear ho4 hg4
        have HBN : Hid (B (UInt8.ofNat K) = .int .u8 K) := B_of K hK255
        have hzb : (t1.length + 1) * 1 ≤ 140737488355328 := by omega
        go_wp2_with (at_builtin; refine Stop.at ?_)
        refine Stop.go ?_
        have hba : Below w4.heap.size w4 (w4.alloc (.cells #[.int .u8 K] 5)) := (Below.refl _ _).alloc (Nat.le_refl _) _
        refine step_append E24 rfl (.tmp 42) (.tmp 47) rfl W0.heap.size rfl (HO4.out.alloc (.cells #[.int .u8 K] 5)) rfl (cell_new_B w4 K (UInt8.ofNat K) HBN.out) (by rfl) (oneCell_B _) hzb (by decide) (Nat.le_trans HB4.out.size hba.size) ?_
        intro v5 w5 ho5 hg5
        obtain ⟨T5, tc5, rfl⟩ := own_slice ho5
        obtain ⟨t2, ht2⟩ : ∃ x, x = t1 ++ [UInt8.ofNat K] := ⟨_, rfl⟩
        have hl2 : t2.length = t1.length + 1 := by rw [ht2]; simp
        have HO5 := Lib.hid (show Own w5 W0.heap.size 5 1 (.slice T5 t2.length tc5) t2.length (t2.map B) by rw [hl2, ht2, List.map_append]; exact ho5)
        have HB5 := Lib.hid (HB4.out.trans ((hba.mono HB4.out.size).trans (hg5.below (HO4.out.alloc (.cells #[.int .u8 K] 5)) (Nat.le_trans HB4.out.size hba.size))))
        have HT2 := Lib.hid ht2
        have hl2' : t2.length ≤ 400001 := by omega
        rw [← hl2]
        clear ho5 hg5 hba ht2 hl2
        go_wp2_with fail
        refine (refPutInt_calls T5 tc5 t2 D w5 (own_bytes HO5.out) (by omega)).mono ?_
        intro e w6 hfr
        obtain ⟨T6, tc6, rfl, ho6, hb6⟩ := Fresh_own hfr
        obtain ⟨t3, ht3⟩ : ∃ x, x = t2 ++ putI (D : Int) := ⟨_, rfl⟩
        rw [← ht3] at ho6 ⊢
        have HO6 := Lib.hid (ho6.mono HB5.out.size)
        have HB6 := Lib.hid (HB5.out.trans (hb6.mono HB5.out.size))
        have HEQ2 := Lib.hid (show t3 ++ encD all (at_ + N) [] = total by
          rw [← heq.out, encD_match hlt HDN.out (by omega), ht3, HT2.out, HT1.out, hput.out, HKK.out]; simp)
        have hl3 : t3.length ≤ 200000 := by
          have := congrArg List.length HEQ2.out
          rw [List.length_append] at this
          omega
        clear hfr ho6 hb6 ht3
        go_wp2
        exact ⟨⟨t3, [], at_ + N, T6, none, tc6, 0, rfl, rfl, rfl, HEQ2, hN2, hl3, by simp, HO6, Own.nil _ _ _ _, .inl rfl, HB6⟩, by simp [intOf]; omega⟩
    · have d1 : ¬ (at_ : Int) < (all.length : Int) := by omega
      have HFIN := Lib.hid (show ts ++ lits ws = total by rw [← heq.out, encD_end hlt])
      have HAP := Lib.hid (show Apart wr W wc ws (.slice T ts.length tc) from apart_own2 hW.out hne.out)
      go_wp2_with fail
      refine (literals_calls W0.heap.size T W tc wc ts ws wr hT.out HAP.out hb.out.size (by omega)).mono ?_
      rw [HFIN.out]
      rintro e w4 ⟨T4, tc4, rfl, ho4, hg4⟩
      have HO4 := Lib.hid (ho4.mono HB2.out.size)
      have HB4 := Lib.hid (HB2.out.trans ((hb.out.mono HB2.out.size).trans ((hg4.below hT.out hb.out.size).mono HB2.out.size)))
      clear ho4 hg4
      go_wp2
      go_ret
      refine ⟨_, rfl, ?_, HB4.out⟩
      rw [HRES.out]
      exact HO4.out
end Go.Proofs.Ytfdkhopionknaaa
