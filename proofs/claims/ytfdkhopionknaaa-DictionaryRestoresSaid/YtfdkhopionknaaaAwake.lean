/- The laws' own check of this package: awake. -/
import Derived.Test.YtfdkhopionknaaaEval
import Derived.Test.YtfdkhopionknaaaSame
import Derived.Test.YtfdkhopionknaaaDecP
namespace Go.Proofs.Ytfdkhopionknaaa
open Go.RowKit
set_option linter.unusedVariables false
set_option linter.unusedSimpArgs false

theorem below_then {a b c : World} (h : Below a.heap.size a b) (k : Below b.heap.size b c) : Below a.heap.size a c := h.trans (k.mono h.size)
theorem bytes_new (w : World) (bs : List UInt8) (hl : bs.length ≤ 65536) : Bytes (w.alloc (.cells (bs.map B).toArray 5)) (some ⟨w.heap.size, 0, none⟩) bs.length bs := by
  have := Rd.new w 5 (bs.map B).toArray bs.length (by unfold maxLen; omega)
  simpa [Bytes] using this
theorem ints_new (w : World) (ns : List Int) (hl : ns.length ≤ 65536) : Rd (w.alloc (.cells (ns.map intV).toArray 3)) (some ⟨w.heap.size, 0, none⟩) ns.length ns.length (ns.map intV) := by
  have := Rd.new w 3 (ns.map intV).toArray ns.length (by unfold maxLen; omega)
  simpa using this
/-- sectors(bs), the bytes laid just ahead. -/
theorem secs_lit (bs : List UInt8) (w : World) (hl : bs.length ≤ 65536) :
    Calls Try.prog 40 #[.slice (some ⟨w.heap.size, 0, none⟩) bs.length bs.length] (w.alloc (.cells (bs.map B).toArray 5)) fun e w' => ∃ A c, e = .returned (.slice A (secsB bs).length c) ∧ Hid (Secs w' A c (secsB bs)) ∧ Hid (Below w.heap.size w w') := by
  refine (sectors_calls _ _ bs _ (bytes_new w bs hl) hl).mono ?_
  rintro e w' ⟨v, rfl, ho, hb⟩
  obtain ⟨A, c, rfl, hr⟩ := ho.rd
  have hs : (secsB bs).length = bs.length := by simp [secsB]
  refine ⟨A, c, by rw [hs], ?_, ?_⟩
  · show Secs _ _ _ _
    unfold Secs; rw [hs]; exact hr
  · exact ((Below.refl _ _).alloc (Nat.le_refl _) _).trans (hb.mono (by simp))
/-- encoded(ns), the numbers laid just ahead. -/
theorem enc_lit (ns : List Int) (w : World) (hl : ns.length ≤ 65536) (hr : ∀ n ∈ ns, -255 ≤ n ∧ n ≤ 255) :
    Calls Try.prog 41 #[.slice (some ⟨w.heap.size, 0, none⟩) ns.length ns.length] (w.alloc (.cells (ns.map intV).toArray 3)) fun e w' => ∃ A c, e = .returned (.slice A (itemsB ns).length c) ∧ Hid (Bytes w' A c (itemsB ns)) ∧ Hid (Below w.heap.size w w') := by
  refine (encoded_calls _ _ ns _ (ints_new w ns hl) hl hr).mono ?_
  rintro e w' hf
  obtain ⟨A, c, rfl, _, hby, hb⟩ := hf.parts
  exact ⟨A, c, rfl, hby, ((Below.refl _ _).alloc (Nat.le_refl _) _).trans (hb.mono (by simp))⟩
theorem decode_lit (A : Option Addr) (c : Nat) (bs : List UInt8) (most : Int) (w : World) (r : Nat × List Sec) (hr : decode bs most = r) (h : Bytes w A c bs) (hlen : bs.length ≤ 1099511627776) :
    Calls Try.prog 23 #[.slice A bs.length c, .int .i64 most] w fun e w' => ∃ A' c', e = .returned (.tuple #[.slice A' r.2.length c', .int .i64 r.1]) ∧ Hid (Secs w' A' c' r.2) ∧ Hid (Below w.heap.size w w') := by
  refine (Decode_calls A c bs most w h hlen).mono ?_
  rintro e w' ⟨v, rfl, ho, hb⟩
  rw [hr] at ho ⊢
  obtain ⟨A', c', rfl, hrd⟩ := ho.rd
  exact ⟨A', c', rfl, hrd, hb⟩
theorem encode_lit (A : Option Addr) (c : Nat) (xs : List Sec) (bs : List UInt8) (w : World) (he : encode xs = bs) (h : Secs w A c xs) (hlen : xs.length ≤ 65536) :
    Calls Try.prog 19 #[.slice A xs.length c] w fun e w' => ∃ A' c', e = .returned (.slice A' bs.length c') ∧ Hid (Bytes w' A' c' bs) ∧ Hid (Below w.heap.size w w') := by
  refine (Encode_calls A c xs w h hlen).mono ?_
  rintro e w' hf
  rw [he] at hf
  obtain ⟨A', c', rfl, _, hby, hb⟩ := hf.parts
  exact ⟨A', c', rfl, hby, hb⟩

set_option maxRecDepth 20000 in
set_option maxHeartbeats 4000000 in
theorem awake_calls (w : World) : Calls Try.prog 18 #[] w fun e w' => e = .returned (.bool true) ∧ Below w.heap.size w w' := by
  go_enter Try.func18, Try.ntmps18
  go_wp2_with fail
  refine (secs_lit bsA w (by decide)).mono ?_
  rintro e w1 ⟨A1, c1, rfl, hs1, hb1⟩
  go_wp2_with fail
  refine (encode_lit A1 c1 (secsB bsA) encA w1 enc_a hs1.out (by decide)).mono ?_
  rintro e w2 ⟨Aa, ca, rfl, hA2, hb2⟩
  go_wp2_with fail
  refine (secs_lit bsB w2 (by decide)).mono ?_
  rintro e w3 ⟨A3, c3, rfl, hs3, hb3⟩
  go_wp2_with fail
  refine (encode_lit A3 c3 (secsB bsB) encB w3 enc_b hs3.out (by decide)).mono ?_
  rintro e w4 ⟨Ab, cb, rfl, hB4, hb4⟩
  go_wp2_with fail
  refine (enc_lit nsX w4 (by decide) (by decide)).mono ?_
  rintro e w5 ⟨A5, c5, rfl, hX5, hb5⟩
  go_wp2_with fail
  refine (decode_lit A5 c5 encX 9 w5 _ dec_x hX5.out (by decide)).mono ?_
  rintro e w6 ⟨A6, c6, rfl, hs6, hb6⟩
  go_wp2_with fail
  refine (enc_lit nsY w6 (by decide) (by decide)).mono ?_
  rintro e w7 ⟨A7, c7, rfl, hX7, hb7⟩
  go_wp2_with fail
  refine (decode_lit A7 c7 encY 9 w7 _ dec_y hX7.out (by decide)).mono ?_
  rintro e w8 ⟨A8, c8, rfl, hs8, hb8⟩
  go_wp2_with fail
  refine (enc_lit nsZ w8 (by decide) (by decide)).mono ?_
  rintro e w9 ⟨A9, c9, rfl, hX9, hb9⟩
  go_wp2_with fail
  refine (decode_lit A9 c9 encZ 1 w9 _ dec_z hX9.out (by decide)).mono ?_
  rintro e w10 ⟨A10, c10, rfl, hs10, hb10⟩
  go_wp2_with fail
  refine (enc_lit nsU w10 (by decide) (by decide)).mono ?_
  rintro e w11 ⟨A11, c11, rfl, hX11, hb11⟩
  go_wp2_with fail
  refine (decode_lit A11 c11 encU 9 w11 _ dec_u hX11.out (by decide)).mono ?_
  rintro e w12 ⟨A12, c12, rfl, hs12, hb12⟩
  have hA12 := Lib.hid ((((((((((hA2.out.below hb3.out).below hb4.out).below hb5.out).below hb6.out).below hb7.out).below hb8.out).below hb9.out).below hb10.out).below hb11.out).below hb12.out)
  have hB12 := Lib.hid ((((((((hB4.out.below hb5.out).below hb6.out).below hb7.out).below hb8.out).below hb9.out).below hb10.out).below hb11.out).below hb12.out)
  have hall12 := Lib.hid ((hb1.out.trans (hb2.out.mono hb1.out.size)).trans (((hb3.out.trans (hb4.out.mono hb3.out.size)).trans (((hb5.out.trans (hb6.out.mono hb5.out.size)).trans (((hb7.out.trans (hb8.out.mono hb7.out.size)).trans (((hb9.out.trans (hb10.out.mono hb9.out.size)).trans ((hb11.out.trans (hb12.out.mono hb11.out.size)).mono (Nat.le_trans hb9.out.size hb10.out.size))).mono (Nat.le_trans hb7.out.size hb8.out.size))).mono (Nat.le_trans hb5.out.size hb6.out.size))).mono (Nat.le_trans hb3.out.size hb4.out.size))).mono (Nat.le_trans hb1.out.size hb2.out.size)))
  clear hA2 hB4 hb1 hb2 hb3 hb4 hb5 hb6 hb7 hb8 hb9 hb10 hb11
  go_wp2_with fail
  refine (decode_lit Aa ca encA 7 w12 _ dec_a hA12.out (by decide)).mono ?_
  rintro e w13 ⟨A13, c13, rfl, hs13, hb13⟩
  have hA13 := Lib.hid (hA12.out.below hb13.out)
  have hB13 := Lib.hid (hB12.out.below hb13.out)
  go_wp2_with fail
  refine (enc_lit nsA w13 (by decide) (by decide)).mono ?_
  rintro e w14 ⟨A14, c14, rfl, hX14, hb14⟩
  have hA14 := Lib.hid (hA13.out.below hb14.out)
  have hB14 := Lib.hid (hB13.out.below hb14.out)
  go_wp2_with fail
  refine (equal_calls Aa A14 ca c14 encA encA w14 hA14.out hX14.out).mono ?_
  rintro e w15 ⟨rfl, rfl⟩
  rw [decide_eq_true rfl]
  go_wp2_with fail
  refine (enc_lit nsB w15 (by decide) (by decide)).mono ?_
  rintro e w16 ⟨A16, c16, rfl, hX16, hb16⟩
  have hB16 := Lib.hid (hB14.out.below hb16.out)
  go_wp2_with fail
  refine (equal_calls Ab A16 cb c16 encB encB w16 hB16.out hX16.out).mono ?_
  rintro e w17 ⟨rfl, rfl⟩
  rw [decide_eq_true rfl]
  go_wp2_with fail
  refine (secs_lit bsO w17 (by decide)).mono ?_
  rintro e w18 ⟨A18, c18, rfl, hs18, hb18⟩
  go_wp2_with fail
  refine (Size_calls A18 c18 (secsB bsO) w18 hs18.out (by decide)).mono ?_
  rintro e w19 ⟨rfl, hb19⟩
  rw [enc_o]
  have hs19 := Lib.hid ((((hs13.out.below hb14.out).below hb16.out).below hb18.out).below hb19)
  have HB19 := Lib.hid hb19
  clear hb19
  go_wp2_with fail
  refine (secs_lit bsA w19 (by decide)).mono ?_
  rintro e w20 ⟨A20, c20, rfl, hs20, hb20⟩
  go_wp2_with fail
  refine (sameSecs_calls A13 A20 c13 c20 (secsB bsA) (secsB bsA) w20 (hs19.out.below hb20.out) hs20.out (by decide) (by decide)).mono ?_
  rintro e w21 ⟨rfl, q, rfl⟩
  rw [decide_eq_true rfl]
  have HALL := Lib.hid (below_drews (below_then (below_then (below_then (below_then (below_then (below_then hall12.out hb13.out) hb14.out) hb16.out) hb18.out) HB19.out) hb20.out) q)
  go_wp2
  go_ret
  exact ⟨rfl, HALL.out⟩
end Go.Proofs.Ytfdkhopionknaaa
