/- Layer 6, the reference: literals (59). -/
import Derived.Test.YtfdkhopionknaaaDicD
import Derived.Test.YtfdkhopionknaaaDicM
namespace Go.Proofs.Ytfdkhopionknaaa
open Go.RowKit
set_option linter.unusedVariables false
set_option linter.unusedSimpArgs false

/-- x[:k], read in whatever world x reads. -/
theorem bytes_hi {w : World} {A : Option Addr} {c : Nat} {l : List UInt8} (h : Bytes w A c l) (k : Nat) (hk : k ≤ l.length) :
    ∃ A' c', (∀ w', (Instr.sliceAt 24 (.slice A l.length c) none (some (.int .i64 k)) none).run Try.prog w' = .ok (.slice A' k c') w') ∧ ∀ w2 : World, Bytes w2 A c l → Rd w2 A' k c' ((l.take k).map B) := by
  obtain ⟨A', c', h1, h2⟩ := slice_hi E24 h (by simp) k hk
  refine ⟨A', c', h1, fun w2 h' => ?_⟩
  obtain ⟨A2, c2, h3, h4⟩ := slice_hi E24 h' (by simp) k hk
  have e := (h1 w).symm.trans (h3 w)
  cases e
  simpa using h4

def slLen : Value → Nat
  | .slice _ n _ => n
  | _ => 0
set_option maxRecDepth 20000 in
set_option maxHeartbeats 4000000 in
theorem literals_calls (base : Nat) (T A : Option Addr) (tc c : Nat) (bs l : List UInt8) (w : World) (ho : Own w base 5 1 (.slice T bs.length tc) bs.length (bs.map B)) (hp : Apart w A c l (.slice T bs.length tc)) (hbase : base ≤ w.heap.size) (hl : bs.length + 2 * l.length ≤ 1000000) :
    Calls Try.prog 59 #[.slice T bs.length tc, .slice A l.length c] w fun e w' => ∃ T' tc', e = .returned (.slice T' (bs ++ lits l).length tc') ∧ Own w' base 5 1 (.slice T' (bs ++ lits l).length tc') (bs ++ lits l).length ((bs ++ lits l).map B) ∧ Grew w w' (.slice T bs.length tc) (.slice T' (bs ++ lits l).length tc') := by
  have HO := Lib.hid ho
  have HP := Lib.hid hp
  obtain ⟨R, hR⟩ : ∃ R, bs ++ lits l = R := ⟨_, rfl⟩
  have HR := Lib.hid hR
  rw [hR]
  clear ho hp hR
  go_enter Try.func59, Try.ntmps59
  go_wp2
  go_loopw [0, 1] (fun ov lv w' => ∃ (b l2 : List UInt8) (T2 A2 : Option Addr) (tc2 c2 : Nat), ov = .slice T2 b.length tc2 ∧ lv = .slice A2 l2.length c2 ∧ Hid (b ++ lits l2 = R) ∧ b.length + 2 * l2.length ≤ bs.length + 2 * l.length ∧ Hid (Own w' base 5 1 (.slice T2 b.length tc2) b.length (b.map B)) ∧ Hid (Apart w' A2 c2 l2 (.slice T2 b.length tc2)) ∧
    Hid (Grew w w' (.slice T bs.length tc) (.slice T2 b.length tc2))) (fun ov lv w' => slLen lv)
  case atStart => exact ⟨bs, l, T, A, tc, c, rfl, rfl, HR, Nat.le_refl _, HO, HP, Grew.refl _ _⟩
  case round =>
    obtain ⟨b, l2, T2, A2, tc2, c2, rfl, rfl, heq, hln, ho2, hp2, hg2⟩ := hrel
    by_cases h0 : 0 < l2.length
    · have b0 : (0 : Int) < (l2.length : Int) := by omega
      obtain ⟨N, hN⟩ : ∃ N, min l2.length 127 = N := ⟨_, rfl⟩
      have hmin : min (l2.length : Int) 127 = (N : Int) := by omega
      have hN1 : 1 ≤ N := by omega
      have hN2 : N ≤ 127 := by omega
      have hN3 : N ≤ l2.length := by omega
      have HLC := Lib.hid (lits_cons (l := l2) (by omega) hN)
      have hw8 : IntKind.u8.wrap (N : Int) = (N : Int) := by rw [IntKind.wrap_u8]; omega
      obtain ⟨S, sc, hsh, hS⟩ := bytes_hi hp2.out.1 N hN3
      obtain ⟨A5, c5, l5, hl5, hsl5, hby5⟩ := bslice_lo hp2.out.1 N hN3
      have HS := Lib.hid hS
      have HP5 := Lib.hid (hp2.out.slice (l := N) hN3 hby5 (by rw [hl5.out, List.length_drop]; omega) (hsl5 wr))
      have hz5 : l5.length = l2.length - N := by rw [hl5.out, List.length_drop]
      have hlt5 : l5.length < l2.length := by omega
      have hle5 : l5.length + N ≤ l2.length := by omega
      have HZ5 := Lib.hid hz5
      have HBN : Hid (B (UInt8.ofNat N) = .int .u8 N) := B_of N (by omega)
      have hsz : base ≤ wr.heap.size := Nat.le_trans hbase hg2.out.size
      clear hN hS hby5 hz5
      go_wp2_with (at_builtin; refine Stop.at ?_)
      refine Stop.go ?_
      have hba : Below wr.heap.size wr (wr.alloc (.cells #[.int .u8 N] 5)) := (Below.refl _ _).alloc (Nat.le_refl _) _
      refine step_append E24 rfl (.tmp 12) (.tmp 15) rfl base rfl (ho2.out.alloc (.cells #[.int .u8 N] 5)) rfl (cell_new_B wr N (UInt8.ofNat N) HBN.out) (by rfl) (oneCell_B _) (by omega) (by decide) (by simp; omega) ?_
      intro v6 w6 ho6 hg6
      obtain ⟨T6, tc6, rfl⟩ := own_slice ho6
      have HP6 := Lib.hid ((hp2.out.below hba).grew hg6)
      have HP56 := Lib.hid ((HP5.out.below hba).grew hg6)
      have HG6 := Lib.hid ((hg2.out.trans (Grew.of_below _ hba)).trans hg6)
      have HO6 := Lib.hid (show Own w6 base 5 1 (.slice T6 (b.length + 1) tc6) (b.length + 1) ((b ++ [UInt8.ofNat N]).map B) by rw [List.map_append]; exact ho6)
      have hs6 : base ≤ w6.heap.size := Nat.le_trans hsz (Nat.le_trans hba.size hg6.size)
      obtain ⟨wsn, hwsn⟩ : ∃ x, x = l2.take N := ⟨_, rfl⟩
      have HW := Lib.hid hwsn
      have hrd := HS.out w6 HP6.out.1
      rw [← hwsn] at hrd
      have hwl : wsn.length = N := by rw [hwsn, List.length_take]; omega
      have HWL := Lib.hid hwl
      clear ho6 hg6 hba hwsn hwl
      go_wp2_with (at_builtin; refine Stop.at ?_)
      refine Stop.go ?_
      refine step_append E24 rfl (.tmp 17) (.tmp 20) rfl base rfl HO6.out rfl hrd (by rw [List.length_map, HWL.out, Nat.mul_one]) (oneCell_B _) (by omega) (by decide) hs6 ?_
      intro v7 w7 ho7 hg7
      obtain ⟨T7, tc7, rfl⟩ := own_slice ho7
      obtain ⟨b7, hb7⟩ : ∃ x, x = b ++ [UInt8.ofNat N] ++ wsn := ⟨_, rfl⟩
      have hl7 : b7.length = b.length + 1 + N := by rw [hb7]; simp [HWL.out]; omega
      have ho7' : Own w7 base 5 1 (.slice T7 b7.length tc7) b7.length (b7.map B) := by rw [hl7, hb7, List.map_append]; exact ho7
      have HO7 := Lib.hid ho7'
      have HP7 := Lib.hid (show Apart w7 A5 c5 l5 (.slice T7 b7.length tc7) by rw [hl7]; exact HP56.out.grew hg7)
      have HG7 := Lib.hid (show Grew w w7 (.slice T bs.length tc) (.slice T7 b7.length tc7) by rw [hl7]; exact HG6.out.trans hg7)
      have HEQ := Lib.hid (show b7 ++ lits l5 = R by rw [← heq.out, HLC.out, hb7, HW.out, hl5.out]; simp)
      have hln7 : b7.length + 2 * l5.length ≤ bs.length + 2 * l.length := by have := HZ5.out; omega
      rw [← hl7]
      clear ho7 ho7' hg7 hb7 hl7 hrd
      go_wp2
      exact ⟨⟨b7, l5, T7, A5, tc7, c5, rfl, rfl, HEQ, hln7, HO7, HP7, HG7⟩, by simp [slLen]; omega⟩
    · have hw0 : l2 = [] := List.eq_nil_of_length_eq_zero (by omega)
      have b0 : ¬ (0 : Int) < (l2.length : Int) := by omega
      have HX := Lib.hid (show b = R by rw [← heq.out, hw0, lits_nil, List.append_nil])
      clear hw0
      go_wp2
      go_ret
      have e := HX.out
      subst e
      exact ⟨T2, tc2, rfl, ho2.out, hg2.out⟩
end Go.Proofs.Ytfdkhopionknaaa
