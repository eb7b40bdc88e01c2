/- The small helpers of the laws: a sector of one byte, sectors, an encoding written out. -/
import Derived.Test.YtfdkhopionknaaaBld
import Derived.Test.YtfdkhopionknaaaWireB
namespace Go.Proofs.Ytfdkhopionknaaa
open Go.RowKit
set_option linter.unusedVariables false
set_option linter.unusedSimpArgs false
attribute [local go_sem ↓] run_load_sec run_build_sec
attribute [local go_sem] isSec_secV unSec_secV

theorem inf38L : (Try.prog.info? 38).map (·.size) = some 8 := by kernel_rfl
/-- The sector that begins with a byte. -/
def secB (b : UInt8) : Sec := ⟨b, 0, 0, 0, 0, 0, 0, 0⟩
set_option maxRecDepth 20000 in
set_option maxHeartbeats 1000000 in
theorem sector_calls (b : UInt8) (w : World) : Calls Try.prog 65 #[.int .u8 b.toNat] w fun e w' => e = .returned (secV (secB b)) ∧ Below w.heap.size w w' := by
  obtain ⟨w1, e1, hg1, hb1, hz1⟩ := alloc_facts w #[.int .u8 0, .int .u8 0, .int .u8 0, .int .u8 0, .int .u8 0, .int .u8 0, .int .u8 0, .int .u8 0] 38
  go_enter Try.func65, Try.ntmps65
  go_wp2_with ((with_reducible refine Stop.store 38 ?hst ?_); (case hst => rfl))
  refine Stop.go ?_
  refine step_store_row rfl 38 (.tmp 2) (.tmp 4) rfl rfl hg1 (vs := (secB b).cells.toArray) rfl (by kernel_rfl) rfl (oneCell_B _) ?_
  intro w2 hg2 hgr2 hz2
  have hb2 := hb1.grown hgr2 hb1.size (fun k hk => by cases hk; exact Nat.le_refl _)
  have HG2 := Lib.hid hg2
  clear hg2
  go_wp2
  exact bodyPost_ret (results_cell_row (fn := Try.f65) (p := 2) (ty := 38) rfl _ _ w.heap.size 38 _ (0, 0) _ rfl HG2.out Try.underlying38 rfl inf38L) rfl ⟨rfl, hb2⟩

/-- The list of sectors that begin with some bytes. -/
def secsB (bs : List UInt8) : List Sec := bs.map secB

set_option maxRecDepth 20000 in
set_option maxHeartbeats 1000000 in
theorem sectors_calls (A : Option Addr) (c : Nat) (bs : List UInt8) (w : World) (h : Bytes w A c bs) (hl : bs.length ≤ 65536) :
    Calls Try.prog 40 #[.slice A bs.length c] w fun e w' => ∃ v, e = .returned v ∧ Own w' w.heap.size 38 8 v bs.length ((flat (secsB bs)).map B) ∧ Below w.heap.size w w' := by
  go_enter Try.func40, Try.ntmps40
  go_wp2
  go_loopw [8, 3] (fun i v wr => ∃ (k : Nat) (A5 : Option Addr) (c5 : Nat) (out : List Sec), i = .int .i64 k ∧ v = .slice A5 out.length c5 ∧ k ≤ bs.length ∧ out.length ≤ k ∧ k ≤ out.length ∧ Hid (out = secsB (bs.take k)) ∧ Hid (Own wr w.heap.size 38 8 (.slice A5 out.length c5) out.length ((flat out).map B)) ∧ Hid (Below w.heap.size w wr)) (fun i v wr => bs.length - (intOf i).toNat)
  case atStart => exact ⟨0, none, 0, [], rfl, rfl, Nat.zero_le _, Nat.le_refl _, Nat.le_refl _, rfl, Own.nil _ _ _ _, Below.refl _ _⟩
  case round =>
    obtain ⟨k, A5, c5, out, rfl, rfl, hk, hk1, hk2, hout, hown, hb⟩ := hrel
    by_cases hlt : k < bs.length
    · obtain ⟨a, rfl⟩ := h.some_of hlt
      obtain ⟨x, hx, hcx, hx256, hdr⟩ := byte_at (h.below hb.out) hlt
      have HX := Lib.hid hx
      clear hx hdr
      go_wp2_with fail
      refine (sector_calls x wr).mono ?_
      rintro e w5 ⟨rfl, hb5⟩
      have HO5 := Lib.hid (hown.out.below hb5)
      have HB5 := Lib.hid (hb.out.trans (hb5.mono hb.out.size))
      clear hb5 hcx
      go_wp2_with (at_builtin; refine Stop.at ?_)
      refine Stop.go ?_
      have hrd : Secs (w5.alloc (.cells (secB x).cells.toArray 38)) (some ⟨w5.heap.size, 0, none⟩) 1 [secB x] := by
        have := Rd.new w5 38 (secB x).cells.toArray 1 (by unfold maxLen; omega)
        unfold Secs
        simpa [flat, Sec.cells] using this
      refine step_append E22 rfl (.tmp 12) (.tmp 15) rfl w.heap.size rfl (HO5.out.alloc _) rfl hrd rfl (oneCell_B _) (by omega) (by decide) (by have := HB5.out.size; simp; omega) ?_
      intro v6 w6 ho6 hg6
      obtain ⟨A6, c6, rfl, _⟩ := ho6.rd
      obtain ⟨out6, hout6⟩ : ∃ y, y = out ++ [secB x] := ⟨_, rfl⟩
      have hl6 : out6.length = out.length + 1 := by rw [hout6, List.length_append]; rfl
      rw [← List.map_append, ← flat_append, ← hout6, ← hl6] at ho6
      have HS6 := Lib.hid (show out6 = secsB (bs.take (k + 1)) by rw [hout6, hout.out, List.take_add_one, HX.out]; simp [secsB])
      have HB6 := Lib.hid (HB5.out.trans (((Below.refl _ _).alloc (by have := HB5.out.size; omega) _).trans (hg6.below (HO5.out.alloc _) (by have := HB5.out.size; simp; omega))))
      have HO6 := Lib.hid ho6
      have hk6a : out6.length ≤ k + 1 := by omega
      have hk6b : k + 1 ≤ out6.length := by omega
      rw [← hl6]
      clear hg6 ho6 hout6 hl6 hrd
      go_wp2
      exact ⟨⟨k + 1, A6, c6, out6, rfl, rfl, by omega, hk6a, hk6b, HS6, HO6, HB6⟩, by simp [intOf]; omega⟩
    · have hkl : k = bs.length := by omega
      have ho : out = secsB bs := by rw [hout.out, hkl, List.take_length]
      go_wp2
      go_ret
      refine ⟨_, rfl, ?_, hb.out⟩
      rw [← ho, show bs.length = out.length by omega]
      exact hown.out

/-- One part of an encoding written out: a byte, or (negative) a sector. -/
def itemB (n : Int) : List UInt8 := if 0 ≤ n then [UInt8.ofNat n.toNat] else (secB (UInt8.ofNat (-n).toNat)).bytes
def itemsB (ns : List Int) : List UInt8 := ns.flatMap itemB
def intV (n : Int) : Value := .int .i64 n
theorem itemB_len (n : Int) : (itemB n).length ≤ 8 := by unfold itemB; split <;> simp
theorem itemsB_len (ns : List Int) : (itemsB ns).length ≤ 8 * ns.length := by
  induction ns with
  | nil => simp [itemsB]
  | cons n ns ih => have := itemB_len n; simp only [itemsB, List.flatMap_cons, List.length_append, List.length_cons] at ih ⊢; omega
theorem itemsB_snoc {ns : List Int} {k : Nat} {n : Int} (h : ns[k]? = some n) : itemsB (ns.take (k + 1)) = itemsB (ns.take k) ++ itemB n := by
  rw [List.take_add_one, h]; simp [itemsB]

set_option maxRecDepth 20000 in
set_option maxHeartbeats 1000000 in
theorem encoded_calls (A : Option Addr) (c : Nat) (ns : List Int) (w : World) (h : Rd w A ns.length c (ns.map intV)) (hl : ns.length ≤ 65536) (hr : ∀ n ∈ ns, -255 ≤ n ∧ n ≤ 255) :
    Calls Try.prog 41 #[.slice A ns.length c] w (Fresh w (itemsB ns)) := by
  go_enter Try.func41, Try.ntmps41
  go_wp2
  go_loopw [9, 3] (fun i v wr => ∃ (k : Nat) (A5 : Option Addr) (c5 : Nat) (out : List UInt8), i = .int .i64 k ∧ v = .slice A5 out.length c5 ∧ k ≤ ns.length ∧ out.length ≤ 8 * k ∧ Hid (out = itemsB (ns.take k)) ∧ Hid (Own wr w.heap.size 5 1 (.slice A5 out.length c5) out.length (out.map B)) ∧ Hid (Below w.heap.size w wr)) (fun i v wr => ns.length - (intOf i).toNat)
  case atStart => exact ⟨0, none, 0, [], rfl, rfl, Nat.zero_le _, Nat.le_refl _, rfl, Own.nil _ _ _ _, Below.refl _ _⟩
  case round =>
    obtain ⟨k, A5, c5, out, rfl, rfl, hk, hk1, hout, hown, hb⟩ := hrel
    by_cases hlt : k < ns.length
    · obtain ⟨n, hn⟩ : ∃ n, ns[k]? = some n := ⟨_, List.getElem?_eq_getElem hlt⟩
      have hrn := hr n (List.mem_of_getElem? hn)
      obtain ⟨a, rfl⟩ : ∃ a, A = some a := by
        cases A with
        | none => have := (h.nil rfl).1; omega
        | some a => exact ⟨a, rfl⟩
      have hcx : wr.cell? (a.add k) = some (.int .i64 n) := (h.below hb.out).row a rfl k _ (by rw [List.getElem?_map, hn]; rfl)
      have hsn := itemsB_snoc hn
      have HSN := Lib.hid hsn
      clear hsn hn
      by_cases h0 : 0 ≤ n
      · obtain ⟨m, rfl⟩ : ∃ m : Nat, n = (m : Int) := ⟨n.toNat, by omega⟩
        obtain ⟨b, hb8⟩ : ∃ b : UInt8, b.toNat = m ∧ itemB (m : Int) = [b] := ⟨UInt8.ofNat m, by simp; omega, by simp [itemB]⟩
        have hwm : IntKind.u8.wrap (m : Int) = (m : Int) := by rw [IntKind.wrap_u8]; omega
        have hmod : (m : Int) % 256 = (m : Int) := by omega
        go_wp2_with (at_builtin; refine Stop.at ?_)
        refine Stop.go ?_
        have hrd : Rd (wr.alloc (.cells #[.int .u8 m] 5)) (some ⟨wr.heap.size, 0, none⟩) 1 1 ([b].map B) := by
          have := Rd.new wr 5 #[.int .u8 m] 1 (by unfold maxLen; omega)
          simpa [B, hb8.1] using this
        refine step_append E24 rfl (.tmp 15) (.tmp 18) rfl w.heap.size rfl (hown.out.alloc _) rfl hrd rfl (oneCell_B _) (by omega) (by decide) (by have := hb.out.size; simp; omega) ?_
        intro v6 w6 ho6 hg6
        obtain ⟨A6, c6, rfl, _⟩ := ho6.rd
        obtain ⟨out6, hout6⟩ : ∃ y, y = out ++ [b] := ⟨_, rfl⟩
        have hl6 : out6.length = out.length + 1 := by rw [hout6, List.length_append]; rfl
        rw [← List.map_append, ← hout6, ← hl6] at ho6
        have HS6 := Lib.hid (show out6 = itemsB (ns.take (k + 1)) by rw [hout6, hout.out, HSN.out, hb8.2])
        have HB6 := Lib.hid (hb.out.trans (((Below.refl _ _).alloc (by have := hb.out.size; omega) _).trans (hg6.below (hown.out.alloc _) (by have := hb.out.size; simp; omega))))
        have HO6 := Lib.hid ho6
        have hk6a : out6.length ≤ 8 * (k + 1) := by omega
        rw [← hl6]
        clear hg6 ho6 hout6 hl6 hrd hcx
        go_wp2
        exact ⟨⟨k + 1, A6, c6, out6, rfl, rfl, by omega, hk6a, HS6, HO6, HB6⟩, by simp [intOf]; omega⟩
      · obtain ⟨m, rfl⟩ : ∃ m : Nat, n = -(m : Int) := ⟨(-n).toNat, by omega⟩
        obtain ⟨b, hb8⟩ : ∃ b : UInt8, b.toNat = m ∧ itemB (-(m : Int)) = (secB b).bytes := ⟨UInt8.ofNat m, by simp; omega, by unfold itemB; rw [if_neg h0]; simp⟩
        have hwm : IntKind.u8.wrap (m : Int) = (m : Int) := by rw [IntKind.wrap_u8]; omega
        have hmod : (m : Int) % 256 = (m : Int) := by omega
        have hwn : IntKind.i64.wrap (m : Int) = (m : Int) := by rw [IntKind.wrap_i64]; omega
        have hnn : - -(m : Int) = (m : Int) := by omega
        have hn0 : ¬ (0 : Int) ≤ -(m : Int) := h0
        have hd0 : decide ((0 : Int) ≤ -(m : Int)) = false := decide_eq_false h0
        go_wp2_with fail
        have hsc := sector_calls b wr
        rw [hb8.1] at hsc
        refine hsc.mono ?_
        rintro e w5 ⟨rfl, hb5⟩
        have HO5 := Lib.hid (hown.out.below hb5)
        have HB5 := Lib.hid (hb.out.trans (hb5.mono hb.out.size))
        clear hb5 hcx hsc
        go_wp2_with ((with_reducible refine Stop.store 38 ?hst ?_); (case hst => rfl))
        refine Stop.go ?_
        refine step_store_row rfl 38 (.tmp 6) (.tmp 23) rfl rfl (cs := Sec.zero.cells.toArray) (e := 38) (heap_alloc_new w5 _) (vs := (secB b).cells.toArray) rfl inf38L rfl (oneCell_B _) ?_
        intro w6 hg6 hgr6 hz6
        have hb6 : Below w5.heap.size w5 w6 := ((Below.refl _ _).alloc (Nat.le_refl _) _).grown hgr6 (by simp) (fun k hk => by cases hk; exact Nat.le_refl _)
        have HO6 := Lib.hid (HO5.out.below hb6)
        have HB6 := Lib.hid (HB5.out.trans (hb6.mono HB5.out.size))
        have hrd : Rd w6 (some ⟨w5.heap.size, 0, none⟩) 8 8 ((secB b).bytes.map B) := ⟨Nat.le_refl _, by decide, (fun e => by cases e), fun a ha j u hj => by
          cases ha
          rw [Addr.add_lit, Nat.zero_add]
          have := cell_of_row w6 w5.heap.size j _ _ _ hg6
          rw [this]
          simpa [Sec.cells] using hj⟩
        have hsz6 : w.heap.size ≤ w6.heap.size := HB6.out.size
        clear hg6 hgr6 hz6 hb6
        go_wp2_with (at_builtin; refine Stop.at ?_)
        refine Stop.go ?_
        refine step_append E24 rfl (.tmp 24) (.tmp 25) rfl w.heap.size rfl HO6.out rfl hrd rfl (oneCell_B _) (by omega) (by decide) hsz6 ?_
        intro v7 w7 ho7 hg7
        obtain ⟨A7, c7, rfl, _⟩ := ho7.rd
        obtain ⟨out7, hout7⟩ : ∃ y, y = out ++ (secB b).bytes := ⟨_, rfl⟩
        have hl7 : out7.length = out.length + 8 := by rw [hout7, List.length_append]; rfl
        rw [← List.map_append, ← hout7, ← hl7] at ho7
        have HS7 := Lib.hid (show out7 = itemsB (ns.take (k + 1)) by rw [hout7, hout.out, HSN.out, hb8.2])
        have HB7 := Lib.hid (HB6.out.trans (hg7.below HO6.out hsz6))
        have HO7 := Lib.hid ho7
        have hk7a : out7.length ≤ 8 * (k + 1) := by omega
        rw [← hl7]
        clear hg7 ho7 hout7 hl7 hrd
        go_wp2
        exact ⟨⟨k + 1, A7, c7, out7, rfl, rfl, by omega, hk7a, HS7, HO7, HB7⟩, by simp [intOf]; omega⟩
    · have hkl : k = ns.length := by omega
      have ho : out = itemsB ns := by rw [hout.out, hkl, List.take_length]
      go_wp2
      go_ret
      refine ⟨_, rfl, ?_, hb.out⟩
      rw [← ho]
      exact hown.out
end Go.Proofs.Ytfdkhopionknaaa
