/- Layer 6: the examples, reckoned; small (29). -/
import Derived.Test.YtfdkhopionknaaaDicF
import Derived.Test.YtfdkhopionknaaaDicG
import Derived.Test.YtfdkhopionknaaaEval
namespace Go.Proofs.Ytfdkhopionknaaa
open Go.RowKit
set_option linter.unusedVariables false
set_option linter.unusedSimpArgs false

def litsF : Nat → List UInt8 → List UInt8
  | 0, _ => []
  | f + 1, l => if l.length = 0 then [] else UInt8.ofNat (min l.length 127) :: (l.take (min l.length 127) ++ litsF f (l.drop (min l.length 127)))
theorem litsF_eq (f : Nat) : ∀ l : List UInt8, l.length < f → litsF f l = lits l := by
  induction f with
  | zero => intro l h; omega
  | succ f ih =>
    intro l h
    rw [lits, litsF]
    by_cases h0 : l.length = 0
    · rw [if_pos h0, dif_pos h0]
    · rw [if_neg h0, dif_neg h0, ih _ (by rw [List.length_drop]; omega)]
def encF6 (all : List UInt8) : Nat → Nat → List UInt8 → List UInt8
  | 0, _, _ => []
  | f + 1, at_, run => if at_ < all.length then (if (best all at_).2 = 0 then encF6 all f (at_ + 1) (run ++ (all.drop at_).take 1) else litsF 200 run ++ (UInt8.ofNat (124 + (best all at_).2) :: (putF 4200 (best all at_).1 ++ encF6 all f (at_ + (best all at_).2) []))) else litsF 200 run
theorem encF6_eq (all : List UInt8) (hl : all.length ≤ 150) (f : Nat) : ∀ (at_ : Nat) (run : List UInt8), at_ ≤ all.length → all.length - at_ < f → run.length ≤ at_ → encF6 all f at_ run = encD all at_ run := by
  induction f with
  | zero => intro a r _ h _; omega
  | succ f ih =>
    intro a r ha h hr
    rw [encF6]
    by_cases hlt : a < all.length
    · rw [if_pos hlt]
      by_cases h0 : (best all a).2 = 0
      · rw [if_pos h0, encD_lit hlt h0, ih _ _ (by omega) (by omega) (by rw [List.length_append, List.length_take, List.length_drop]; omega)]
      · have hb := best_le all a ha
        rw [if_neg h0, encD_match hlt (d := (best all a).1) (n := (best all a).2) rfl h0, ih _ _ hb.2.1 (by omega) (by simp), litsF_eq 200 r (by omega), putF_eq 4200 _ (by omega)]
    · rw [if_neg hlt, encD_end hlt, litsF_eq 200 r (by omega)]
theorem encodeD_eq (dict b : List UInt8) (hl : (dict ++ b).length ≤ 150) : encodeD dict b = encF6 (dict ++ b) 151 dict.length [] := by
  unfold encodeD
  rw [encF6_eq _ hl 151 _ _ (by simp) (by omega) (by simp)]

def abc10 : List UInt8 := [97, 98, 99, 97, 98, 99, 97, 98, 99, 100]
def abcd4 : List UInt8 := [97, 98, 99, 100]
def exA : List UInt8 := [3, 97, 98, 99, 130, 3, 1, 100]
def exB : List UInt8 := [128, 4]
theorem ex_a : encodeD [] abc10 = exA := by
  rw [encodeD_eq _ _ (by decide)]
  decide +kernel
theorem ex_b : encodeD abcd4 abcd4 = exB := by
  rw [encodeD_eq _ _ (by decide)]
  decide +kernel
def tokE : List UInt8 := [128, 1]
def tokF : List UInt8 := [2, 97]
theorem ex_e : decodeD [] tokE 100 = (3, []) := by
  unfold decodeD
  rw [if_neg (by decide), decT_err (by decide) (e := 3) (x := []) (y := []) (by decide +kernel) (by decide)]
theorem ex_f : decodeD [] tokF 100 = (10, []) := by
  unfold decodeD
  rw [if_neg (by decide), decT_err (by decide) (e := 10) (x := []) (y := []) (by decide +kernel) (by decide)]
def secP1 : Sec := ⟨1, 2, 3, 4, 5, 6, 7, 8⟩
def secP2 : Sec := ⟨9, 10, 11, 12, 13, 14, 15, 16⟩
theorem ex_c : packD [] [secP1, secP2] = 0 :: flat [secP1, secP2] := by
  have h1 : (encode [secP1, secP2]).length = 17 := by
    rw [encF_eq _ (by decide)]
    decide +kernel
  have h2 : (encodeD [] (flat [secP1, secP2])).length = 17 := by
    rw [encodeD_eq _ _ (by decide)]
    decide +kernel
  have h3 : (flat [secP1, secP2]).length = 16 := by decide
  unfold packD
  simp [h1, h2, h3]

theorem E82 : Elem Try.prog 82 24 1 24 := by
  have inf : (Try.prog.info? 24).map (fun i => (i.zero, i.size, i.bytes)) = some (some (.slice none 0 0), 1, 24) := by kernel_rfl
  obtain ⟨i, hi, hz, hs, hb⟩ := info_parts inf
  exact ⟨Try.underlying82, ⟨i, _, hi, hz, hs, hb, rfl⟩, by decide⟩
def trip (t : Option Addr × Nat × Nat) : Value := .slice t.1 t.2.1 t.2.2

set_option maxRecDepth 20000 in
set_option maxHeartbeats 2000000 in
theorem small_calls (A : Option Addr) (c : Nat) (ts : List (Option Addr × Nat × Nat)) (w : World) (h : Rd w A ts.length c (ts.map trip)) (hl : ts.length ≤ 1000) :
    Calls Try.prog 29 #[.slice A ts.length c] w fun e w' => e = .returned (.bool (decide (∀ t ∈ ts, t.2.1 ≤ 400))) ∧ w' = w := by
  obtain ⟨R, hR⟩ : ∃ R, decide (∀ t ∈ ts, t.2.1 ≤ 400) = R := ⟨_, rfl⟩
  have HR := Lib.hid hR
  rw [hR]
  clear hR
  go_enter Try.func29, Try.ntmps29
  go_wp2
  go_loopw [3] (fun i w' => ∃ k : Nat, i = .int .i64 k ∧ k ≤ ts.length ∧ Hid (∀ t ∈ ts.take k, t.2.1 ≤ 400) ∧ w' = w) (fun i w' => ts.length - (intOf i).toNat)
  case atStart => exact ⟨0, rfl, Nat.zero_le _, fun t ht => by simp at ht, rfl⟩
  case round =>
    obtain ⟨k, rfl, hk, hall, rfl⟩ := hrel
    by_cases hlt : k < ts.length
    · have d1 : (k : Int) < (ts.length : Int) := by omega
      obtain ⟨⟨X, n, cc⟩, ht⟩ : ∃ t, ts[k]? = some t := ⟨_, List.getElem?_eq_getElem hlt⟩
      obtain ⟨a, rfl⟩ : ∃ a, A = some a := by
        cases A with
        | none => have := (h.nil rfl).1; omega
        | some a => exact ⟨a, rfl⟩
      have hc : wr.cell? (a.add k) = some (.slice X n cc) := h.row a rfl k _ (by rw [List.getElem?_map, ht]; rfl)
      have HT := Lib.hid ht
      clear ht
      by_cases h4 : n ≤ 400
      · have d2 : ¬ (400 : Int) < (n : Int) := by omega
        have HALL : Hid (∀ t ∈ ts.take (k + 1), t.2.1 ≤ 400) := by
          intro t htm
          obtain ⟨hk', e⟩ := List.getElem?_eq_some_iff.1 HT.out
          rw [List.take_succ_eq_append_getElem hk', List.mem_append] at htm
          rcases htm with h | h
          · exact hall.out t h
          · rw [List.mem_singleton, e] at h; rw [h]; exact h4
        go_wp2
        exact ⟨⟨k + 1, rfl, by omega, HALL, trivial⟩, by simp [intOf]; omega⟩
      · have d2 : (400 : Int) < (n : Int) := by omega
        have hno : ¬ ∀ t ∈ ts, t.2.1 ≤ 400 := fun hh => h4 (hh _ (List.mem_of_getElem? HT.out))
        have HN := Lib.hid hno
        clear hno
        go_wp2
        go_ret
        exact ⟨by rw [← HR.out, decide_eq_false HN.out]; rfl, rfl⟩
    · have d1 : ¬ (k : Int) < (ts.length : Int) := by omega
      have hyes : ∀ t ∈ ts, t.2.1 ≤ 400 := by
        have := hall.out
        rwa [List.take_of_length_le (by omega)] at this
      have HY := Lib.hid hyes
      clear hyes
      go_wp2
      go_ret
      exact ⟨by rw [← HR.out, decide_eq_true HY.out]; rfl, rfl⟩

theorem dEnc_lit (A1 A2 : Option Addr) (c1 c2 : Nat) (dict b r : List UInt8) (w : World) (he : encodeD dict b = r) (h1 : Bytes w A1 c1 dict) (h2 : Bytes w A2 c2 b) (hlen : dict.length + b.length ≤ 100000) :
    Calls Try.prog 31 #[.slice A1 dict.length c1, .slice A2 b.length c2] w fun e w' => ∃ A c, e = .returned (.slice A r.length c) ∧ Hid (Bytes w' A c r) ∧ Hid (Below w.heap.size w w') := by
  refine (dEncode_calls A1 A2 c1 c2 dict b w h1 h2 hlen).mono ?_
  intro e w' hf
  rw [he] at hf
  obtain ⟨A, c, rfl, ho, hb⟩ := Fresh_own hf
  exact ⟨A, c, rfl, own_bytes ho, hb⟩
theorem dDec_lit (A1 A2 : Option Addr) (c1 c2 : Nat) (dict bs : List UInt8) (most : Int) (r : Nat × List UInt8) (w : World) (he : decodeD dict bs most = r) (h1 : Bytes w A1 c1 dict) (h2 : Bytes w A2 c2 bs) (hd : dict.length ≤ 100000) (hb : bs.length ≤ 1000000) (hm : most ≤ 1000000) :
    Calls Try.prog 33 #[.slice A1 dict.length c1, .slice A2 bs.length c2, .int .i64 most] w fun e w' => ∃ A c, e = .returned (.tuple #[.slice A r.2.length c, .int .i64 r.1]) ∧ Hid (Bytes w' A c r.2) ∧ Hid (Below w.heap.size w w') := by
  refine (dDecode_calls A1 A2 c1 c2 dict bs most w h1 h2 hd hb hm).mono ?_
  intro e w' hf
  rw [he] at hf
  obtain ⟨A, c, rfl, ho, hb⟩ := hf
  exact ⟨A, c, rfl, own_bytes ho, hb⟩
theorem pack_lit (A1 A2 : Option Addr) (c1 c2 : Nat) (dict r : List UInt8) (xs : List Sec) (w : World) (he : packD dict xs = r) (h1 : Bytes w A1 c1 dict) (h2 : Secs w A2 c2 xs) (hd : dict.length ≤ 10000) (hx : xs.length ≤ 1000) :
    Calls Try.prog 35 #[.slice A1 dict.length c1, .slice A2 xs.length c2] w fun e w' => ∃ A c, e = .returned (.slice A r.length c) ∧ Hid (Bytes w' A c r) ∧ Hid (Below w.heap.size w w') := by
  refine (Pack_calls A1 A2 c1 c2 dict xs w h1 h2 hd hx).mono ?_
  intro e w' hf
  rw [he] at hf
  obtain ⟨A, c, rfl, ho, hb⟩ := Fresh_own hf
  exact ⟨A, c, rfl, own_bytes ho, hb⟩
theorem bytes_nil (w : World) : Bytes w none 0 [] := ⟨Nat.le_refl _, by decide, fun _ => ⟨rfl, rfl, rfl⟩, fun a ha => by cases ha⟩
theorem run_buildSlice_sec2 (w : World) (s t : Sec) : (Instr.buildSlice 22 2 #[(0, secV s), (1, secV t)]).run Try.prog w = .ok (.slice (some ⟨w.heap.size, 0, none⟩) 2 2) (w.alloc (.cells (s.cells ++ t.cells).toArray 38)) := by
  obtain ⟨i, hi, hz, hs, hb⟩ := info_parts inf38
  have hfill : Instr.fill (fun i => some (i * 8, 8)) ((Array.range (2 * 8)).map ((secV Sec.zero).cells[· % (secV Sec.zero).cells.size]!)) [(0, secV s), (1, secV t)] = some (s.cells ++ t.cells).toArray := by
    have hm : (Array.range (2 * 8)).map ((secV Sec.zero).cells[· % (secV Sec.zero).cells.size]!) = (Sec.zero.cells ++ Sec.zero.cells).toArray := Array.ext' (madeZero 2)
    rw [hm]
    have hv : (secV s).cells = s.cells.toArray := rfl
    have hv2 : (secV t).cells = t.cells.toArray := rfl
    have hz8 : s.cells.toArray.size = 8 := rfl
    have hz9 : t.cells.toArray.size = 8 := rfl
    simp only [Instr.fill, hv, hz8, hv2, hz9]
    obtain ⟨s0, s1, s2, s3, s4, s5, s6, s7⟩ := s
    obtain ⟨t0, t1, t2, t3, t4, t5, t6, t7⟩ := t
    simp [Sec.cells, Sec.bytes, Sec.zero]
  have h1 : (sizeOf 38).run Try.prog w = .ok 8 w := size38 w
  have h2 : (zeroValue 38).run Try.prog w = .ok (secV Sec.zero) w := by simp [zeroValue, typeInfo, hi, hz]
  unfold Instr.buildSlice
  simp only [Sem.run_bind, run_underlying Try.underlying22, Result.andThen_ok, h1]
  rw [if_neg (by decide), if_neg (by decide)]
  simp only [Sem.run_bind, Result.andThen_ok, h2, Sem.run_pure, hfill]
  simp [newRow]
end Go.Proofs.Ytfdkhopionknaaa
