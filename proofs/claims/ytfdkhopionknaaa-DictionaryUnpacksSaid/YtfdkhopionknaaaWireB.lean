/- bytes.Equal, the copies, and PutInt of the program and of the reference. -/
import Derived.Test.YtfdkhopionknaaaWire
namespace Go.Proofs.Ytfdkhopionknaaa
open Go.RowKit

def strB (bs : List UInt8) : ByteArray := ⟨bs.toArray⟩
theorem strB_beq (bs cs : List UInt8) : ((strB bs).toList == (strB cs).toList) = decide (bs = cs) := by
  rw [ByteArray.toList_eq, ByteArray.toList_eq]
  by_cases e : bs = cs
  · subst e; simp
  · rw [decide_eq_false e, beq_eq_false_iff_ne]; simpa [strB] using e
theorem fold_bytes (bs : List UInt8) : ∀ s : ByteArray, (bs.map fun b => (b.toNat : Int)).foldl (fun r n => r.push (UInt8.ofNat n.toNat)) s = ⟨s.data ++ bs.toArray⟩ := by
  induction bs with
  | nil => intro s; simp
  | cons b bs ih =>
    intro s
    simp only [List.map_cons, List.foldl_cons]
    rw [ih]
    simp [ByteArray.push]
theorem run_bytes_str {w : World} {A : Option Addr} {cap : Nat} {bs : List UInt8} (h : Bytes w A cap bs) :
    (convert 24 9 (.slice A bs.length cap)).run Try.prog w = .ok (.string (strB bs)) w := by
  cases A with
  | none =>
    obtain ⟨h1, _, h2⟩ := h.nil rfl
    have : bs = [] := by simpa using h2
    subst this
    exact run_convert_bytes_nil w 24 5 Try.underlying24 Try.underlying5 _ _ 9 Try.underlying9
  | some a =>
    rw [run_convert_bytes_string w 24 9 5 _ _ _ Try.underlying24 Try.underlying5 Try.underlying9]
    have hl := run_loadCells_list (P := Try.prog) w a (bs.map B) (h.row a rfl)
    have e : bs.map B = (bs.map fun b => (b.toNat : Int)).map (Value.int .u8) := by simp [B]
    rw [e] at hl
    simp only [List.length_map] at hl
    rw [run_bytesToString w a bs.length cap _ hl, fold_bytes]
    simp [strB, ByteArray.empty, ByteArray.emptyWithCapacity]
    rfl

set_option maxHeartbeats 400000 in
theorem equal_calls (A A' : Option Addr) (c c' : Nat) (bs cs : List UInt8) (w : World) (h : Bytes w A c bs) (h' : Bytes w A' c' cs) :
    Calls Try.prog 20 #[.slice A bs.length c, .slice A' cs.length c'] w fun e w' => e = .returned (.bool (decide (bs = cs))) ∧ w' = w := by
  have r1 := run_bytes_str h
  have r2 := run_bytes_str h'
  have r3 := strB_beq bs cs
  have R3 := Lib.hid r3
  clear r3
  go_enter Try.func20, Try.ntmps20
  go_wp2
  go_ret
  exact ⟨congrArg (fun b => Ending.returned (Value.bool b)) R3.out, rfl⟩
set_option maxHeartbeats 400000 in
theorem same_calls (A A' : Option Addr) (c c' : Nat) (bs cs : List UInt8) (w : World) (h : Bytes w A c bs) (h' : Bytes w A' c' cs) :
    Calls Try.prog 49 #[.slice A bs.length c, .slice A' cs.length c'] w fun e w' => e = .returned (.bool (decide (bs = cs))) ∧ w' = w := by
  have r1 := run_bytes_str h
  have r2 := run_bytes_str h'
  have r3 := strB_beq bs cs
  have R3 := Lib.hid r3
  clear r3
  go_enter Try.func49, Try.ntmps49
  go_wp2
  go_ret
  exact ⟨congrArg (fun b => Ending.returned (Value.bool b)) R3.out, rfl⟩

theorem Own.empty (w : World) {base : Nat} (hb : base ≤ w.heap.size) : Own (w.alloc (.cells #[] 5)) base 5 1 (.slice (some ⟨w.heap.size, 0, none⟩) 0 0) 0 [] :=
  Own.made w 5 #[] 0 0 hb (Nat.le_refl _) (by decide) rfl

/-- The copy of a byte string: new memory. -/
def Fresh (w : World) (bs : List UInt8) (e : Ending) (w' : World) : Prop :=
  ∃ v', e = .returned v' ∧ Own w' w.heap.size 5 1 v' bs.length (bs.map B) ∧ Below w.heap.size w w'

set_option maxRecDepth 20000 in
set_option maxHeartbeats 400000 in
theorem clone_calls (A : Option Addr) (c : Nat) (bs : List UInt8) (w : World) (h : Bytes w A c bs) (hl : bs.length ≤ 1099511627776) :
    Calls Try.prog 69 #[.slice A bs.length c] w (Fresh w bs) := by
  have HL := Lib.hid hl
  clear hl
  rcases h.parts with ⟨rfl, rfl, rfl⟩ | ⟨a, rfl⟩
  · have hs := Lib.run_eql_slice_nil (P := Try.prog) w 24 5 none 0 0 0 0 Try.underlying24
    clear h
    go_enter Try.func69, Try.ntmps69
    go_wp2
    go_ret
    exact ⟨_, rfl, Own.nil _ _ _ _, Below.refl _ _⟩
  · have hs := Lib.run_eql_slice_nil (P := Try.prog) w 24 5 (some a) bs.length c 0 0 Try.underlying24
    go_enter Try.func69, Try.ntmps69
    go_wp2_with (at_builtin; refine Stop.at ?_)
    refine Stop.go ?_
    refine step_append E24 rfl (.tmp 5) (.tmp 6) rfl w.heap.size rfl (Own.empty w (Nat.le_refl _)) rfl (Rd.below h ((Below.refl _ _).alloc (Nat.le_refl _) _)) (by simp) (oneCell_B _) (by have := HL.out; omega) (by decide) (by simp) ?_
    intro v1 w1 h1 hg1
    have H1 := Lib.hid h1
    clear h1
    go_wp2
    go_ret
    refine ⟨v1, rfl, by simpa using H1.out, ?_⟩
    exact ((Below.refl _ _).alloc (Nat.le_refl _) _).trans (hg1.below (Own.empty w (Nat.le_refl _)) (by simp))

theorem Fresh.parts {w w' : World} {bs : List UInt8} {e : Ending} (h : Fresh w bs e w') : ∃ A c, e = .returned (.slice A bs.length c) ∧ Own w' w.heap.size 5 1 (.slice A bs.length c) bs.length (bs.map B) ∧ Bytes w' A c bs ∧ Below w.heap.size w w' := by
  obtain ⟨v', rfl, ho, hb⟩ := h
  obtain ⟨A, c, rfl, hr⟩ := ho.rd
  exact ⟨A, c, rfl, ho, hr, hb⟩

set_option maxRecDepth 20000 in
set_option maxHeartbeats 400000 in
theorem PutInt_calls (A : Option Addr) (c : Nat) (bs : List UInt8) (n : Int) (w : World) (h : Bytes w A c bs) (hl : bs.length ≤ 1099511627776) :
    Calls Try.prog 43 #[.slice A bs.length c, .int .i64 n] w (Fresh w (bs ++ putI n)) := by
  have HL := Lib.hid hl
  clear hl
  go_enter Try.func43, Try.ntmps43
  go_wp2_with fail
  refine (clone_calls _ _ _ _ h HL.out).mono ?_
  rintro e w1 ⟨v1, rfl, ho, hb⟩
  go_wp2_with fail
  refine (putInt_calls w.heap.size _ _ n w1 ho hb.size HL.out).mono ?_
  rintro e w2 ⟨v2, rfl, ho2, hg⟩
  go_wp2
  go_ret
  exact ⟨v2, rfl, ho2, hb.trans (hg.below ho hb.size)⟩
set_option maxRecDepth 20000 in
set_option maxHeartbeats 400000 in
theorem bclone_calls (A : Option Addr) (c : Nat) (bs : List UInt8) (w : World) (h : Bytes w A c bs) (hl : bs.length ≤ 1099511627776) :
    Calls Try.prog 52 #[.slice A bs.length c] w (Fresh w bs) := by
  have HL := Lib.hid hl
  clear hl
  rcases h.parts with ⟨rfl, rfl, rfl⟩ | ⟨a, rfl⟩
  · have hs := Lib.run_eql_slice_nil (P := Try.prog) w 24 5 none 0 0 0 0 Try.underlying24
    clear h
    go_enter Try.func52, Try.ntmps52
    go_wp2
    go_ret
    exact ⟨_, rfl, Own.nil _ _ _ _, Below.refl _ _⟩
  · have hs := Lib.run_eql_slice_nil (P := Try.prog) w 24 5 (some a) bs.length c 0 0 Try.underlying24
    go_enter Try.func52, Try.ntmps52
    go_wp2_with (at_builtin; refine Stop.at ?_)
    refine Stop.go ?_
    refine step_append E24 rfl (.tmp 5) (.tmp 6) rfl w.heap.size rfl (Own.empty w (Nat.le_refl _)) rfl (Rd.below h ((Below.refl _ _).alloc (Nat.le_refl _) _)) (by simp) (oneCell_B _) (by have := HL.out; omega) (by decide) (by simp) ?_
    intro v1 w1 h1 hg1
    have H1 := Lib.hid h1
    clear h1
    go_wp2
    go_ret
    refine ⟨v1, rfl, by simpa using H1.out, ?_⟩
    exact ((Below.refl _ _).alloc (Nat.le_refl _) _).trans (hg1.below (Own.empty w (Nat.le_refl _)) (by simp))


set_option maxRecDepth 20000 in
set_option maxHeartbeats 1000000 in
theorem refPutInt_calls (A : Option Addr) (c : Nat) (bs : List UInt8) (n : Int) (w : World) (h : Bytes w A c bs) (hlen : bs.length ≤ 1099511627776) :
    Calls Try.prog 45 #[.slice A bs.length c, .int .i64 n] w (Fresh w (bs ++ putI n)) := by
  obtain ⟨k0, hk0, hk1⟩ : ∃ k0 : Nat, (if n < 0 ∨ n > 9007199254740991 then (0 : Nat) else n.toNat) = k0 ∧ k0 ≤ 9007199254740991 := ⟨_, rfl, by split <;> omega⟩
  have hput : Hid (putI n = putN k0) := by show putI n = putN k0; unfold putI; rw [hk0]
  have HK0 := Lib.hid hk0
  clear hk0
  go_enter Try.func45, Try.ntmps45
  go_wp2_with (at_builtin; refine Stop.at ?_)
  refine Stop.go ?_
  refine step_append E24 rfl (.tmp 6) (.tmp 7) rfl w.heap.size rfl (Own.nil _ _ _ _) rfl h (by simp) (oneCell_B _) (by omega) (by decide) (by simp) ?_
  intro v1 w1 h1 hg1
  have ho1 : Own w1 w.heap.size 5 1 v1 bs.length (bs.map B) := by simpa using h1
  have hb1 := hg1.below (Own.nil w w.heap.size 5 1) (Nat.le_refl _)
  have hs1 := hb1.size
  clear h1 hg1
  go_wp2_with fail
  all_goals
    go_loopw [1, 5] (fun m u w' => ∃ (bs' : List UInt8) (k : Nat), m = .int .i64 k ∧ k ≤ 9007199254740991 ∧ Hid (bs' ++ putN k = bs ++ putN k0) ∧
      Own w' w.heap.size 5 1 u bs'.length (bs'.map B) ∧ Below w.heap.size w w') (fun m _ _ => (intOf m).toNat)
    case atStart =>
      have h := HK0.out
      refine ⟨bs, k0, ?_, hk1, rfl, ho1, hb1⟩
      rw [← h]
      first
        | (rw [if_pos (by omega)]; rfl)
        | (rw [if_neg (by omega)]; congr 1; omega)
    case round =>
      obtain ⟨bs', k, rfl, hk, he, ho, hb⟩ := hrel
      have hsz := hb.size
      have hl := enc_len he hk1 hlen
      go_wp2_with (at_builtin; refine Stop.at ?_)
      · refine Stop.go ?_
        have hlt : (127 : Int) < k := by assumption
        have h8 := B_of (k % 128 + 128) (by omega)
        refine step_append E24 rfl (.tmp 17) (.tmp 22) rfl w.heap.size rfl (ho.alloc _) rfl (cell_new_B wr _ _ (by rw [h8]; congr 1)) rfl (oneCell_B _) (by simp; omega) (by decide) (by simp; omega) ?_
        intro v1 w1 h1 hg1
        have H1 := Lib.hid h1
        clear h1 h8
        go_wp2
        go_roundw
        case rel =>
          refine ⟨bs' ++ [UInt8.ofNat (k % 128 + 128)], k / 128, rfl, by omega, step_enc (by omega) he, ?_, (hb.alloc hsz _).trans (hg1.below (ho.alloc _) (by simp; omega))⟩
          simpa using H1.out
        case measure => simp [intOf]; omega
      · refine Stop.go ?_
        have hlt : (k : Int) ≤ 127 := by assumption
        have h8 := B_of k (by omega)
        refine step_append E24 rfl (.tmp 26) (.tmp 29) rfl w.heap.size rfl (ho.alloc _) rfl (cell_new_B wr _ _ h8) rfl (oneCell_B _) (by simp; omega) (by decide) (by simp; omega) ?_
        intro v1 w1 h1 hg1
        have H1 := Lib.hid h1
        clear h1 h8
        go_wp2
        go_ret
        refine ⟨v1, rfl, ?_, (hb.alloc hsz _).trans (hg1.below (ho.alloc _) (by simp; omega))⟩
        have h2 := he.out
        rw [putN_small (by omega)] at h2
        rw [hput.out, ← h2]
        simpa using H1.out
end Go.Proofs.Ytfdkhopionknaaa
