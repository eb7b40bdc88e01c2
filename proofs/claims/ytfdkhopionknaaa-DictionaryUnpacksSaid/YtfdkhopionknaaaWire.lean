/- The numbers of layer 3 as bytes: the plain functions, and the walks of the program's and the reference's text. -/
import Derived.Test.YtfdkhopionknaaaBase
namespace Go.Proofs.Ytfdkhopionknaaa
open Go.RowKit

def putN (n : Nat) : List UInt8 := if h : n < 128 then [UInt8.ofNat n] else UInt8.ofNat (n % 128 + 128) :: putN (n / 128)
termination_by n
decreasing_by omega
def putI (n : Int) : List UInt8 := putN (if n < 0 ∨ n > 9007199254740991 then 0 else n.toNat)
theorem putN_len (j : Nat) : ∀ n, n < 128 ^ (j + 1) → (putN n).length ≤ j + 1 := by
  induction j with
  | zero => intro n h; rw [putN, dif_pos (by simpa using h)]; simp
  | succ j ih =>
    intro n h
    rw [putN]
    split
    · simp
    · have := ih (n / 128) (by rw [Nat.pow_succ] at h; omega)
      simp; omega
theorem putN_len8 {n : Nat} (h : n ≤ 9007199254740991) : (putN n).length ≤ 8 := putN_len 7 n (by omega)
theorem putN_pos (n : Nat) : 1 ≤ (putN n).length := by rw [putN]; split <;> simp

theorem B_of (n : Nat) (h : n < 256) : B (UInt8.ofNat n) = .int .u8 n := by
  unfold B; congr 1; simp; omega
theorem cell_new_B (w : World) (x : Int) (b : UInt8) (h : B b = .int .u8 x) : Rd (w.alloc (.cells #[.int .u8 x] 5)) (some ⟨w.heap.size, 0, none⟩) 1 1 ([b].map B) := by
  rw [List.map_cons, h]
  exact Rd.new w 5 #[.int .u8 x] 1 (by decide)
theorem bits_or128 (k : Nat) : bits BinOp.or IntKind.u8 ((k : Int) % 128) 128 = ((k % 128 + 128 : Nat) : Int) := by
  have h : ∀ r : Fin 128, bits BinOp.or IntKind.u8 (r.val : Int) 128 = ((r.val + 128 : Nat) : Int) := by decide
  exact h ⟨k % 128, Nat.mod_lt _ (by decide)⟩

theorem putN_big {k : Nat} (h : 128 ≤ k) : putN k = UInt8.ofNat (k % 128 + 128) :: putN (k / 128) := by rw [putN, dif_neg (by omega)]
theorem putN_small {k : Nat} (h : k < 128) : putN k = [UInt8.ofNat k] := by rw [putN, dif_pos h]

theorem step_enc {bs bs' : List UInt8} {k k0 : Nat} (h : 128 ≤ k) (he : Hid (bs' ++ putN k = bs ++ putN k0)) : Hid ((bs' ++ [UInt8.ofNat (k % 128 + 128)]) ++ putN (k / 128) = bs ++ putN k0) := by
  have := he.out
  rw [putN_big h] at this
  show _ = _
  rw [← this]; simp
theorem enc_len {bs bs' : List UInt8} {k k0 : Nat} (he : Hid (bs' ++ putN k = bs ++ putN k0)) (hk : k0 ≤ 9007199254740991) (hb : bs.length ≤ 1099511627776) : bs'.length ≤ 1099511627783 := by
  have := congrArg List.length he.out
  have h8 := putN_len8 hk
  have h1 := putN_pos k
  simp only [List.length_append] at this
  omega

set_option maxRecDepth 20000 in
set_option maxHeartbeats 1000000 in
theorem putInt_calls (base : Nat) (v : Value) (bs : List UInt8) (n : Int) (w : World)
    (hown : Own w base 5 1 v bs.length (bs.map B)) (hbase : base ≤ w.heap.size) (hlen : bs.length ≤ 1099511627776) :
    Calls Try.prog 68 #[v, .int .i64 n] w fun e w' => ∃ v', e = .returned v' ∧ Own w' base 5 1 v' (bs ++ putI n).length ((bs ++ putI n).map B) ∧ Grew w w' v v' := by
  obtain ⟨k0, hk0, hk1⟩ : ∃ k0 : Nat, (if n < 0 ∨ n > 9007199254740991 then (0 : Nat) else n.toNat) = k0 ∧ k0 ≤ 9007199254740991 := ⟨_, rfl, by split <;> omega⟩
  have hput : Hid (putI n = putN k0) := by show putI n = putN k0; unfold putI; rw [hk0]
  have HK0 := Lib.hid hk0
  clear hk0
  go_enter Try.func68, Try.ntmps68
  go_wp2_with fail
  all_goals
    go_loopw [0, 1] (fun u m w' => ∃ (bs' : List UInt8) (k : Nat), m = .int .i64 k ∧ k ≤ 9007199254740991 ∧ Hid (bs' ++ putN k = bs ++ putN k0) ∧
      Own w' base 5 1 u bs'.length (bs'.map B) ∧ Grew w w' v u) (fun _ m _ => (intOf m).toNat)
    case atStart =>
      have h := HK0.out
      refine ⟨bs, k0, ?_, hk1, rfl, hown, Grew.refl _ _⟩
      rw [← h]
      first
        | (rw [if_pos (by omega)]; rfl)
        | (rw [if_neg (by omega)]; congr 1; omega)
    case round =>
      obtain ⟨bs', k, rfl, hk, he, ho, hg⟩ := hrel
      have hsz := hg.size
      have hl := enc_len he hk1 hlen
      go_wp2_with (at_builtin; refine Stop.at ?_)
      · refine Stop.go ?_
        have hlt : (128 : Int) ≤ k := by assumption
        have h8 := B_of (k % 128 + 128) (by omega)
        refine step_append E24 rfl (.tmp 15) (.tmp 20) rfl base rfl (ho.alloc _) rfl (cell_new_B wr _ _ (by rw [h8, bits_or128])) rfl (oneCell_B _) (by simp; omega) (by decide) (by simp; omega) ?_
        intro v1 w1 h1 hg1
        have H1 := Lib.hid h1
        clear h1 h8
        go_wp2
        go_roundw
        case rel =>
          refine ⟨bs' ++ [UInt8.ofNat (k % 128 + 128)], k / 128, rfl, by omega, step_enc (by omega) he, ?_, (hg.alloc _).trans hg1⟩
          simpa using H1.out
        case measure => simp [intOf]; omega
      · refine Stop.go ?_
        have hlt : (k : Int) < 128 := by assumption
        have h8 := B_of k (by omega)
        refine step_append E24 rfl (.tmp 22) (.tmp 25) rfl base rfl (ho.alloc _) rfl (cell_new_B wr _ _ h8) rfl (oneCell_B _) (by simp; omega) (by decide) (by simp; omega) ?_
        intro v1 w1 h1 hg1
        have H1 := Lib.hid h1
        clear h1 h8
        go_wp2
        go_ret
        refine ⟨v1, rfl, ?_, (hg.alloc _).trans hg1⟩
        have h2 := he.out
        rw [putN_small (by omega)] at h2
        rw [hput.out, ← h2]
        simpa using H1.out
end Go.Proofs.Ytfdkhopionknaaa
