/- Reading a number by the cursor of the program. -/
import Derived.Test.YtfdkhopionknaaaNum
namespace Go.Proofs.Ytfdkhopionknaaa
open Go.RowKit
theorem wraps_i64 (n : Int) (h₀ : 0 ≤ n) (h₁ : n < 2 ^ 62) : IntKind.i64.wrap n = n := by rw [IntKind.wrap_i64]; omega
theorem or_low_high (i acc p : Nat) (ha : acc < 2 ^ i) (hp : p % 2 ^ i = 0) (ha2 : acc < 2 ^ 62) (hp2 : p < 2 ^ 62) : bits .or .i64 (acc : Int) (p : Int) = (acc : Int) + p := by
  rw [(bits_nat .i64 62 (by decide) wraps_i64 acc p ha2 hp2).2, Nat.or_comm, nat_join i p acc hp ha]
  simp; omega
theorem and127 (y : Nat) (h : y < 256) : bits .and .u8 (y : Int) 127 = (y : Int) % 128 := bits_mask .u8 8 (by decide) wraps_u8 7 (by decide) y (by omega) (by omega)
theorem and128 (y : Nat) (h : y < 256) : (bits .and .u8 (y : Int) 128 != 0) = decide (128 ≤ y) := by
  have h : ∀ r : Fin 256, (bits .and .u8 (r.val : Int) 128 != 0) = decide (128 ≤ r.val) := by decide +kernel
  exact h ⟨y, by assumption⟩

/-- What the cursor's number leaves. -/
def CurRes (w : World) (b : Nat) (bs : List UInt8) (n k e : Nat) (e' : Ending) (w' : World) : Prop :=
  e' = .returned (.tuple #[.int .i64 n, .int .i64 e]) ∧
      ((e ≠ 0 ∧ w' = w) ∨ (e = 0 ∧ ∃ A' c' bs', bs' = bs.drop k ∧ w' = w.setCell ⟨b, 0, none⟩ (.slice A' bs'.length c') ∧ Bytes w A' c' bs'))
theorem cur_err {w : World} {b : Nat} {bs : List UInt8} {n k e m : Nat} (h : (n, k, e) = (0, 0, m)) (hm : m ≠ 0) :
    CurRes w b bs n k e (.returned (.tuple #[.int .i64 0, .int .i64 (m : Int)])) w := by
  cases h; exact ⟨rfl, .inl ⟨hm, rfl⟩⟩
theorem cur_ok {w : World} {b : Nat} {bs bs' : List UInt8} {n k e s j c' : Nat} {A' : Option Addr} (h : (n, k, e) = (s, j, 0)) (hbs : Hid (bs' = bs.drop j)) (hb : Bytes w A' c' bs') :
    CurRes w b bs n k e (.returned (.tuple #[.int .i64 (s : Int), .int .i64 0])) (w.setCell ⟨b, 0, none⟩ (.slice A' bs'.length c')) := by
  cases h; exact ⟨rfl, .inr ⟨rfl, A', c', bs', hbs.out, rfl, hb⟩⟩

set_option maxRecDepth 20000 in
set_option maxHeartbeats 1000000 in
theorem curnumber_calls (A : Option Addr) (c b : Nat) (bs : List UInt8) (w : World) (h : Bytes w A c bs) (hlen : bs.length ≤ 1099511627776) (n k e : Nat) (hn : numG bs 0 0 = (n, k, e))
    (hb : w.cell? ⟨b, 0, none⟩ = some (.slice A bs.length c)) (hf : w.frozen? ⟨b, 0, none⟩ = false) :
    Calls Try.prog 79 #[.pointer (some ⟨b, 0, none⟩)] w (CurRes w b bs n k e) := by
  have HN := Lib.hid hn
  clear hn
  go_enter Try.func79, Try.ntmps79
  go_wp2
  go_loop [4, 7] (fun n' i => ∃ (acc W j : Nat), n' = .int .i64 acc ∧ i = .int .i64 j ∧ Hid (W = 128 ^ j) ∧ j ≤ 8 ∧ acc < W ∧ W ≤ 72057594037927936 ∧ Hid (numG (bs.drop j) j acc = (n, k, e))) (fun _ i => 8 - (intOf i).toNat)
  case atStart => exact ⟨0, 1, 0, rfl, rfl, rfl, by omega, by omega, by omega, HN.out⟩
  case round =>
    obtain ⟨acc, W, j, rfl, rfl, hW, hj, ha, hWb, hN⟩ := hrel
    by_cases hj8 : j < 8
    · by_cases hjl : j < bs.length
      · obtain ⟨a, rfl⟩ := h.some_of hjl
        obtain ⟨x, hx, hc, hx2, hdr⟩ := byte_at h hjl
        have hst := numG_step hj8 (hdr ▸ hN.out)
        rw [← hW.out] at hst
        have hWb' : W ≤ 562949953421312 := by rw [hW.out]; exact Nat.pow_le_pow_right (by decide) (show j ≤ 7 by omega)
        obtain ⟨A', c', bs', hbs, hsl0, hb'⟩ := bslice_lo h (j + 1) (by omega)
        have hsl : ∀ w', (Instr.sliceAt 24 (.slice (some a) bs.length c) (some (.int .i64 ((j : Int) + 1))) none none).run Try.prog w' = .ok (.slice A' bs'.length c') w' := hsl0
        clear hsl0
        generalize x.toNat = y at *
        obtain ⟨p, hp, hpb⟩ : ∃ p : Nat, y % 128 * W = p ∧ p ≤ 127 * W := ⟨_, rfl, Nat.mul_le_mul_right _ (by omega)⟩
        rw [hp] at hst
        have hW2 : W = 2 ^ (7 * j) := by rw [hW.out, Nat.pow_mul]
        have hpi : ((y : Int) % 128) * 2 ^ (7 * j) = (p : Int) := by rw [← hp, hW2]; simp
        have hor := or_low_high (7 * j) acc p (by rw [← hW2]; exact ha) (by rw [← hp, hW2]; exact Nat.mul_mod_left _ _) (by omega) (by omega)
        have h127 := and127 y hx2
        have h128 := and128 y hx2
        have hjp : IntKind.i64.wrap ((j : Int) + 1) = ((j + 1 : Nat) : Int) := IntWalk.i64_in _ (by omega)
        have HP := Lib.hid hp
        have HS := Lib.hid hst
        have HW2 := Lib.hid hW2
        clear hx hdr hst hp hW2
        by_cases hy : 128 ≤ y
        · rw [decide_eq_true hy] at h128
          go_wp2
          refine ⟨⟨acc + p, W * 128, j + 1, rfl, rfl, ?_, by omega, by omega, by omega, HS.out.1 hy⟩, by simp [intOf]; omega⟩
          show W * 128 = 128 ^ (j + 1)
          rw [hW.out, Nat.pow_succ]
        · rw [decide_eq_false hy] at h128
          by_cases hz : y = 0 ∧ 0 < j
          · have hb1 : ((y : Int) == 0) = true := by simp [hz.1]
            have hz2 := hz.2
            have h3 := HS.out.2.1 (by omega) hz
            have H3 := Lib.hid h3
            clear hz h3
            go_wp2
            go_ret2
            exact cur_err H3.out (by decide)
          · by_cases hm : 9007199254740991 < acc + p
            · have h3 := HS.out.2.2.1 (by omega) hm
              have H3 := Lib.hid h3
              clear h3
              by_cases hy0 : y = 0
              · have hj0 : ¬ 0 < j := fun h => hz ⟨hy0, h⟩
                have hb1 : ((y : Int) == 0) = true := by simp [hy0]
                clear hy0 hz
                go_wp2
                go_ret2
                exact cur_err H3.out (by decide)
              · have hb1 : ((y : Int) == 0) = false := by simp; omega
                clear hy0 hz
                go_wp2
                go_ret2
                exact cur_err H3.out (by decide)
            · have h3 := HS.out.2.2.2 (by omega) hz hm
              have H3 := Lib.hid h3
              clear h3
              by_cases hy0 : y = 0
              · have hj0 : ¬ 0 < j := fun h => hz ⟨hy0, h⟩
                have hb1 : ((y : Int) == 0) = true := by simp [hy0]
                clear hy0 hz
                go_wp2
                go_ret2
                exact cur_ok H3.out hbs hb'
              · have hb1 : ((y : Int) == 0) = false := by simp; omega
                clear hy0 hz
                go_wp2
                go_ret2
                exact cur_ok H3.out hbs hb'
      · have h10 : (n, k, e) = (0, 0, 10) := by
          have := hN.out
          rw [List.drop_eq_nil_of_le (by omega), numG_nil _ _ hj8] at this
          exact this.symm
        have H10 := Lib.hid h10
        clear h10
        go_wp2
        go_ret2
        exact cur_err H10.out (by decide)
    · have hj8' : j = 8 := by omega
      have h10 : (n, k, e) = (0, 0, 3) := by
        have := hN.out
        rw [hj8', numG_end] at this
        exact this.symm
      have H10 := Lib.hid h10
      clear h10 hj8'
      go_wp2
      go_ret2
      exact cur_err H10.out (by decide)

set_option maxRecDepth 20000 in
set_option maxHeartbeats 1000000 in
theorem read_calls (A : Option Addr) (c : Nat) (bs : List UInt8) (w : World) (h : Bytes w A c bs) (hlen : bs.length ≤ 1099511627776) (f : Value) (hf : f = .func (.func 79) #[] #[]) :
    Calls Try.prog 78 #[.slice A bs.length c, f] w (IntRes w bs) := by
  subst hf
  obtain ⟨⟨n, k, er⟩, hn⟩ : ∃ r, numG bs 0 0 = r := ⟨_, rfl⟩
  have hle := numG_le bs 0 0 n k er hn
  have HN := Lib.hid hn
  have hle1 := hle.1
  have hle2 := hle.2.1
  have H1 := Lib.hid hle1
  have H2 := Lib.hid hle2
  clear hn hle hle1 hle2
  obtain ⟨o, ho⟩ : ∃ o : Obj, o = .cells #[.slice A bs.length c] 123 := ⟨_, rfl⟩
  have hcell : (w.alloc o).cell? ⟨w.heap.size, 0, none⟩ = some (.slice A bs.length c) := by
    rw [ho, cell_of_row _ _ 0 _ _ _ (heap_alloc_new w _)]; rfl
  have hfr : (w.alloc o).frozen? ⟨w.heap.size, 0, none⟩ = false := by rw [ho]; exact frozen_of_row _ _ 0 _ _ (heap_alloc_new w _)
  have hbelow : Below w.heap.size w (w.alloc o) := (Below.refl _ _).alloc (Nat.le_refl _) _
  have hsz : (w.alloc o).heap.size = w.heap.size + 1 := by simp
  rw [ho] at hcell hfr hbelow hsz
  clear ho o
  go_enter Try.func78, Try.ntmps78
  go_wp2_with fail
  generalize w.alloc (.cells #[.slice A bs.length c] 123) = w1 at *
  refine (curnumber_calls A c w.heap.size bs w1 (Bytes.below h hbelow) hlen n k er HN.out hcell hfr).mono ?_
  rintro e w2 ⟨rfl, ⟨he, rfl⟩ | ⟨rfl, A', c', bs', hbs, rfl, hb'⟩⟩
  · obtain ⟨rfl, rfl⟩ := H2.out he
    have hb : ((er : Int) != 0) = true := by simp; omega
    have HE := Lib.hid he
    clear he hcell hfr
    go_wp2
    go_ret3
    exact ⟨0, 0, er, _, HN.out, rfl, hbelow, fun h => absurd h HE.out, fun _ => rfl⟩
  · have hbs' := Lib.hid hbs
    have hl' : bs'.length ≤ 1099511627776 := by rw [hbs, List.length_drop]; omega
    have hbelow2 : Below w.heap.size w (w1.setCell ⟨w.heap.size, 0, none⟩ (.slice A' bs'.length c')) := hbelow.setCell (Nat.le_refl _) _
    have hcell2 : (w1.setCell ⟨w.heap.size, 0, none⟩ (.slice A' bs'.length c')).cell? ⟨w.heap.size, 0, none⟩ = some (.slice A' bs'.length c') := World.cell?_setCell_same _ _ _ hcell
    have hb2 : Bytes (w1.setCell ⟨w.heap.size, 0, none⟩ (.slice A' bs'.length c')) A' c' bs' := hb'.set hcell (fun b hb => by cases hb) _
    have hs2 := hbelow2.size
    generalize w1.setCell ⟨w.heap.size, 0, none⟩ (.slice A' bs'.length c') = w2 at *
    clear hcell hfr hbs hb'
    go_wp2_with fail
    refine (clone_calls _ _ _ _ hb2 hl').mono ?_
    rintro e w3 ⟨v3, rfl, ho3, hb3⟩
    have HO := Lib.hid ho3
    clear ho3
    go_wp2
    go_ret3
    refine ⟨n, k, 0, v3, HN.out, rfl, hbelow2.trans (hb3.mono hs2), fun _ => ?_, fun h => absurd rfl h⟩
    have := HO.out
    rw [hbs'.out, List.length_drop] at this
    exact this.mono hs2

set_option maxHeartbeats 400000 in
theorem Int_calls (A : Option Addr) (c : Nat) (bs : List UInt8) (w : World) (h : Bytes w A c bs) (hlen : bs.length ≤ 1099511627776) :
    Calls Try.prog 60 #[.slice A bs.length c] w (IntRes w bs) := by
  go_enter Try.func60, Try.ntmps60
  go_wp2_with fail
  refine (read_calls _ _ _ _ h hlen _ rfl).mono ?_
  rintro e w1 ⟨n, k, er, v', hn, rfl, hb, ho, hz⟩
  have HN := Lib.hid hn
  have HO := Lib.hid ho
  have HZ := Lib.hid hz
  clear hn ho hz
  go_wp2
  go_ret3
  exact ⟨n, k, er, v', HN.out, rfl, hb, HO.out, HZ.out⟩
end Go.Proofs.Ytfdkhopionknaaa
