/- Layer 6: the bytes of sectors (61, 62), Pack (35). -/
import Derived.Test.YtfdkhopionknaaaDicE
import Derived.Test.YtfdkhopionknaaaDicX
import Derived.Test.YtfdkhopionknaaaEncP
import Derived.Test.YtfdkhopionknaaaLaw
namespace Go.Proofs.Ytfdkhopionknaaa
open Go.RowKit
set_option linter.unusedVariables false
set_option linter.unusedSimpArgs false

set_option maxRecDepth 20000 in
set_option maxHeartbeats 2000000 in
theorem flat_calls (A : Option Addr) (c : Nat) (xs : List Sec) (w : World) (h : Secs w A c xs) (hl : xs.length ≤ 65536) :
    Calls Try.prog 61 #[.slice A xs.length c] w (Fresh w (flat xs)) := by
  go_enter Try.func61, Try.ntmps61
  go_wp2
  go_loopw [8, 3] (fun i v wr => ∃ (k : Nat) (T : Option Addr) (tc : Nat) (out : List UInt8), i = .int .i64 k ∧ v = .slice T out.length tc ∧ k ≤ xs.length ∧ out.length ≤ 8 * k ∧ Hid (out = flat (xs.take k)) ∧ Hid (Own wr w.heap.size 5 1 (.slice T out.length tc) out.length (out.map B)) ∧ Hid (Below w.heap.size w wr)) (fun i v wr => xs.length - (intOf i).toNat)
  case atStart => exact ⟨0, none, 0, [], rfl, rfl, Nat.zero_le _, Nat.le_refl _, rfl, Own.nil _ _ _ _, Below.refl _ _⟩
  case round =>
    obtain ⟨k, T, tc, out, rfl, rfl, hk, hk1, hout, hown, hb⟩ := hrel
    by_cases hlt : k < xs.length
    · have d1 : (k : Int) < (xs.length : Int) := by omega
      obtain ⟨s, hs⟩ : ∃ s, xs[k]? = some s := ⟨_, List.getElem?_eq_getElem hlt⟩
      obtain ⟨a, rfl⟩ := h.some_of hlt
      have hat := (h.below hb.out).at hs
      have HSN := Lib.hid (flat_snoc hs)
      have HAT := Lib.hid hat
      clear hs hat
      go_wp2_with ((with_reducible refine Stop.load 38 ?hst ?_); (case hst => rfl))
      refine Stop.go ?_
      refine step_load_agg rfl 38 (.tmp 10) rfl rfl (cs := s.cells) (agg38 wr) (size38 wr) HAT.out ?_
      go_wp2_with ((with_reducible refine Stop.store 38 ?hst ?_); (case hst => rfl))
      refine Stop.go ?_
      refine step_store_row rfl 38 (.tmp 5) (.tmp 11) rfl rfl (cs := Sec.zero.cells.toArray) (e := 38) (heap_alloc_new wr _) (vs := s.cells.toArray) rfl inf38L rfl (oneCell_B _) ?_
      intro w6 hg6 hgr6 hz6
      have hb6 : Below wr.heap.size wr w6 := ((Below.refl _ _).alloc (Nat.le_refl _) _).grown hgr6 (by simp) (fun k hk => by cases hk; exact Nat.le_refl _)
      have HO6 := Lib.hid (hown.out.below hb6)
      have HB6 := Lib.hid (hb.out.trans (hb6.mono hb.out.size))
      have hrd : Rd w6 (some ⟨wr.heap.size, 0, none⟩) 8 8 (s.bytes.map B) := rd_block (n := 8) hg6 (by decide)
      have hsz6 : w.heap.size ≤ w6.heap.size := HB6.out.size
      clear hg6 hgr6 hz6 hb6
      go_wp2_with (at_builtin; refine Stop.at ?_)
      refine Stop.go ?_
      refine step_append E24 rfl (.tmp 12) (.tmp 13) rfl w.heap.size rfl HO6.out rfl hrd rfl (oneCell_B _) (by omega) (by decide) hsz6 ?_
      intro v7 w7 ho7 hg7
      obtain ⟨T7, tc7, rfl⟩ := own_slice ho7
      obtain ⟨out7, hout7⟩ : ∃ y, y = out ++ s.bytes := ⟨_, rfl⟩
      have hl7 : out7.length = out.length + 8 := by rw [hout7, List.length_append]; rfl
      rw [← List.map_append, ← hout7, ← hl7] at ho7
      have HS7 := Lib.hid (show out7 = flat (xs.take (k + 1)) by rw [hout7, hout.out, HSN.out])
      have HB7 := Lib.hid (HB6.out.trans (hg7.below HO6.out hsz6))
      have HO7 := Lib.hid ho7
      have hk7 : out7.length ≤ 8 * (k + 1) := by omega
      rw [← hl7]
      clear hg7 ho7 hout7 hl7 hrd
      go_wp2
      exact ⟨⟨k + 1, T7, tc7, out7, rfl, rfl, by omega, hk7, HS7, HO7, HB7⟩, by simp [intOf]; omega⟩
    · have d1 : ¬ (k : Int) < (xs.length : Int) := by omega
      have HX := Lib.hid (show out = flat xs by rw [hout.out, List.take_of_length_le (by omega)])
      go_wp2
      go_ret
      refine ⟨_, rfl, ?_, hb.out⟩
      rw [← HX.out]
      exact hown.out

def packD (dict : List UInt8) (xs : List Sec) : List UInt8 :=
  if (encodeD dict (flat xs)).length < (if (encode xs).length < (flat xs).length then encode xs else flat xs).length then 2 :: encodeD dict (flat xs)
  else if (encode xs).length < (flat xs).length then 1 :: encode xs else 0 :: flat xs
theorem agg98 (w : World) : (isAgg 98).run Try.prog w = .ok true w := by
  unfold isAgg
  rw [Sem.run_bind, run_underlying Try.underlying98 w]
  rfl
theorem inf98s : (Try.prog.info? 98).map (·.size) = some 3 := by kernel_rfl
theorem size98 (w : World) : (sizeOf 98).run Try.prog w = .ok 3 w := by
  have := inf98s
  cases h : Try.prog.info? 98 with
  | none => simp [h] at this
  | some i =>
    have h4 : i.size = 3 := by simpa [h] using this
    simp [sizeOf, typeInfo, h, h4]
theorem own_one (w : World) (b : UInt8) {base : Nat} (hb : base ≤ w.heap.size) : Own (w.alloc (.cells #[B b] 5)) base 5 1 (.slice (some ⟨w.heap.size, 0, none⟩) 1 1) 1 ([b].map B) := by
  have := Own.made w (base := base) (size := 1) 5 #[B b] 1 1 hb (Nat.le_refl _) (by decide) rfl
  simpa using this

set_option maxRecDepth 20000 in
set_option maxHeartbeats 8000000 in
theorem Pack_calls (A1 A2 : Option Addr) (c1 c2 : Nat) (dict : List UInt8) (xs : List Sec) (w : World) (h1 : Bytes w A1 c1 dict) (h2 : Secs w A2 c2 xs) (hd : dict.length ≤ 10000) (hx : xs.length ≤ 1000) :
    Calls Try.prog 35 #[.slice A1 dict.length c1, .slice A2 xs.length c2] w (Fresh w (packD dict xs)) := by
  have H1 := Lib.hid h1
  have H2 := Lib.hid h2
  have hfl : (flat xs).length ≤ 8000 := by rw [flat_length]; omega
  have hel := encode_len xs
  obtain ⟨f0, hf0⟩ : ∃ y, y = flat xs := ⟨_, rfl⟩
  obtain ⟨f1, hf1⟩ : ∃ y, y = encode xs := ⟨_, rfl⟩
  obtain ⟨f2, hf2⟩ : ∃ y, y = encodeD dict f0 := ⟨_, rfl⟩
  have hf2l : f2.length ≤ 16000 := by
    have := encD_len (dict ++ f0) dict.length [] (by simp)
    rw [hf2]
    unfold encodeD
    simp only [List.length_nil, List.length_append] at this
    rw [hf0] at this ⊢
    omega
  have HF0 := Lib.hid hf0.symm
  have HF1 := Lib.hid hf1.symm
  have HF2 := Lib.hid (show encodeD dict f0 = f2 from hf2.symm)
  rw [← hf0] at hfl
  rw [← hf1] at hel
  clear h1 h2 hf0 hf1 hf2
  go_enter Try.func35, Try.ntmps35
  go_wp2_with fail
  refine (flat_calls A2 c2 xs w H2.out (by omega)).mono ?_
  rw [HF0.out]
  intro e w1 hfr
  obtain ⟨X0, x0, rfl, ho1, hb1⟩ := Fresh_own hfr
  have HY1 := Lib.hid (own_bytes ho1)
  have HB1 := Lib.hid hb1
  clear hfr ho1 hb1
  go_wp2_with fail
  refine (Encode_calls A2 c2 xs w1 (H2.out.below HB1.out) (by omega)).mono ?_
  rw [HF1.out]
  intro e w2 hfr
  obtain ⟨X1, x1, rfl, ho2, hb2⟩ := Fresh_own hfr
  have HY2 := Lib.hid (own_bytes ho2)
  have HY12 := Lib.hid (HY1.out.below hb2)
  have HB2 := Lib.hid (HB1.out.trans (hb2.mono HB1.out.size))
  clear hfr ho2 hb2
  go_wp2_with fail
  refine (flat_calls A2 c2 xs w2 (H2.out.below HB2.out) (by omega)).mono ?_
  rw [HF0.out]
  intro e w3 hfr
  obtain ⟨X3, x3, rfl, ho3, hb3⟩ := Fresh_own hfr
  have HY3 := Lib.hid (own_bytes ho3)
  have HY13 := Lib.hid (HY12.out.below hb3)
  have HY23 := Lib.hid (HY2.out.below hb3)
  have HB3 := Lib.hid (HB2.out.trans (hb3.mono HB2.out.size))
  clear hfr ho3 hb3
  go_wp2_with fail
  refine (dEncode_calls A1 X3 c1 x3 dict f0 w3 (H1.out.below HB3.out) HY3.out (by omega)).mono ?_
  rw [HF2.out]
  intro e w4 hfr
  obtain ⟨X2, x2, rfl, ho4, hb4⟩ := Fresh_own hfr
  have HY34 := Lib.hid (own_bytes ho4)
  have HY14 := Lib.hid (HY13.out.below hb4)
  have HY24 := Lib.hid (HY23.out.below hb4)
  have HB4 := Lib.hid (HB3.out.trans (hb4.mono HB3.out.size))
  clear hfr ho4 hb4
  obtain ⟨w5, e5, hg5, hb5, hz5⟩ := alloc_facts w4 #[.slice none 0 0, .slice none 0 0, .slice none 0 0] 98
  go_wp2_with ((with_reducible refine Stop.store 98 ?hst ?_); (case hst => rfl))
  refine Stop.go ?_
  refine step_store_row rfl 98 (.tmp 5) (.tmp 17) rfl rfl hg5 (vs := #[.slice X0 f0.length x0, .slice X1 f1.length x1, .slice X2 f2.length x2]) rfl inf98s rfl (by simp [Value.oneCell']) ?_
  intro w6 hg6 hgr6 hz6
  have hb6 : Below w4.heap.size w4 w6 := hb5.grown hgr6 hb5.size (fun k hk => by cases hk; exact Nat.le_refl _)
  have HG6 := Lib.hid hg6
  have HB6 := Lib.hid (HB4.out.trans (hb6.mono HB4.out.size))
  have HY0 := Lib.hid (HY14.out.below hb6)
  have HY1' := Lib.hid (HY24.out.below hb6)
  have HY2' := Lib.hid (HY34.out.below hb6)
  have hrow : Row w6 ⟨w4.heap.size, 0, none⟩ [.slice X0 f0.length x0, .slice X1 f1.length x1, .slice X2 f2.length x2] := fun j u hj => by
    rw [Addr.add_lit, Nat.zero_add, cell_of_row _ _ j _ _ _ hg6]
    simpa using hj
  have y0 : w6.cell? ⟨w4.heap.size, 0, none⟩ = some (.slice X0 f0.length x0) := cell_k hg6 rfl
  have y1 : w6.cell? ⟨w4.heap.size, 1, none⟩ = some (.slice X1 f1.length x1) := cell_k hg6 rfl
  have y2 : w6.cell? ⟨w4.heap.size, 2, none⟩ = some (.slice X2 f2.length x2) := cell_k hg6 rfl
  clear hg5 hb5 hz5 hg6 hgr6 hz6 hb6 HY1 HY2 HY3 HY12 HY13 HY23 HY14 HY24 HY34 e5
  go_wp2_with ((with_reducible refine Stop.load 98 ?hst ?_); (case hst => rfl))
  refine Stop.go ?_
  refine step_load_agg rfl 98 (.tmp 5) rfl rfl (cs := [.slice X0 f0.length x0, .slice X1 f1.length x1, .slice X2 f2.length x2]) (agg98 w6) (size98 w6) hrow ?_
  clear hrow
  go_wp2
  go_loopw [6, 19] (fun mv i wr => ∃ k j : Nat, i = .int .i64 k ∧ mv = .int .i64 j ∧ Hid (wr = w6) ∧ ((k = 0 ∧ j = 0) ∨ (k = 1 ∧ j = 0) ∨ (k = 2 ∧ j = 1 ∧ f1.length < f0.length) ∨ (k = 2 ∧ j = 0 ∧ ¬ f1.length < f0.length) ∨ (k = 3 ∧ j = 2 ∧ f1.length < f0.length ∧ f2.length < f1.length) ∨ (k = 3 ∧ j = 2 ∧ ¬ f1.length < f0.length ∧ f2.length < f0.length) ∨
    (k = 3 ∧ j = 1 ∧ f1.length < f0.length ∧ ¬ f2.length < f1.length) ∨ (k = 3 ∧ j = 0 ∧ ¬ f1.length < f0.length ∧ ¬ f2.length < f0.length))) (fun mv i wr => 3 - (intOf i).toNat)
  case atStart => exact ⟨0, 0, rfl, rfl, rfl, .inl ⟨rfl, rfl⟩⟩
  case round =>
    obtain ⟨k, j, rfl, rfl, hw, hcs⟩ := hrel
    have hw' := hw.out
    subst hw'
    have hb := HB6
    rcases hcs with ⟨rfl, rfl⟩ | ⟨rfl, rfl⟩ | ⟨rfl, rfl, q⟩ | ⟨rfl, rfl, q⟩ | ⟨rfl, rfl, q, q2⟩ | ⟨rfl, rfl, q, q2⟩ | ⟨rfl, rfl, q, q2⟩ | ⟨rfl, rfl, q, q2⟩
    · have g : ¬ (f0.length : Int) < (f0.length : Int) := by omega
      go_wp2_with ((with_reducible refine Stop.index 98 ?hst ?_); (case hst => rfl))
      refine Stop.go ?_
      refine step_val rfl (run_index98 (x := .tmp 18) (y := .tmp 19) 0 rfl rfl rfl rfl) ?_
      go_wp2_with ((with_reducible refine Stop.index 98 ?hst ?_); (case hst => rfl))
      refine Stop.go ?_
      refine step_val rfl (run_iaddr98 (x := .tmp 5) (y := .tmp 25) 0 rfl rfl rfl (by decide)) ?_
      go_wp2
      exact ⟨⟨1, 0, rfl, rfl, Lib.hid trivial, .inr (.inl ⟨rfl, rfl⟩)⟩, by simp [intOf]⟩
    · by_cases q : f1.length < f0.length
      · have g : (f1.length : Int) < (f0.length : Int) := by omega
        go_wp2_with ((with_reducible refine Stop.index 98 ?hst ?_); (case hst => rfl))
        refine Stop.go ?_
        refine step_val rfl (run_index98 (x := .tmp 18) (y := .tmp 19) 1 rfl rfl rfl rfl) ?_
        go_wp2_with ((with_reducible refine Stop.index 98 ?hst ?_); (case hst => rfl))
        refine Stop.go ?_
        refine step_val rfl (run_iaddr98 (x := .tmp 5) (y := .tmp 25) 0 rfl rfl rfl (by decide)) ?_
        go_wp2
        exact ⟨⟨2, 1, rfl, rfl, Lib.hid trivial, .inr (.inr (.inl ⟨rfl, rfl, q⟩))⟩, by simp [intOf]⟩
      · have g : ¬ (f1.length : Int) < (f0.length : Int) := by omega
        go_wp2_with ((with_reducible refine Stop.index 98 ?hst ?_); (case hst => rfl))
        refine Stop.go ?_
        refine step_val rfl (run_index98 (x := .tmp 18) (y := .tmp 19) 1 rfl rfl rfl rfl) ?_
        go_wp2_with ((with_reducible refine Stop.index 98 ?hst ?_); (case hst => rfl))
        refine Stop.go ?_
        refine step_val rfl (run_iaddr98 (x := .tmp 5) (y := .tmp 25) 0 rfl rfl rfl (by decide)) ?_
        go_wp2
        exact ⟨⟨2, 0, rfl, rfl, Lib.hid trivial, .inr (.inr (.inr (.inl ⟨rfl, rfl, q⟩)))⟩, by simp [intOf]⟩
    · by_cases q2 : f2.length < f1.length
      · have g : (f2.length : Int) < (f1.length : Int) := by omega
        go_wp2_with ((with_reducible refine Stop.index 98 ?hst ?_); (case hst => rfl))
        refine Stop.go ?_
        refine step_val rfl (run_index98 (x := .tmp 18) (y := .tmp 19) 2 rfl rfl rfl rfl) ?_
        go_wp2_with ((with_reducible refine Stop.index 98 ?hst ?_); (case hst => rfl))
        refine Stop.go ?_
        refine step_val rfl (run_iaddr98 (x := .tmp 5) (y := .tmp 25) 1 rfl rfl rfl (by decide)) ?_
        go_wp2
        exact ⟨⟨3, 2, rfl, rfl, Lib.hid trivial, .inr (.inr (.inr (.inr (.inl ⟨rfl, rfl, q, q2⟩))))⟩, by simp [intOf]⟩
      · have g : ¬ (f2.length : Int) < (f1.length : Int) := by omega
        go_wp2_with ((with_reducible refine Stop.index 98 ?hst ?_); (case hst => rfl))
        refine Stop.go ?_
        refine step_val rfl (run_index98 (x := .tmp 18) (y := .tmp 19) 2 rfl rfl rfl rfl) ?_
        go_wp2_with ((with_reducible refine Stop.index 98 ?hst ?_); (case hst => rfl))
        refine Stop.go ?_
        refine step_val rfl (run_iaddr98 (x := .tmp 5) (y := .tmp 25) 1 rfl rfl rfl (by decide)) ?_
        go_wp2
        exact ⟨⟨3, 1, rfl, rfl, Lib.hid trivial, .inr (.inr (.inr (.inr (.inr (.inr (.inl ⟨rfl, rfl, q, q2⟩))))))⟩, by simp [intOf]⟩
    · by_cases q2 : f2.length < f0.length
      · have g : (f2.length : Int) < (f0.length : Int) := by omega
        go_wp2_with ((with_reducible refine Stop.index 98 ?hst ?_); (case hst => rfl))
        refine Stop.go ?_
        refine step_val rfl (run_index98 (x := .tmp 18) (y := .tmp 19) 2 rfl rfl rfl rfl) ?_
        go_wp2_with ((with_reducible refine Stop.index 98 ?hst ?_); (case hst => rfl))
        refine Stop.go ?_
        refine step_val rfl (run_iaddr98 (x := .tmp 5) (y := .tmp 25) 0 rfl rfl rfl (by decide)) ?_
        go_wp2
        exact ⟨⟨3, 2, rfl, rfl, Lib.hid trivial, .inr (.inr (.inr (.inr (.inr (.inl ⟨rfl, rfl, q, q2⟩)))))⟩, by simp [intOf]⟩
      · have g : ¬ (f2.length : Int) < (f0.length : Int) := by omega
        go_wp2_with ((with_reducible refine Stop.index 98 ?hst ?_); (case hst => rfl))
        refine Stop.go ?_
        refine step_val rfl (run_index98 (x := .tmp 18) (y := .tmp 19) 2 rfl rfl rfl rfl) ?_
        go_wp2_with ((with_reducible refine Stop.index 98 ?hst ?_); (case hst => rfl))
        refine Stop.go ?_
        refine step_val rfl (run_iaddr98 (x := .tmp 5) (y := .tmp 25) 0 rfl rfl rfl (by decide)) ?_
        go_wp2
        exact ⟨⟨3, 0, rfl, rfl, Lib.hid trivial, .inr (.inr (.inr (.inr (.inr (.inr (.inr ⟨rfl, rfl, q, q2⟩))))))⟩, by simp [intOf]⟩
    · have yA : (wr.alloc (.cells #[.int .u8 2] 5)).cell? ⟨w4.heap.size, 2, none⟩ = some (.slice X2 f2.length x2) := by
        have hx := ((Below.refl wr.heap.size wr).alloc (Nat.le_refl _) (.cells #[.int .u8 2] 5)).block w4.heap.size (lt_of_heap HG6.out)
        exact cell_k (hx.trans HG6.out) rfl
      go_wp2_with ((with_reducible refine Stop.index 98 ?hst ?_); (case hst => rfl))
      refine Stop.go ?_
      refine step_val rfl (run_iaddr98 (x := .tmp 5) (y := .tmp 35) 2 rfl rfl rfl (by decide)) ?_
      go_wp2_with (at_builtin; refine Stop.at ?_)
      refine Stop.go ?_
      refine step_append E24 rfl (.tmp 34) (.tmp 37) rfl w.heap.size (n := 1) (xs := [2].map B) rfl (own_one wr 2 hb.out.size) rfl (show Rd _ X2 f2.length x2 (f2.map B) from HY2'.out.below ((Below.refl _ _).alloc (Nat.le_refl _) _)) (by simp) (oneCell_B _) (by omega) (by decide) (by have := hb.out.size; simp; omega) ?_
      intro v9 w9 ho9 hg9
      obtain ⟨T9, tc9, rfl⟩ := own_slice ho9
      have hl9 : (2 :: f2).length = 1 + f2.length := by rw [List.length_cons]; omega
      have HO9 := Lib.hid (show Own w9 w.heap.size 5 1 (.slice T9 (1 + f2.length) tc9) (2 :: f2).length ((2 :: f2).map B) from by rw [hl9]; exact ho9)
      have HB9 := Lib.hid ((hb.out.trans ((Below.refl wr.heap.size wr).alloc (Nat.le_refl _) (.cells #[B 2] 5) |>.mono hb.out.size)).trans (hg9.below (own_one wr 2 hb.out.size) (by have := hb.out.size; simp; omega)))
      have HP := Lib.hid (show packD dict xs = 2 :: f2 from by unfold packD; rw [HF0.out, HF1.out, HF2.out]; simp [q, q2])
      clear ho9 hg9 hl9
      go_wp2
      go_ret
      rw [HP.out]
      exact ⟨_, rfl, HO9.out, HB9.out⟩
    · have yA : (wr.alloc (.cells #[.int .u8 2] 5)).cell? ⟨w4.heap.size, 2, none⟩ = some (.slice X2 f2.length x2) := by
        have hx := ((Below.refl wr.heap.size wr).alloc (Nat.le_refl _) (.cells #[.int .u8 2] 5)).block w4.heap.size (lt_of_heap HG6.out)
        exact cell_k (hx.trans HG6.out) rfl
      go_wp2_with ((with_reducible refine Stop.index 98 ?hst ?_); (case hst => rfl))
      refine Stop.go ?_
      refine step_val rfl (run_iaddr98 (x := .tmp 5) (y := .tmp 35) 2 rfl rfl rfl (by decide)) ?_
      go_wp2_with (at_builtin; refine Stop.at ?_)
      refine Stop.go ?_
      refine step_append E24 rfl (.tmp 34) (.tmp 37) rfl w.heap.size (n := 1) (xs := [2].map B) rfl (own_one wr 2 hb.out.size) rfl (show Rd _ X2 f2.length x2 (f2.map B) from HY2'.out.below ((Below.refl _ _).alloc (Nat.le_refl _) _)) (by simp) (oneCell_B _) (by omega) (by decide) (by have := hb.out.size; simp; omega) ?_
      intro v9 w9 ho9 hg9
      obtain ⟨T9, tc9, rfl⟩ := own_slice ho9
      have hl9 : (2 :: f2).length = 1 + f2.length := by rw [List.length_cons]; omega
      have HO9 := Lib.hid (show Own w9 w.heap.size 5 1 (.slice T9 (1 + f2.length) tc9) (2 :: f2).length ((2 :: f2).map B) from by rw [hl9]; exact ho9)
      have HB9 := Lib.hid ((hb.out.trans ((Below.refl wr.heap.size wr).alloc (Nat.le_refl _) (.cells #[B 2] 5) |>.mono hb.out.size)).trans (hg9.below (own_one wr 2 hb.out.size) (by have := hb.out.size; simp; omega)))
      have HP := Lib.hid (show packD dict xs = 2 :: f2 from by unfold packD; rw [HF0.out, HF1.out, HF2.out]; simp [q, q2])
      clear ho9 hg9 hl9
      go_wp2
      go_ret
      rw [HP.out]
      exact ⟨_, rfl, HO9.out, HB9.out⟩
    · have yA : (wr.alloc (.cells #[.int .u8 1] 5)).cell? ⟨w4.heap.size, 1, none⟩ = some (.slice X1 f1.length x1) := by
        have hx := ((Below.refl wr.heap.size wr).alloc (Nat.le_refl _) (.cells #[.int .u8 1] 5)).block w4.heap.size (lt_of_heap HG6.out)
        exact cell_k (hx.trans HG6.out) rfl
      go_wp2_with ((with_reducible refine Stop.index 98 ?hst ?_); (case hst => rfl))
      refine Stop.go ?_
      refine step_val rfl (run_iaddr98 (x := .tmp 5) (y := .tmp 35) 1 rfl rfl rfl (by decide)) ?_
      go_wp2_with (at_builtin; refine Stop.at ?_)
      refine Stop.go ?_
      refine step_append E24 rfl (.tmp 34) (.tmp 37) rfl w.heap.size (n := 1) (xs := [1].map B) rfl (own_one wr 1 hb.out.size) rfl (show Rd _ X1 f1.length x1 (f1.map B) from HY1'.out.below ((Below.refl _ _).alloc (Nat.le_refl _) _)) (by simp) (oneCell_B _) (by omega) (by decide) (by have := hb.out.size; simp; omega) ?_
      intro v9 w9 ho9 hg9
      obtain ⟨T9, tc9, rfl⟩ := own_slice ho9
      have hl9 : (1 :: f1).length = 1 + f1.length := by rw [List.length_cons]; omega
      have HO9 := Lib.hid (show Own w9 w.heap.size 5 1 (.slice T9 (1 + f1.length) tc9) (1 :: f1).length ((1 :: f1).map B) from by rw [hl9]; exact ho9)
      have HB9 := Lib.hid ((hb.out.trans ((Below.refl wr.heap.size wr).alloc (Nat.le_refl _) (.cells #[B 1] 5) |>.mono hb.out.size)).trans (hg9.below (own_one wr 1 hb.out.size) (by have := hb.out.size; simp; omega)))
      have HP := Lib.hid (show packD dict xs = 1 :: f1 from by unfold packD; rw [HF0.out, HF1.out, HF2.out]; simp [q, q2])
      clear ho9 hg9 hl9
      go_wp2
      go_ret
      rw [HP.out]
      exact ⟨_, rfl, HO9.out, HB9.out⟩
    · have yA : (wr.alloc (.cells #[.int .u8 0] 5)).cell? ⟨w4.heap.size, 0, none⟩ = some (.slice X0 f0.length x0) := by
        have hx := ((Below.refl wr.heap.size wr).alloc (Nat.le_refl _) (.cells #[.int .u8 0] 5)).block w4.heap.size (lt_of_heap HG6.out)
        exact cell_k (hx.trans HG6.out) rfl
      go_wp2_with ((with_reducible refine Stop.index 98 ?hst ?_); (case hst => rfl))
      refine Stop.go ?_
      refine step_val rfl (run_iaddr98 (x := .tmp 5) (y := .tmp 35) 0 rfl rfl rfl (by decide)) ?_
      go_wp2_with (at_builtin; refine Stop.at ?_)
      refine Stop.go ?_
      refine step_append E24 rfl (.tmp 34) (.tmp 37) rfl w.heap.size (n := 1) (xs := [0].map B) rfl (own_one wr 0 hb.out.size) rfl (show Rd _ X0 f0.length x0 (f0.map B) from HY0.out.below ((Below.refl _ _).alloc (Nat.le_refl _) _)) (by simp) (oneCell_B _) (by omega) (by decide) (by have := hb.out.size; simp; omega) ?_
      intro v9 w9 ho9 hg9
      obtain ⟨T9, tc9, rfl⟩ := own_slice ho9
      have hl9 : (0 :: f0).length = 1 + f0.length := by rw [List.length_cons]; omega
      have HO9 := Lib.hid (show Own w9 w.heap.size 5 1 (.slice T9 (1 + f0.length) tc9) (0 :: f0).length ((0 :: f0).map B) from by rw [hl9]; exact ho9)
      have HB9 := Lib.hid ((hb.out.trans ((Below.refl wr.heap.size wr).alloc (Nat.le_refl _) (.cells #[B 0] 5) |>.mono hb.out.size)).trans (hg9.below (own_one wr 0 hb.out.size) (by have := hb.out.size; simp; omega)))
      have HP := Lib.hid (show packD dict xs = 0 :: f0 from by unfold packD; rw [HF0.out, HF1.out, HF2.out]; simp [q, q2])
      clear ho9 hg9 hl9
      go_wp2
      go_ret
      rw [HP.out]
      exact ⟨_, rfl, HO9.out, HB9.out⟩
end Go.Proofs.Ytfdkhopionknaaa
