/- The plain law: the ancestor of the two lineages; trySplitAwake (7). -/
import Derived.Test.YtcalfnncjkaekaaFp
import Derived.Test.YtcalfnncjkaekaaFq
import Derived.Test.YtcalfnncjkaekaaFr
namespace Go.Proofs.Ytcalfnncjkaekaa
open Go.RowKit
set_option linter.unusedVariables false
set_option linter.unusedSimpArgs false
set_option maxRecDepth 20000

theorem anc_lin (n m k : Nat) (h : m ≤ n) : ∃ E, anc (0, 0) (linA n) (linB m k) = (m, E) := by
  cases m with
  | zero =>
    cases k with
    | zero => cases n <;> exact ⟨0, by simp [linA, linB, anc]⟩
    | succ k => cases n <;> exact ⟨0, by simp [linA, linB, anc]⟩
  | succ m =>
    cases n with
    | zero => omega
    | succ n =>
      refine ⟨1, ?_⟩
      cases k with
      | zero =>
        simp only [linA, linB, anc, Nat.succ_ne_zero, if_false, if_true]
        split <;> simp <;> omega
      | succ k =>
        simp only [linA, linB, anc, Nat.succ_ne_zero, if_false, if_true, List.cons_append, List.nil_append]
        split <;> simp <;> omega
theorem diverged_two (g n m k : Nat) (A B : Option Addr) (c d : Nat) (w : World) (hm : m ≤ n) (hn : n ≤ 900) (hk : m + k ≤ 900) (ht : TwoAt w g (siteA n) A (linA n).length c (siteC (m + k)) B (linB m k).length d) (hr : Rd w A (linA n).length c (fl (linA n))) (hr' : Rd w B (linB m k).length d (fl (linB m k)))
    (F : Bool) (hF : (decide (m < n) && decide (0 < k)) = F) :
    Calls Try.prog 5 #[.slice (some ⟨g, 0, none⟩) 2 2] w fun e w' => ∃ v n, e = .returned (.tuple #[v, .int .i64 0]) ∧ Found w' w.heap.size F v n ∧ Below w.heap.size w w' := by
  obtain ⟨E, hE⟩ := anc_lin n m k hm
  refine diverged5 g (siteA n) (siteC (m + k)) A B c d (linA n) (linB m k) m E n (m + k) F w ht hr hr' (goodA n (by omega)) (goodC m k (by omega)) hE (linA_last n) (linB_last m k) ?_ rfl rfl (by simp [siteA, siteC])
  rw [← hF]
  congr 1
  simp
theorem fork_two (n m k : Nat) (A B : Option Addr) (c d : Nat) (w : World) (hm : m ≤ n) (hn : n ≤ 900) (hk : m + k ≤ 900) (hr : Rd w A (linA n).length c (fl (linA n))) (hr' : Rd w B (linB m k).length d (fl (linB m k)))
    (F : Bool) (hF : (decide (m < n) && decide (0 < k)) = F) :
    Calls Try.prog 6 #[.slice A (linA n).length c, .slice B (linB m k).length d] w fun e w' => e = .returned (.tuple #[.int .i64 m, .bool F]) ∧ Below w.heap.size w w' := by
  obtain ⟨E, hE⟩ := anc_lin n m k hm
  refine fork6 A B c d (linA n) (linB m k) m E n (m + k) F w hr hr' (linA_gl n (by omega)) (linB_gl m k (by omega)) (by have := linA_len n; omega) (by have := linB_len m k; omega) hE (linA_last n) (linB_last m k) ?_
  rw [← hF]
  congr 1
  simp

set_option maxHeartbeats 4000000 in
theorem awake7 (w : World) : Calls Try.prog 7 #[] w fun e w' => e = .returned (.bool true) ∧ Below w.heap.size w w' := by
  go_enter Try.func7, Try.ntmps7
  go_wp2_with fail
  refine (trySplit4 4 3 0 1 _ (by omega) (by omega) (by omega) (by omega)).mono ?_
  rintro e w1 ⟨g, A, c, B, d, rfl, ht1, hr1, _, hm1, _, hb1⟩
  have HT1 := Lib.hid ht1
  have HR1 := Lib.hid hr1
  have HM1 := Lib.hid hm1
  have HB1 := Lib.hid hb1
  clear ht1 hr1 hm1 hb1
  go_wp2_with fail
  refine (diverged_two g 4 3 1 A B c d _ (by omega) (by omega) (by omega) HT1.out HR1.out HM1.out true (by decide)).mono ?_
  rintro e w2 ⟨v, n, rfl, hf, hb2⟩
  obtain ⟨xs, ho, hx⟩ := hf
  rcases hx with ⟨h, _⟩ | ⟨_, rfl, x, hxb, rfl, hxc⟩
  · cases h
  rcases ho.2 with ⟨_, h⟩ | ⟨g2, o2, cap2, cur2, rfl, hb', hg2, _⟩
  · cases h
  have HO2 := Lib.hid ho.rd'
  have HX2 := Lib.hid hxc
  have HB2 := Lib.hid hb2
  clear ho hxc hb2 hg2 hb'
  go_wp2_with fail
  refine (resolve17 g A B c d w2 (HT1.out.below HB2.out) (HR1.out.below HB2.out) (HM1.out.below HB2.out)).mono ?_
  rintro e w3 ⟨v, f, rfl, ⟨ys, hv, hy⟩, hf, hb3⟩
  rcases hv.2 with ⟨_, h⟩ | ⟨g3, o3, cap3, cur3, rfl, hb', hg3, _⟩
  · cases h
  rcases hf.2 with ⟨_, h⟩ | ⟨g4, o4, cap4, cur4, rfl, hb'', hg4, _⟩
  · cases h
  have hcell : w3.cell? ⟨g3, o3 + 1, none⟩ = some (.int .i64 5) := by
    have := hv.rd'.row _ rfl 1 _ hy
    rwa [Addr.add_lit] at this
  have HC3 := Lib.hid hcell
  have HF3 := Lib.hid hf.rd'
  have HB3 := Lib.hid hb3
  clear hv hy hf hb3 hcell hg3 hg4 hb' hb''
  go_wp2_with fail
  have hba : Below w3.heap.size w3 ((w3.alloc (.cells #[.int .i64 0, .int .i64 1] 3)).alloc (.cells #[.slice (some ⟨w3.heap.size, 0, none⟩) 2 2] 46)) := by go_grown
  have hint : ((w3.alloc (.cells #[.int .i64 0, .int .i64 1] 3)).alloc (.cells #[.slice (some ⟨w3.heap.size, 0, none⟩) 2 2] 46)).heap[w3.heap.size]? = some (.cells #[.int .i64 0, .int .i64 1] 3 (0, 0)) := alloc_old (heap_alloc_new w3 _)
  have hnw := Rd.new (w3.alloc (.cells #[.int .i64 0, .int .i64 1] 3)) 46 #[.slice (some ⟨w3.heap.size, 0, none⟩) 2 2] 1 (by decide)
  rw [World.size_alloc] at hnw
  obtain ⟨w4, e4⟩ : ∃ W, ((w3.alloc (.cells #[.int .i64 0, .int .i64 1] 3)).alloc (.cells #[.slice (some ⟨w3.heap.size, 0, none⟩) 2 2] 46)) = W := ⟨_, rfl⟩
  rw [e4] at hba hint hnw ⊢
  clear e4
  have HB4 := Lib.hid hba
  refine (samePairs18 g2 o2 (w3.heap.size + 1) 0 cap2 1 x w3.heap.size w4 ((HO2.out.below HB3.out).below hba) hnw ((hba.block _ (Nat.lt_of_lt_of_le (lt_of_heap HX2.out) HB3.out.size)).trans ((HB3.out.block _ (lt_of_heap HX2.out)).trans HX2.out)) hint).mono ?_
  rintro e w5 ⟨rfl, hb5⟩
  have HB5 := Lib.hid (below_then hba hb5)
  clear hba hint hnw hb5
  go_wp2_with fail
  refine (sameInts19 g4 o4 w5.heap.size 0 cap4 1 _ ((HF3.out.below HB5.out).below (below_new _ _)) (Rd.new w5 3 #[.int .i64 0] 1 (by decide))).mono ?_
  rintro e w6 ⟨rfl, hb6⟩
  have HB6 : Hid (Below w5.heap.size w5 w6) := below_then (below_new _ _) hb6
  have HB36 := Lib.hid (below_then HB5.out HB6.out)
  have hc6 : w6.cell? ⟨g3, o3 + 1, none⟩ = some (.int .i64 5) := Kp.of_below HB36.out _ _ HC3.out
  clear hb6
  go_wp2
  go_returns
  exact ⟨rfl, below_then HB1.out (below_then HB2.out (below_then HB3.out HB36.out))⟩
end Go.Proofs.Ytcalfnncjkaekaa
