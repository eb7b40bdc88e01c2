/- Clone (28); begin (20); demand (21); become (22); end (23). -/
import Derived.Test.YtcalfnncjkaekaaFd
namespace Go.Proofs.Ytcalfnncjkaekaa
open Go.RowKit
set_option linter.unusedVariables false
set_option linter.unusedSimpArgs false
set_option maxRecDepth 20000

/-- A transition's block, without an error. -/
def TrAt (w : World) (k : Nat) (s : St) (A : Option Addr) (n c : Nat) : Prop := w.heap[k]? = some (.cells #[.int .i64 s.num, .int .i64 s.role, .int .i64 s.ep, .int .i64 s.ap, .slice A n c, .int .i64 s.src, .bool s.al, .bool s.co, .int .i64 0] 60 (0, 0))
theorem TrAt.cells {w : World} {k : Nat} {s : St} {A : Option Addr} {n c : Nat} (h : TrAt w k s A n c) :
    w.cell? ⟨k, 0, none⟩ = some (.int .i64 s.num) ∧ w.cell? ⟨k, 1, none⟩ = some (.int .i64 s.role) ∧ w.cell? ⟨k, 2, none⟩ = some (.int .i64 s.ep) ∧ w.cell? ⟨k, 3, none⟩ = some (.int .i64 s.ap) ∧ w.cell? ⟨k, 4, none⟩ = some (.slice A n c) ∧ w.cell? ⟨k, 5, none⟩ = some (.int .i64 s.src) ∧ w.cell? ⟨k, 6, none⟩ = some (.bool s.al) ∧ w.cell? ⟨k, 7, none⟩ = some (.bool s.co) ∧ w.cell? ⟨k, 8, none⟩ = some (.int .i64 0) :=
  ⟨cell_k h rfl, cell_k h rfl, cell_k h rfl, cell_k h rfl, cell_k h rfl, cell_k h rfl, cell_k h rfl, cell_k h rfl, cell_k h rfl⟩
theorem TrAt.below {w w' : World} {k : Nat} {s : St} {A : Option Addr} {n c : Nat} (h : TrAt w k s A n c) (b : Below w.heap.size w w') : TrAt w' k s A n c := (b.block k (lt_of_heap h)).trans h

theorem demand21 (k : Nat) (er : Int) (w : World) : Calls Try.prog 21 #[.pointer (some ⟨k, 0, none⟩), .bool true, .int .i64 er] w fun e w' => e = .returned (.tuple #[]) ∧ w' = w := by
  go_enter Try.func21, Try.ntmps21
  go_wp2
  go_returns
  exact ⟨rfl, rfl⟩
theorem end23 (k : Nat) (s : St) (A : Option Addr) (n c : Nat) (w : World) (h : TrAt w k s A n c) :
    Calls Try.prog 23 #[.pointer (some ⟨k, 0, none⟩)] w fun e w' => e = .returned (.tuple #[stV s (.slice A n c), .int .i64 0]) ∧ Below w.heap.size w w' := by
  obtain ⟨h0, h1, h2, h3, h4, h5, h6, h7, h8⟩ := h.cells
  have hlt := lt_of_heap h
  have hne : k ≠ w.heap.size := by omega
  clear h
  go_enter Try.func23, Try.ntmps23
  go_wp2
  go_returns
  exact ⟨rfl, by go_grown⟩
theorem become22 (k : Nat) (s : St) (A : Option Addr) (n c : Nat) (r e : Nat) (sr : Int) (w : World) (h : TrAt w k s A n c) :
    Calls Try.prog 22 #[.pointer (some ⟨k, 0, none⟩), .int .i64 r, .int .i64 e, .int .i64 sr] w fun en w' => en = .returned (.tuple #[]) ∧ TrAt w' k { s with role := r, ep := e, src := sr } A n c ∧ (∀ B, B ≤ k → Below B w w') ∧ w.grownBy w' (some k) := by
  obtain ⟨h0, h1, h2, h3, h4, h5, h6, h7, h8⟩ := h.cells
  have f1 := frozen_k (i := 1) h
  have f2 := frozen_k (i := 2) h
  have f5 := frozen_k (i := 5) h
  have hlt := lt_of_heap h
  have H := Lib.hid h
  clear h
  go_enter Try.func22, Try.ntmps22
  go_wp2
  go_end0
  refine ⟨rfl, ?_, ?_, ?_⟩
  · have g1 := set_facts H.out 1 (.int .i64 r)
    have g2 := set_facts g1 2 (.int .i64 e)
    exact set_facts g2 5 (.int .i64 sr)
  · intro B hB
    exact (((Below.refl _ _).setCell hB _).setCell hB _).setCell hB _
  · exact ⟨rfl, rfl, rfl, by simp, fun j _ hj => by
      have hj' : j ≠ k := fun e => hj (by rw [e])
      rw [Below.heap_setCell _ ⟨k, 5, none⟩ _ j hj', Below.heap_setCell _ ⟨k, 2, none⟩ _ j hj', Below.heap_setCell _ ⟨k, 1, none⟩ _ j hj']⟩
theorem fl_one (L : List Sp) : ∀ u ∈ fl L, u.oneCell' = true := by
  intro u hu
  obtain ⟨s, _, hs⟩ := List.mem_flatMap.1 hu
  simp only [Sp.cells, List.mem_cons, List.not_mem_nil, or_false] at hs
  rcases hs with rfl | rfl | rfl <;> rfl
theorem own_empty (w : World) : Own (w.alloc (.cells #[] 65)) w.heap.size 65 3 (.slice (some ⟨w.heap.size, 0, none⟩) 0 0) 0 [] :=
  Own.made w 65 #[] 0 0 (Nat.le_refl _) (Nat.le_refl _) (by decide) rfl
theorem clone28 (A : Option Addr) (c : Nat) (L : List Sp) (w : World) (hr : Rd w A L.length c (fl L)) (hl : L.length ≤ 100) (h0 : L = [] → A = none ∧ c = 0) :
    Calls Try.prog 28 #[.slice A L.length c] w fun e w' => ∃ A' c', e = .returned (.slice A' L.length c') ∧ Own w' w.heap.size 65 3 (.slice A' L.length c') L.length (fl L) ∧ (L = [] → A' = none ∧ c' = 0) ∧ Below w.heap.size w w' := by
  by_cases hn : L = []
  · obtain ⟨rfl, rfl⟩ := h0 hn
    subst hn
    have hs := Lib.run_eql_slice_nil (P := Try.prog) w 32 65 none 0 0 0 0 Try.underlying32
    clear hr
    go_enter Try.func28, Try.ntmps28
    go_wp2
    go_returns
    exact ⟨none, 0, rfl, Own.nil _ _ _ _, by simp, Below.refl _ _⟩
  · have hlen : 0 < L.length := List.length_pos_iff.2 hn
    obtain ⟨a, rfl⟩ := some_of hr hlen
    have hs := Lib.run_eql_slice_nil (P := Try.prog) w 32 65 (some a) L.length c 0 0 Try.underlying32
    have HR := Lib.hid hr
    clear hr h0
    go_enter Try.func28, Try.ntmps28
    go_wp2_with (at_builtin; refine Stop.at ?_)
    refine Stop.go ?_
    refine step_append E32 rfl (.tmp 5) (.tmp 6) rfl w.heap.size rfl (own_empty w) rfl (Rd.below HR.out ((Below.refl _ _).alloc (Nat.le_refl _) _)) (fl_length L) (fl_one L) (by omega) (by decide) (by simp) ?_
    intro v1 w1 h1 hg1
    have H1 := Lib.hid h1
    have HB := Lib.hid (((Below.refl w.heap.size w).alloc (Nat.le_refl _) (.cells #[] 65)).trans (hg1.below (own_empty w) (by simp)))
    clear h1 hg1
    go_wp2
    go_ret
    have h1 := H1.out
    rw [List.nil_append, Nat.zero_add] at h1
    obtain ⟨A1, c1, rfl, hrd⟩ := h1.rd
    exact ⟨A1, c1, rfl, h1, fun h => absurd h hn, HB.out⟩
theorem inf32s : (Try.prog.info? 32).map (·.size) = some 1 := by kernel_rfl
theorem inf34s : (Try.prog.info? 34).map (·.size) = some 8 := by kernel_rfl

set_option maxHeartbeats 2000000 in
theorem begin20 (s : St) (A : Option Addr) (c : Nat) (L : List Sp) (w : World) (hr : Rd w A L.length c (fl L)) (h0 : L = [] → A = none ∧ c = 0) (hg : Good s L) :
    Calls Try.prog 20 #[stV s (.slice A L.length c)] w fun e w' => ∃ T A' c', e = .returned (.pointer (some ⟨T, 0, none⟩)) ∧ w.heap.size ≤ T ∧ TrAt w' T s A' L.length c' ∧ Own w' w.heap.size 65 3 (.slice A' L.length c') L.length (fl L) ∧ (L = [] → A' = none ∧ c' = 0) ∧ (Value.slice A' L.length c').ownBlock ≠ some T ∧ Below w.heap.size w w' := by
  have HR := Lib.hid hr
  have HG := Lib.hid hg
  have H0 := Lib.hid h0
  clear hr hg h0
  unfold stV
  go_enter Try.func20, Try.ntmps20
  go_wp2_with fail
  refine (clone28 A c L _ (HR.out.below (below_new _ _)) HG.out.short H0.out).mono ?_
  rintro e w1 ⟨A1, c1, rfl, ho1, h01, hb1⟩
  have HB1 := Lib.hid (below_then (below_new _ _) hb1)
  have HO1 := Lib.hid (ho1.mono (by simp) : Own w1 w.heap.size 65 3 (.slice A1 L.length c1) L.length (fl L))
  have H01 := Lib.hid h01
  have HS1 : Hid (SiteAt w1 w.heap.size s A L.length c) := SiteAt.below (heap_alloc_new w _) hb1
  have HN1 := Lib.hid (fun k hk => (ho1.lt k hk).1 : ∀ k, (Value.slice A1 L.length c1).ownBlock = some k → (w.alloc (.cells #[.int .i64 s.num, .int .i64 s.role, .int .i64 s.ep, .int .i64 s.ap, .slice A L.length c, .int .i64 s.src, .bool s.al, .bool s.co] 34)).heap.size ≤ k)
  clear ho1 h01 hb1
  go_wp2_with ((with_reducible refine Stop.store 32 ?hst ?_); (case hst => rfl))
  refine Stop.go ?_
  refine step_store_one rfl 32 (.tmp 6) (.tmp 5) rfl rfl HS1.out (by simp) (v := .slice A1 L.length c1) rfl inf32s rfl rfl ?_
  intro w2 h2 g2 z2
  have HS2 : Hid (SiteAt w2 w.heap.size s A1 L.length c1) := h2
  have HO2 := Lib.hid (HO1.out.kept g2 (.inr (fun e => absurd (HN1.out _ e) (by simp))))
  have HB2 := Lib.hid ((HB1.out).grown g2 HB1.out.size (by rintro k e; cases e; exact Nat.le_refl _))
  have HZ2 := Lib.hid z2
  have hR2 : Rd w2 A1 L.length c1 (fl L) := by
    obtain ⟨A', c', e, h⟩ := HO2.out.rd
    cases e
    exact h
  have HR2 := Lib.hid hR2
  clear h2 g2 z2 hR2
  obtain ⟨x0, x1, x2, x3, x4, x5, x6, x7⟩ := HS2.out.cells
  simp only [Act.put]
  go_wp2_with fail
  go_region_held3 (fun wx => wx.cell? ⟨w.heap.size, 0, none⟩ = some (.int .i64 s.num) ∧ wx.cell? ⟨w.heap.size, 1, none⟩ = some (.int .i64 s.role) ∧ wx.cell? ⟨w.heap.size, 2, none⟩ = some (.int .i64 s.ep) ∧ wx.cell? ⟨w.heap.size, 3, none⟩ = some (.int .i64 s.ap) ∧ wx.cell? ⟨w.heap.size, 4, none⟩ = some (.slice A1 L.length c1) ∧ wx.cell? ⟨w.heap.size, 5, none⟩ = some (.int .i64 s.src) ∧ wx.cell? ⟨w.heap.size, 6, none⟩ = some (.bool s.al) ∧ wx.cell? ⟨w.heap.size, 7, none⟩ = some (.bool s.co)) (first | exact ⟨x0, x1, x2, x3, x4, x5, x6, x7⟩ | exact (SiteAt.below (w := w2.drew) HS2.out hb3).cells | exact (SiteAt.below (SiteAt.below (w := w2.drew) HS2.out hb3) (below_new _ _)).cells) (first | (go_at_call 25; refine (check25 s A1 c1 L w2.drew (HR2.out.kp (fun _ _ h => h)) HG.out).mono ?_; rintro e w3 ⟨rfl, hb3⟩))
  have HO3 := Lib.hid (HO2.out.drew.below hb3)
  have HB3 := Lib.hid (HB2.out.drew.trans (hb3.mono HB2.out.size))
  clear hb3 x0 x1 x2 x3 x4 x5 x6 x7
  go_wp2
  go_returns
  refine ⟨w3.heap.size, A1, c1, rfl, HB3.out.size, heap_alloc_new _ _, HO3.out.alloc _, H01.out, fun e => ?_, HB3.out.alloc HB3.out.size _⟩
  have := (HO3.out.lt _ e).2
  omega
end Go.Proofs.Ytcalfnncjkaekaa
