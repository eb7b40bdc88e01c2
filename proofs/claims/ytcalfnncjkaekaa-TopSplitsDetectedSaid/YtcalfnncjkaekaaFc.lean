/- The ancestor of two lineages (16); the end of a lineage (15); a lineage is correct (30). -/
import Derived.Test.YtcalfnncjkaekaaFb
namespace Go.Proofs.Ytcalfnncjkaekaa
open Go.RowKit
set_option linter.unusedVariables false
set_option linter.unusedSimpArgs false
set_option maxRecDepth 20000

/-- The ancestor: cycle and epoch. -/
def anc : Nat × Nat → List Sp → List Sp → Nat × Nat
  | r, x :: xs, y :: ys => if x.e = y.e then (if x.t = y.t then anc (x.t, x.e) xs ys else (min x.t y.t, x.e)) else r
  | r, _, _ => r
theorem drop_get {L : List Sp} {k : Nat} {s : Sp} (hs : L[k]? = some s) : L.drop k = s :: L.drop (k + 1) := by
  obtain ⟨hk, he⟩ := List.getElem?_eq_some_iff.1 hs
  rw [List.drop_eq_getElem_cons hk, he]

set_option maxHeartbeats 1000000 in
theorem anc16 (A B : Option Addr) (c d : Nat) (L M : List Sp) (R E : Nat) (w : World) (hr : Rd w A L.length c (fl L)) (hm : Rd w B M.length d (fl M)) (hg : gl 0 0 L) (hgm : gl 0 0 M) (hl : L.length ≤ 100) (hlm : M.length ≤ 100) (ha : anc (0, 0) L M = (R, E)) :
    Calls Try.prog 16 #[.slice A L.length c, .slice B M.length d] w fun e w' => e = .returned (.tuple #[.int .i64 R, .int .i64 E]) ∧ Below w.heap.size w w' := by
  have HR := Lib.hid hr
  have HM := Lib.hid hm
  have HG := Lib.hid hg
  have HGM := Lib.hid hgm
  have HA := Lib.hid ha
  clear hr hm hg hgm ha
  go_enter Try.func16, Try.ntmps16
  go_wp2_with fail
  refine (correct27 A c L w HR.out HG.out hl).mono ?_
  rintro e w1 ⟨rfl, hb1⟩
  have HB1 := Lib.hid hb1
  clear hb1
  go_wp2_with fail
  refine (correct27 B d M w1 (HM.out.below HB1.out) HGM.out hlm).mono ?_
  rintro e w2 ⟨rfl, hb2⟩
  have HB2 := Lib.hid (below_then HB1.out hb2)
  have HRr := Lib.hid (HR.out.below HB2.out)
  have HMm := Lib.hid (HM.out.below HB2.out)
  clear hb2 HR HM
  go_wp2_with fail
  go_loopw [8, 6, 7] (fun n cy ep w' => ∃ (k C E' q : Nat), n = .int .i64 k ∧ cy = .int .i64 C ∧ ep = .int .i64 E' ∧ k ≤ L.length ∧ k ≤ M.length ∧ Hid (anc (C, E') (L.drop k) (M.drop k) = (R, E)) ∧ w' = w2.drewN q) (fun n cy ep w' => L.length - (intOf n).toNat)
  case atStart =>
    exact ⟨0, 0, 0, 0, rfl, rfl, rfl, by omega, by omega, HA.out, rfl⟩
  case round =>
    obtain ⟨k, C, E', q, rfl, rfl, rfl, hk, hk2, hinv, rfl⟩ := hrel
    obtain ⟨N, hN, hN1, hN2, hN3⟩ : ∃ N : Nat, (if M.length < L.length then (M.length : Int) else (L.length : Int)) = (N : Int) ∧ N ≤ L.length ∧ N ≤ M.length ∧ (N = L.length ∨ N = M.length) := by
      by_cases h : M.length < L.length
      · exact ⟨M.length, by rw [if_pos h], by omega, by omega, .inr rfl⟩
      · exact ⟨L.length, by rw [if_neg h], by omega, by omega, .inl rfl⟩
    by_cases hlt : k < L.length ∧ k < M.length
    · obtain ⟨s, hs⟩ : ∃ s, L[k]? = some s := ⟨_, List.getElem?_eq_getElem hlt.1⟩
      obtain ⟨t, ht⟩ : ∃ s, M[k]? = some s := ⟨_, List.getElem?_eq_getElem hlt.2⟩
      obtain ⟨a, rfl⟩ := some_of HRr.out hlt.1
      obtain ⟨b, rfl⟩ := some_of HMm.out hlt.2
      obtain ⟨a0, a1, a2⟩ := sp_cells HRr.out hs
      obtain ⟨b0, b1, b2⟩ := sp_cells HMm.out ht
      have i1 := hlt.1
      have i2 := hlt.2
      have hkN : k < N := by omega
      clear hN3
      have hst := hinv.out
      rw [drop_get hs, drop_get ht] at hst
      unfold anc at hst
      have HST := Lib.hid hst
      clear hst hs ht hlt a1 b1 hinv
      go_wp2_with fail
      refine wp_region_quiet_lit (by kernel_rfl) (by kernel_rfl) ?_
      repeat (go_big_quiet_step (fail))
      refine wpQuiet_nil ?_
      intro _ hw'
      obtain ⟨nq, hw''⟩ := hw'
      subst hw''
      by_cases he : s.e = t.e
      · have be : ((s.e : Int) == (t.e : Int)) = true := by simp [he]
        obtain ⟨m, hm, hmm⟩ : ∃ m : Nat, (if t.t < s.t then (t.t : Int) else (s.t : Int)) = (m : Int) ∧ m = min s.t t.t := by
          by_cases h : t.t < s.t
          · exact ⟨t.t, by rw [if_pos h], by omega⟩
          · exact ⟨s.t, by rw [if_neg h], by omega⟩
        have HMM := Lib.hid hmm
        have HE := Lib.hid he
        rw [be]
        clear hmm he be
        go_wp2_with fail
        refine wp_region_quiet_lit (by kernel_rfl) (by kernel_rfl) ?_
        repeat (go_big_quiet_step (fail))
        refine wpQuiet_nil ?_
        intro _ hw'
        obtain ⟨nq2, hw''⟩ := hw'
        subst hw''
        go_wp2_with fail
        refine wp_region_quiet_lit (by kernel_rfl) (by kernel_rfl) ?_
        repeat (go_big_quiet_step (fail))
        refine wpQuiet_nil ?_
        intro _ hw'
        obtain ⟨nq3, hw''⟩ := hw'
        subst hw''
        have hst := HST.out
        rw [if_pos HE.out] at hst
        by_cases ht : s.t = t.t
        · have bt : ((s.t : Int) != (t.t : Int)) = false := by simp [ht]
          rw [if_pos ht] at hst
          have hms : m = s.t := by have := HMM.out; omega
          have HK := Lib.hid hst
          have HMS := Lib.hid hms
          have v2 : wrap64 ((k : Int) + 1) = (k : Int) + 1 := by unfold wrap64; omega
          rw [bt]
          clear hst ht hms bt hN
          go_wp2
          refine ⟨⟨k + 1, m, s.e, q + nq + nq2 + nq3, rfl, rfl, rfl, by omega, by omega, ?_, ?_⟩, by simp [intOf]; omega⟩
          · have := HK.out
            rw [← HMS.out] at this
            exact this
          · first | rfl | (rw [World.drewN_drewN, World.drewN_drewN, World.drewN_drewN]) | (simp only [World.drewN_drewN])
        · have bt : ((s.t : Int) != (t.t : Int)) = true := by simp; omega
          rw [if_neg ht, ← HMM.out] at hst
          obtain ⟨rfl, rfl⟩ : m = R ∧ s.e = E := ⟨congrArg Prod.fst hst, congrArg Prod.snd hst⟩
          rw [bt]
          clear hst ht bt hN
          go_wp2
          go_returns
          exact ⟨rfl, below_drews (below_drews (below_drews (below_drews HB2.out q) nq) nq2) nq3⟩
      · have be : ((s.e : Int) == (t.e : Int)) = false := by simp [he]; omega
        rw [be]
        have hst := HST.out
        rw [if_neg he] at hst
        cases hst
        clear he be
        go_wp2
        go_returns
        exact ⟨rfl, below_drews (below_drews HB2.out q) nq⟩
    · have hkN : ¬ k < N := by omega
      have hend : C = R ∧ E' = E := by
        have h1 : L.drop k = [] ∨ M.drop k = [] := by
          rcases Nat.lt_or_ge k L.length with h | h
          · exact .inr (List.drop_eq_nil_of_le (by omega))
          · exact .inl (List.drop_eq_nil_of_le (by omega))
        have h2 := hinv.out
        rcases h1 with h1 | h1
        · rw [h1] at h2; unfold anc at h2; exact ⟨congrArg Prod.fst h2, congrArg Prod.snd h2⟩
        · rw [h1] at h2
          have : anc (C, E') (L.drop k) [] = (C, E') := by cases L.drop k <;> rfl
          rw [this] at h2; exact ⟨congrArg Prod.fst h2, congrArg Prod.snd h2⟩
      obtain ⟨rfl, rfl⟩ := hend
      clear hinv hN3
      go_wp2
      refine wp_region_quiet_lit (by kernel_rfl) (by kernel_rfl) ?_
      repeat (go_big_quiet_step (fail))
      refine wpQuiet_nil ?_
      intro _ hw'
      obtain ⟨nq, hw''⟩ := hw'
      subst hw''
      go_wp2
      go_returns
      exact ⟨rfl, below_drews (below_drews HB2.out q) nq⟩

theorem anc_self (L : List Sp) : ∀ r : Nat × Nat, anc r L L = (match L.getLast? with | none => r | some s => (s.t, s.e)) := by
  induction L with
  | nil => intro r; rfl
  | cons x L ih =>
    intro r
    unfold anc
    rw [if_pos rfl, if_pos rfl, ih]
    cases L with
    | nil => rfl
    | cons y L =>
      rw [List.getLast?_cons_cons]
      cases h : (y :: L).getLast? with
      | none => simp at h
      | some s => rfl
theorem anc_last (L : List Sp) : anc (0, 0) L L = ((lastD L).t, (lastD L).e) := by
  rw [anc_self]
  unfold lastD
  cases L.getLast? <;> rfl
theorem gl_last (L : List Sp) : ∀ e t, gl e t L → L ≠ [] → t + 1 ≤ (lastD L).t ∧ (lastD L).t ≤ 1073741824 := by
  induction L with
  | nil => intro e t _ h; exact absurd rfl h
  | cons x L ih =>
    intro e t h _
    obtain ⟨g1, g2, g3, g4, g5, g6⟩ := h
    cases L with
    | nil => exact ⟨by show t + 1 ≤ x.t; omega, g3⟩
    | cons y L =>
      have := ih x.e x.t g6 (by simp)
      have hl : lastD (x :: y :: L) = lastD (y :: L) := by unfold lastD; simp
      rw [hl]
      omega
set_option maxHeartbeats 1000000 in
theorem end15 (A : Option Addr) (c : Nat) (L : List Sp) (R : Nat) (w : World) (hr : Rd w A L.length c (fl L)) (hg : gl 0 0 L) (hl : L.length ≤ 100) (ha : (lastD L).t = R) :
    Calls Try.prog 15 #[.slice A L.length c] w fun e w' => e = .returned (.tuple #[.int .i64 R, .bool true]) ∧ Below w.heap.size w w' := by
  have hc := anc16 A A c c L L R (lastD L).e w hr hr hg hg hl hl (by rw [anc_last, ha])
  by_cases h0 : L = []
  · subst h0
    have hR : R = 0 := by rw [← ha]; rfl
    subst hR
    clear ha
    go_enter Try.func15, Try.ntmps15
    go_wp2_with fail
    refine hc.mono ?_
    rintro e w1 ⟨rfl, hb1⟩
    go_wp2
    go_returns
    exact ⟨rfl, hb1⟩
  · have hR : 1 ≤ R := by rw [← ha]; exact (gl_last L 0 0 hg h0).1
    have hn : L.length ≠ 0 := fun h => h0 (List.eq_nil_of_length_eq_zero h)
    have b0 : ((L.length : Int) == 0) = false := by simp; omega
    have b1 : 0 < R := by omega
    clear h0 ha hg
    go_enter Try.func15, Try.ntmps15
    go_wp2_with fail
    refine hc.mono ?_
    rintro e w1 ⟨rfl, hb1⟩
    go_wp2
    go_returns
    exact ⟨rfl, hb1⟩
set_option maxHeartbeats 1000000 in
theorem correct30 (A : Option Addr) (c : Nat) (L : List Sp) (w : World) (hr : Rd w A L.length c (fl L)) (hg : gl 0 0 L) (hl : L.length ≤ 100) :
    Calls Try.prog 30 #[.slice A L.length c] w fun e w' => e = .returned (.bool true) ∧ Below w.heap.size w w' := by
  have hc := anc16 A A c c L L (lastD L).t (lastD L).e w hr hr hg hg hl hl (anc_last L)
  by_cases h0 : L = []
  · subst h0
    go_enter Try.func30, Try.ntmps30
    go_wp2
    go_returns
    exact ⟨rfl, Below.refl _ _⟩
  · obtain ⟨hR, hR2⟩ := gl_last L 0 0 hg h0
    have hn : L.length ≠ 0 := fun h => h0 (List.eq_nil_of_length_eq_zero h)
    obtain ⟨N, hN⟩ : ∃ N, L.length = N + 1 := ⟨L.length - 1, by omega⟩
    obtain ⟨s, hs⟩ : ∃ s, L[N]? = some s := ⟨_, List.getElem?_eq_getElem (by omega)⟩
    have hls : lastD L = s := by
      unfold lastD; rw [List.getLast?_eq_getElem?, show L.length - 1 = N by omega, hs]; rfl
    rw [hls] at hR hc
    obtain ⟨a, rfl⟩ := some_of hr (show N < L.length by omega)
    have HR := Lib.hid hr
    have HS := Lib.hid hs
    have b0 : ((N : Int) + 1 == 0) = false := by simp; omega
    have b1 : 0 < s.t := by omega
    have hN100 : N ≤ 99 := by omega
    have v1 : wrap64 (N : Int) = (N : Int) := by unfold wrap64; omega
    rw [hN] at hc ⊢
    clear h0 hg hs hr hn hl hls hR2 hN
    go_enter Try.func30, Try.ntmps30
    go_wp2_with fail
    refine hc.mono ?_
    rintro e w1 ⟨rfl, hb1⟩
    obtain ⟨c0, c1, c2⟩ := sp_cells (HR.out.below hb1) HS.out
    obtain ⟨l1, l2⟩ := lt_of_cells c0
    go_wp2
    go_returns
    exact ⟨rfl, hb1.alloc hb1.size _⟩
end Go.Proofs.Ytcalfnncjkaekaa
