/- Fork (6); diverged (14). -/
import Derived.Test.YtcalfnncjkaekaaFi
namespace Go.Proofs.Ytcalfnncjkaekaa
open Go.RowKit
set_option linter.unusedVariables false
set_option linter.unusedSimpArgs false
set_option maxRecDepth 20000

set_option maxHeartbeats 2000000 in
theorem fork6 (A B : Option Addr) (c d : Nat) (L M : List Sp) (R E n m : Nat) (F : Bool) (w : World) (hr : Rd w A L.length c (fl L)) (hm : Rd w B M.length d (fl M)) (hg : gl 0 0 L) (hgm : gl 0 0 M) (hl : L.length ≤ 100) (hlm : M.length ≤ 100) (ha : anc (0, 0) L M = (R, E))
    (hn : (lastD L).t = n) (hm' : (lastD M).t = m) (hF : (decide (R < n) && decide (R < m)) = F) :
    Calls Try.prog 6 #[.slice A L.length c, .slice B M.length d] w fun e w' => e = .returned (.tuple #[.int .i64 R, .bool F]) ∧ Below w.heap.size w w' := by
  have HR := Lib.hid hr
  have HM := Lib.hid hm
  clear hr hm
  subst hF
  by_cases b1 : R < n <;> by_cases b2 : R < m
  all_goals
    simp only [b1, b2, decide_true, decide_false, Bool.and_true, Bool.and_false, Bool.true_and, Bool.false_and]
    go_enter Try.func6, Try.ntmps6
    go_wp2_with fail
    refine (end15 A c L n _ HR.out hg hl hn).mono ?_
    rintro e w1 ⟨rfl, hb1⟩
    have HB1 := Lib.hid hb1
    clear hb1
    go_wp2_with fail
    refine (end15 B d M m _ (HM.out.below HB1.out) hgm hlm hm').mono ?_
    rintro e w2 ⟨rfl, hb2⟩
    have HB2 := Lib.hid (below_then HB1.out hb2)
    clear hb2
    go_wp2_with fail
    refine (anc16 A B c d L M R E _ (HR.out.below HB2.out) (HM.out.below HB2.out) hg hgm hl hlm ha).mono ?_
    rintro e w3 ⟨rfl, hb3⟩
    have HB3 := Lib.hid (below_then HB2.out hb3)
    clear hb3
    go_wp2
    go_returns
    exact ⟨rfl, HB3.out⟩

set_option maxHeartbeats 4000000 in
theorem diverged14 (A B : Option Addr) (c d : Nat) (s s' : St) (L M : List Sp) (R E n m : Nat) (F : Bool) (w : World) (hr : Rd w A L.length c (fl L)) (hm : Rd w B M.length d (fl M)) (hg : gl 0 0 L) (hgm : gl 0 0 M) (hl : L.length ≤ 100) (hlm : M.length ≤ 100) (ha : anc (0, 0) L M = (R, E))
    (hn : (lastD L).t = n) (hm' : (lastD M).t = m) (hF : (decide (R < n) && decide (R < m)) = F) (hs : s.role = 1) (hs' : s'.role = 1) (he : s.ep ≠ s'.ep) :
    Calls Try.prog 14 #[stV s (.slice A L.length c), stV s' (.slice B M.length d)] w fun e w' => e = .returned (.bool F) ∧ Below w.heap.size w w' := by
  have HR := Lib.hid hr
  have HM := Lib.hid hm
  have HF := Lib.hid hF
  have HA := Lib.hid ha
  have HN := Lib.hid hn
  have HMM := Lib.hid hm'
  have b0 : ((s.ep : Int) == (s'.ep : Int)) = false := by simp; omega
  clear hr hm hF ha hn hm' he
  obtain ⟨num, role, ep, ap, src, al, co⟩ := s
  obtain ⟨num', role', ep', ap', src', al', co'⟩ := s'
  simp only at hs hs' b0
  subst hs
  subst hs'
  unfold stV
  cases F
  all_goals
    go_enter Try.func14, Try.ntmps14
    go_wp2_with fail
    refine (fork6 A B c d L M R E n m _ _ (HR.out.below ?_) (HM.out.below ?_) hg hgm hl hlm HA.out HN.out HMM.out HF.out).mono ?_
    · go_grown
    · go_grown
    rintro e w3 ⟨rfl, hb3⟩
    have HB3 : Hid (Below w.heap.size w w3) := by refine below_then ?_ hb3; go_grown
    have HS : SiteAt w3 w.heap.size ⟨num, 1, ep, ap, src, al, co⟩ A L.length c := SiteAt.below (alloc_old (heap_alloc_new w _)) hb3
    have HS' : SiteAt w3 (w.heap.size + 1) ⟨num', 1, ep', ap', src', al', co'⟩ B M.length d := SiteAt.below (heap_alloc2_new w _ _) hb3
    obtain ⟨x0, x1, x2, x3, x4, x5, x6, x7⟩ := HS.cells
    obtain ⟨y0, y1, y2, y3, y4, y5, y6, y7⟩ := HS'.cells
    clear hb3 HS HS'
    go_wp2
    go_returns
    exact ⟨rfl, HB3.out⟩
end Go.Proofs.Ytcalfnncjkaekaa
