/- Check (25): a site is correct. -/
import Derived.Test.YtcalfnncjkaekaaFc
import Derived.Deep.RegionHeld3
namespace Go.Proofs.Ytcalfnncjkaekaa
open Go.RowKit
set_option linter.unusedVariables false
set_option linter.unusedSimpArgs false
set_option maxRecDepth 20000

/-- A correct site. -/
structure Good (s : St) (L : List Sp) : Prop where
  num : s.num ≤ 3
  role : s.role ≤ 5
  ep : s.ep ≤ 1073741824
  ap : s.ap ≤ 1073741824
  zero : s.ep = 0 → s.role = 0
  lin : gl 0 0 L
  epoch : (lastD L).e ≤ s.ep
  last : (lastD L).t = s.ap
  short : L.length ≤ 100
  recv : s.role = 2 ∨ s.role = 4 → ∃ m : Nat, s.src = m ∧ m ≤ 3 ∧ m ≠ s.num
  none : ¬ (s.role = 2 ∨ s.role = 4) → s.src = -1
/-- A site's block. -/
def SiteAt (w : World) (k : Nat) (s : St) (A : Option Addr) (n c : Nat) : Prop := w.heap[k]? = some (.cells #[.int .i64 s.num, .int .i64 s.role, .int .i64 s.ep, .int .i64 s.ap, .slice A n c, .int .i64 s.src, .bool s.al, .bool s.co] 34 (0, 0))
theorem SiteAt.cells {w : World} {k : Nat} {s : St} {A : Option Addr} {n c : Nat} (h : SiteAt w k s A n c) :
    w.cell? ⟨k, 0, none⟩ = some (.int .i64 s.num) ∧ w.cell? ⟨k, 1, none⟩ = some (.int .i64 s.role) ∧ w.cell? ⟨k, 2, none⟩ = some (.int .i64 s.ep) ∧ w.cell? ⟨k, 3, none⟩ = some (.int .i64 s.ap) ∧ w.cell? ⟨k, 4, none⟩ = some (.slice A n c) ∧ w.cell? ⟨k, 5, none⟩ = some (.int .i64 s.src) ∧ w.cell? ⟨k, 6, none⟩ = some (.bool s.al) ∧ w.cell? ⟨k, 7, none⟩ = some (.bool s.co) :=
  ⟨cell_k h rfl, cell_k h rfl, cell_k h rfl, cell_k h rfl, cell_k h rfl, cell_k h rfl, cell_k h rfl, cell_k h rfl⟩
theorem SiteAt.below {w w' : World} {k : Nat} {s : St} {A : Option Addr} {n c : Nat} (h : SiteAt w k s A n c) (b : Below w.heap.size w w') : SiteAt w' k s A n c := (b.block k (lt_of_heap h)).trans h

theorem size3 (w : World) : (sizeOf 3).run Try.prog w = .ok 1 w := by
  obtain ⟨i, hi, _, hs, _⟩ := info_parts inf3
  simp [sizeOf, typeInfo, hi, hs]
theorem agg3 (w : World) : (isAgg 3).run Try.prog w = .ok false w := by
  unfold isAgg
  rw [Sem.run_bind, run_underlying Try.underlying3 w]
  rfl
theorem run_field65_0 (w : World) (x y z : Value) : (Instr.field 65 (.agg #[x, y, z]) 0).run Try.prog w = .ok x w := by
  simp [Instr.field, run_underlying Try.underlying65, size3, part, agg3, Result.andThen, asAgg]
theorem run_field65_2 (w : World) (x y z : Value) : (Instr.field 65 (.agg #[x, y, z]) 2).run Try.prog w = .ok z w := by
  simp [Instr.field, run_underlying Try.underlying65, size3, part, agg3, Result.andThen, asAgg]
attribute [local go_sem] run_field65_0 run_field65_2
theorem head31' (A : Option Addr) (c : Nat) (L : List Sp) (e f t : Nat) (w : World) (hr : Rd w A L.length c (fl L)) (hl : lastD L = ⟨e, f, t⟩) :
    Calls Try.prog 31 #[.slice A L.length c] w fun en w' => en = .returned (.agg #[.int .i64 e, .int .i64 f, .int .i64 t]) ∧ Below w.heap.size w w' := by
  have := head31 A c L w hr
  rw [hl] at this
  exact this
set_option maxHeartbeats 2000000 in
theorem check25 (s : St) (A : Option Addr) (c : Nat) (L : List Sp) (w : World) (hr : Rd w A L.length c (fl L)) (hg : Good s L) :
    Calls Try.prog 25 #[stV s (.slice A L.length c)] w fun e w' => e = .returned (.int .i64 0) ∧ Below w.heap.size w w' := by
  have HR := Lib.hid hr
  have HG := Lib.hid hg
  clear hr hg
  have hcase : (((s.ep : Int) == 0) = true ∧ ((s.role : Int) != 0) = false) ∨ ((s.ep : Int) == 0) = false := by
    by_cases h : s.ep = 0
    · have := HG.out.zero h; left; simp [h, this]
    · right; simp; omega
  obtain ⟨le, lf, hle⟩ : ∃ le lf, lastD L = ⟨le, lf, s.ap⟩ := ⟨(lastD L).e, (lastD L).f, by rw [← HG.out.last]⟩
  have hle2 : ¬ (s.ep < le) := by have := HG.out.epoch; rw [hle] at this; simp at this; omega
  have hle3 : decide ((s.ep : Int) < (le : Int)) = false := decide_eq_false (by omega)
  have HLE := Lib.hid hle
  clear hle
  unfold stV
  rcases hcase with ⟨z1, z2⟩ | z1
  all_goals
    go_enter Try.func25, Try.ntmps25
    go_wp2_with fail
    refine (in29 s.num 0 3 _ (by omega) HG.out.num).mono ?_
    rintro e w1 ⟨rfl, rfl⟩
    go_wp2_with fail
    refine (in29 s.role 0 5 _ (by omega) HG.out.role).mono ?_
    rintro e w1 ⟨rfl, rfl⟩
    go_wp2_with fail
    refine (in29 s.ep 0 1073741824 _ (Nat.zero_le _) HG.out.ep).mono ?_
    rintro e w1 ⟨rfl, rfl⟩
    go_wp2_with fail
    refine (in29 s.ap 0 1073741824 _ (Nat.zero_le _) HG.out.ap).mono ?_
    rintro e w1 ⟨rfl, rfl⟩
    go_wp2_with fail
    refine (correct30 A c L _ (HR.out.below (below_new _ _)) HG.out.lin HG.out.short).mono ?_
    rintro e w2 ⟨rfl, hb2⟩
    have HB2 := Lib.hid (below_then (below_new _ _) hb2)
    have hs2 : SiteAt w2 w.heap.size s A L.length c := SiteAt.below (heap_alloc_new w _) hb2
    have HS2 := Lib.hid hs2
    obtain ⟨x0, x1, x2, x3, x4, x5, x6, x7⟩ := hs2.cells
    have HR2 := Lib.hid (HR.out.below HB2.out)
    clear hb2 hs2
    go_wp2_with fail
    go_region_held3 (fun wx => wx.cell? ⟨w.heap.size, 4, none⟩ = some (.slice A L.length c) ∧ wx.cell? ⟨w.heap.size, 2, none⟩ = some (.int .i64 s.ep)) (first | exact ⟨x4, x2⟩ | exact ⟨y4, y2⟩) (first | (go_at_call 31; refine (head31' A c L le lf s.ap w2.drew (HR2.out.kp (fun _ _ h => h)) HLE.out).mono ?_; rintro e w3 ⟨rfl, hb3⟩; obtain ⟨y0, y1, y2, y3, y4, y5, y6, y7⟩ := (SiteAt.below (w := w2.drew) HS2.out hb3).cells; have HB3 := Lib.hid (below_then HB2.out.drew hb3); have HS3 := Lib.hid (SiteAt.below (w := w2.drew) HS2.out hb3); clear hb3))
    clear x0 x1 x2 x3 x4 x5 x6 x7
    have HR3 := Lib.hid (HR.out.below HB3.out)
    go_wp2_with fail
    go_region_held3 (fun wx => wx.cell? ⟨w.heap.size, 4, none⟩ = some (.slice A L.length c) ∧ wx.cell? ⟨w.heap.size, 3, none⟩ = some (.int .i64 s.ap)) (first | exact ⟨y4, y3⟩ | exact ⟨x4, x3⟩) (first | (go_at_call 31; refine (head31' A c L le lf s.ap w3.drew (HR3.out.kp (fun _ _ h => h)) HLE.out).mono ?_; rintro e w4 ⟨rfl, hb4⟩; obtain ⟨x0, x1, x2, x3, x4, x5, x6, x7⟩ := (SiteAt.below (w := w3.drew) HS3.out hb4).cells; have HB4 := Lib.hid (below_then HB3.out.drew hb4); have HS4 := Lib.hid (SiteAt.below (w := w3.drew) HS3.out hb4); clear hb4))
    clear y0 y1 y2 y3 y4 y5 y6 y7
    by_cases hrv : s.role = 2 ∨ s.role = 4
    · obtain ⟨m, hm, hm3, hmn⟩ := HG.out.recv hrv
      have hd : decide (s.role = 2 ∨ s.role = 4) = true := decide_eq_true hrv
      have HD := Lib.hid hd
      rw [hm] at x5
      clear hd hrv
      go_wp2_with fail
      refine (receives32 s.role w4).mono ?_
      rintro e w5 ⟨rfl, rfl⟩
      rw [HD.out]
      go_wp2_with fail
      refine (other33 { s with src := (m : Int) } A L.length c m w5 hm3 hmn).mono ?_
      rintro e w6 ⟨rfl, hb6⟩
      have HB6 := Lib.hid (below_then HB4.out hb6)
      obtain ⟨y0, y1, y2, y3, y4, y5, y6, y7⟩ := (SiteAt.below HS4.out hb6).cells
      rw [hm] at y5
      clear hb6
      go_wp2_with fail
      refine (receives32 s.role w6).mono ?_
      rintro e w5 ⟨rfl, rfl⟩
      rw [HD.out]
      go_wp2
      go_returns
      exact ⟨rfl, HB6.out⟩
    · have hm := HG.out.none hrv
      have hd : decide (s.role = 2 ∨ s.role = 4) = false := decide_eq_false hrv
      have HD := Lib.hid hd
      rw [hm] at x5
      clear hd hrv hm
      go_wp2_with fail
      refine (receives32 s.role w4).mono ?_
      rintro e w5 ⟨rfl, rfl⟩
      rw [HD.out]
      go_wp2_with fail
      refine (receives32 s.role w5).mono ?_
      rintro e w5 ⟨rfl, rfl⟩
      rw [HD.out]
      go_wp2
      go_returns
      exact ⟨rfl, HB4.out⟩
end Go.Proofs.Ytcalfnncjkaekaa
