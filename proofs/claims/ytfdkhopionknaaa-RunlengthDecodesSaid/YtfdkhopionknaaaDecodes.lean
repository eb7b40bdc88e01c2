/- RunlengthDecodes: the walk. -/
import Derived.Test.YtfdkhopionknaaaAwake
import Derived.Test.YtfdkhopionknaaaFacts
import Derived.Test.YtfdkhopionknaaaDecR
namespace Go.Proofs.Ytfdkhopionknaaa
open Go.RowKit
set_option linter.unusedVariables false
set_option linter.unusedSimpArgs false

set_option maxRecDepth 20000 in
set_option maxHeartbeats 4000000 in
theorem decodes_calls (A : Option Addr) (c : Nat) (bs : List UInt8) (most : Int) (w : World) (h : Bytes w A c bs) :
    Calls Try.prog 4 #[.slice A bs.length c, .int .i64 most] w fun e w' => e = .returned (.bool true) ∧ Below w.heap.size w w' := by
  by_cases hbig : 2000 < bs.length
  · have b1 : (2000 : Int) < (bs.length : Int) := by omega
    go_enter Try.func4, Try.ntmps4
    go_wp2_with fail
    refine (awake_calls w).mono ?_
    rintro e w1 ⟨rfl, hb1⟩
    go_wp2
    go_ret
    exact ⟨rfl, hb1⟩
  · have b1 : ¬ (2000 : Int) < (bs.length : Int) := by omega
    obtain ⟨⟨er, l⟩, hd⟩ : ∃ r, decode bs most = r := ⟨_, rfl⟩
    obtain ⟨hd1, hd2⟩ := decode_facts hd
    have hlb : l.length ≤ 4096 := by
      by_cases he : er = 0
      · have := (hd2 he).2; have := mostN_le most; omega
      · rw [hd1 he]; simp
    have HD := Lib.hid hd
    have HH := Lib.hid h
    clear h hd hd1 hd2
    go_enter Try.func4, Try.ntmps4
    go_wp2_with fail
    refine (decode_lit A c bs most w (er, l) HD.out HH.out (by omega)).mono ?_
    rintro e w1 ⟨A1, c1, rfl, hs1, hb1⟩
    go_wp2_with fail
    refine (refDecode_calls A c bs most w1 (HH.out.below hb1.out) (by omega)).mono ?_
    rintro e w2 ⟨v2, rfl, ho2, hb2⟩
    rw [HD.out] at ho2 ⊢
    obtain ⟨A2, c2, rfl, hr2⟩ := ho2.rd
    have HS1 := Lib.hid (hs1.out.below hb2)
    have HS2 := Lib.hid (show Secs w2 A2 c2 l from hr2)
    have HB2 := Lib.hid (below_then hb1.out hb2)
    clear ho2 hr2 hb2
    go_wp2_with fail
    refine (sameSecs_calls A1 A2 c1 c2 l l w2 HS1.out HS2.out (by omega) (by omega)).mono ?_
    rintro e w3 ⟨rfl, q, rfl⟩
    rw [decide_eq_true rfl]
    have HB3 := Lib.hid (below_drews HB2.out q)
    go_wp2_with fail
    refine (awake_calls _).mono ?_
    rintro e w4 ⟨rfl, hb4⟩
    have HB4 := Lib.hid (below_then HB3.out hb4)
    clear hb4
    go_wp2
    go_ret
    exact ⟨rfl, HB4.out⟩
end Go.Proofs.Ytfdkhopionknaaa
