/- The arguments of the rows, opened: bytes and sectors that came in; the row's end for a law that hands back true. -/
import Derived.Test.YtfdkhopionknaaaRows
import Derived.Test.YtfdkhopionknaaaSec
import Derived.ProofKit
import Derived.Deep.Slices
import Derived.OpenShut
import Derived.Carry
namespace Go.Proofs.Ytfdkhopionknaaa
open Go.ChangeShapes Go.WideShapes Go.ChangeAt Go.RowKit Go.Deep
set_option linter.unusedVariables false

theorem Try.own : ownKnob Try.prog.godebug = none := by kernel_rfl
theorem Try.laidOut : laidOutB Try.prog = true := by kernel_rfl
theorem Try.cells5 : Try.prog.cellsOf 5 = 1 := by kernel_rfl
theorem Try.cells38 : Try.prog.cellsOf 38 = 8 := by kernel_rfl

section
variable {H : Type} {enc : TypeId × Value → H} {W : World} {base : Nat} {v : Value} {d : DataW H} {p : List MemPlace}

set_option maxRecDepth 100000 in
theorem open_bytes (hval : Value.okWide Try.prog W .any base 24 v) (h : DataW.Trod enc Try.prog W 0 (fun _ => true) true 24 v d p) :
    ∃ A c bs, v = .slice A bs.length c ∧ Bytes W A c bs := by
  obtain ⟨a1, len, cap, rfl⟩ := okWide_slice Try.underlying24 hval
  obtain ⟨fuel, hf⟩ := h
  rcases open_ints Try.underlying24 Try.underlying5 Try.cells5 hf with ⟨hcs, hx⟩ | ⟨a, len', cap', zs, hcs, _, hl, hm, hz, hx, hcell, hwz⟩
  · simp [Value.cells] at hcs
    obtain ⟨rfl, rfl, rfl⟩ := hcs
    exact ⟨none, 0, [], rfl, Nat.le_refl _, by decide, fun _ => ⟨rfl, rfl, rfl⟩, fun a ha => by cases ha⟩
  · simp [Value.cells] at hcs
    obtain ⟨rfl, rfl, rfl⟩ := hcs
    simp only [if_true] at hz
    have hlen : ((zs.take len).map fun n => UInt8.ofNat n.toNat).length = len := by simp; omega
    refine ⟨some a, cap, (zs.take len).map fun n => UInt8.ofNat n.toNat, by rw [hlen], ?_⟩
    unfold Bytes
    rw [hlen]
    refine ⟨hl, hm, (fun e => by cases e), fun b hb j u hj => ?_⟩
    cases hb
    have hjl : j < len := by
      rcases Nat.lt_or_ge j len with h | h
      · exact h
      · rw [List.getElem?_eq_none (by simp; omega)] at hj; cases hj
    have hc := hcell j (by omega)
    have hb := bounds_u8 (hwz zs[j] (List.getElem_mem (by omega)))
    have e : zs.getD j 0 = zs[j]'(by omega) := by simp [List.getD, List.getElem?_eq_getElem (show j < zs.length by omega)]
    rw [e] at hc
    rw [hc, ← hj]
    simp [List.getElem?_take, hjl, List.getElem?_eq_getElem (show j < zs.length by omega), B]
    omega

theorem open_sec {fuel base : Nat} {spare : Nat → Bool} {held : Bool} {cs : List Value} {x : DataW H × List MemPlace} (h : DataW.trod enc Try.prog W base spare held fuel 38 cs = some x) : ∃ s : Sec, cs = s.cells := by
  obtain ⟨xs, m, _, _, hl, hn, hi⟩ := DataW.trod_array Try.underlying38 h
  rw [Try.cells38] at hl
  rw [Try.cells5] at hi
  have one : ∀ i, i < 8 → ∃ b : UInt8, cs[i]? = some (B b) := by
    intro i hlt
    have := hi i hlt
    rw [List.getElem?_eq_getElem (by omega)] at this
    obtain ⟨n, hcs, _, hw⟩ := DataW.trod_int Try.underlying5 this
    have hb := bounds_u8 hw
    refine ⟨UInt8.ofNat n.toNat, ?_⟩
    have h2 : ((cs.drop (i * 1)).take 1)[0]? = some (.int .u8 n) := by rw [hcs]; rfl
    rw [List.getElem?_take, if_pos (by omega), List.getElem?_drop] at h2
    simp only [Nat.mul_one, Nat.add_zero] at h2
    rw [h2]
    simp [B]
    omega
  obtain ⟨b0, h0⟩ := one 0 (by omega)
  obtain ⟨b1, h1⟩ := one 1 (by omega)
  obtain ⟨b2, h2⟩ := one 2 (by omega)
  obtain ⟨b3, h3⟩ := one 3 (by omega)
  obtain ⟨b4, h4⟩ := one 4 (by omega)
  obtain ⟨b5, h5⟩ := one 5 (by omega)
  obtain ⟨b6, h6⟩ := one 6 (by omega)
  obtain ⟨b7, h7⟩ := one 7 (by omega)
  refine ⟨⟨b0, b1, b2, b3, b4, b5, b6, b7⟩, ?_⟩
  match cs, hl with
  | [c0, c1, c2, c3, c4, c5, c6, c7], _ =>
    simp at h0 h1 h2 h3 h4 h5 h6 h7
    subst h0 h1 h2 h3 h4 h5 h6 h7
    rfl

set_option maxRecDepth 100000 in
theorem open_secs (hval : Value.okWide Try.prog W .any base 22 v) (h : DataW.Trod enc Try.prog W 0 (fun _ => true) true 22 v d p) :
    ∃ A c xs, v = .slice A xs.length c ∧ Secs W A c xs := by
  obtain ⟨a1, len, cap, rfl⟩ := okWide_slice Try.underlying22 hval
  obtain ⟨fuel, hf⟩ := h
  rcases open_slice Try.underlying22 hf with ⟨hcs, hx⟩ | ⟨a, len', cap', m, n, D, Pl, hcs, _, hl, hm, hmm, hx, hel⟩
  · simp [Value.cells] at hcs
    obtain ⟨rfl, rfl, rfl⟩ := hcs
    exact ⟨none, 0, [], rfl, Nat.le_refl _, by decide, fun _ => ⟨rfl, rfl, rfl⟩, fun a ha => by cases ha⟩
  · simp [Value.cells] at hcs
    obtain ⟨rfl, rfl, rfl⟩ := hcs
    simp only [if_true] at hmm
    rw [Try.cells38] at hel
    have he : ∀ i, i < len → ∃ s : Sec, ∀ j u, s.cells[j]? = some u → W.cell? (a.add (i * 8 + j)) = some u := by
      intro i hi
      obtain ⟨cs', h1, h2⟩ := hel i (by omega)
      obtain ⟨s, rfl⟩ := open_sec h2
      obtain ⟨_, _, h3⟩ := World.cells?_some h1
      refine ⟨s, fun j u hj => ?_⟩
      have hj8 : j < 8 := (List.getElem?_eq_some_iff.1 hj).1
      have := h3 j hj8
      rw [Addr.add_add'] at this
      rw [this, hj]
    haveI : Inhabited Sec := ⟨Sec.zero⟩
    obtain ⟨f, hfs⟩ := choose_lt he
    have hlen : ((List.range len).map f).length = len := by simp
    refine ⟨some a, cap, (List.range len).map f, by rw [hlen], ?_⟩
    unfold Secs
    rw [hlen]
    refine ⟨hl, hm, (fun e => by cases e), fun b hb j u hj => ?_⟩
    cases hb
    have hjl : j < 8 * len := by
      rcases Nat.lt_or_ge j (8 * len) with h | h
      · exact h
      · rw [List.getElem?_eq_none (by rw [List.length_map, flat_length, hlen]; omega)] at hj; cases hj
    have hs : ((List.range len).map f)[j / 8]? = some (f (j / 8)) := by simp [List.getElem?_eq_getElem (show j / 8 < (List.range len).length by simp; omega)]
    have hg := flat_get _ (j / 8) (j % 8) _ hs (by omega)
    rw [show j / 8 * 8 + j % 8 = j by omega] at hg
    rw [List.getElem?_map, hg] at hj
    have := hfs (j / 8) (by omega) (j % 8) u (by simpa [Sec.cells] using hj)
    rw [show j / 8 * 8 + j % 8 = j by omega] at this
    exact this
end
end Go.Proofs.Ytfdkhopionknaaa
