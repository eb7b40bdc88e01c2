/- append(v, make([]T, k)...) onto a slice that the call owns. No program. -/
import Derived.Test.YtfdkhopionknaaaMem
import Derived.Lib.AppendZerosOnto
namespace Go.Proofs.Ytfdkhopionknaaa
open Go.RowKit
set_option linter.unusedVariables false
set_option linter.unusedSimpArgs false

theorem run_append_zeros {P : Program} {t tn ty e : TypeId} {size bytes : Nat} (E : Elem P t e size bytes) {kn : IntKind} (htn : P.underlying tn = some (.int kn)) {w : World} {base : Nat}
    {v : Value} {n : Nat} {xs : List Value} (hown : Own w base e size v n xs) {kq : IntKind} {k : Nat} (h0 : 0 < k) (zs : List Value)
    (hzs : ∀ i z, P.info? e = some i → i.zero = some z → ∀ m, Builtin.zeroCells z.cells m = (List.replicate m zs).flatten.toArray) (hzl : zs.length = size) (h1 : ∀ u ∈ zs, u.oneCell' = true)
    (hbytes : (n + k) * bytes ≤ 140737488355328) (hb1 : 1 ≤ bytes) (hbase : base ≤ w.heap.size) :
    ∃ v' w', (Builtin.append_ #[t, tn] ty #[v, .int kq k]).run P w = .ok v' w' ∧ Own w' base e size v' (n + k) (xs ++ (List.replicate k zs).flatten) ∧ Grew w w' v v' := by
  suffices H : ∃ v' w', (Builtin.append_ #[t, tn] ty #[v, .int kq k]).run P w = .ok v' w' ∧ Own w' base e size v' (n + k) (xs ++ (List.replicate k zs).flatten) ∧ w.grownBy w' v.ownBlock ∧
      (v'.ownBlock = v.ownBlock ∨ ∃ g, v'.ownBlock = some g ∧ w.heap.size ≤ g) by
    obtain ⟨v', w', h1, h2, h3, h4⟩ := H
    exact ⟨v', w', h1, h2, h3, h4⟩
  obtain ⟨ht, ⟨i, z, hi, hz, rfl, rfl, hzs'⟩, hsz⟩ := E
  have hzz := hzs i z hi hz
  have hl : (List.replicate k zs).flatten.length = k * i.size := by simp [hzl]
  have hnm : n + k ≤ 140737488355328 := Nat.le_trans (Nat.le_mul_of_pos_right (n + k) hb1) hbytes
  have h63 : n + k ≤ maxLen := by unfold maxLen; omega
  have hlen : (xs ++ (List.replicate k zs).flatten).length = (n + k) * i.size := by rw [List.length_append, hown.1, hl, Nat.add_mul]
  have hkb : k * i.bytes ≤ 140737488355328 := Nat.le_trans (Nat.mul_le_mul_right _ (Nat.le_add_left k n)) hbytes
  have grown : ∀ (old : Nat) (row : Option Nat),
      Own (w.drew.alloc (.cells (xs.toArray ++ Builtin.zeroCells z.cells k ++ Builtin.zeroCells z.cells (grownCap w (n + k) old e - (n + k))) e)) base e i.size
        (.slice (some ⟨w.heap.size, 0, none⟩) (n + k) (grownCap w (n + k) old e)) (n + k) (xs ++ (List.replicate k zs).flatten) ∧
      w.grownBy (w.drew.alloc (.cells (xs.toArray ++ Builtin.zeroCells z.cells k ++ Builtin.zeroCells z.cells (grownCap w (n + k) old e - (n + k))) e)) row := by
    intro old row
    have hge := grownCap_ge w (n + k) old e
    have hcm : grownCap w (n + k) old e ≤ maxLen := grownCap_le_maxLen w (n + k) old e h63
    refine ⟨⟨hlen, .inr ⟨w.heap.size, 0, _, _, rfl, hbase, heap_alloc_new w.drew _, hge, hcm, ?_, ?_⟩⟩, ⟨rfl, rfl, rfl, (by simp), fun k hk _ => Below.heap_alloc w.drew _ k hk⟩⟩
    · simp only [Array.size_append, List.size_toArray, size_zeroCells, hzs', hown.1, ← Nat.add_mul]
      have : n + k + (grownCap w (n + k) old e - (n + k)) = grownCap w (n + k) old e := by omega
      rw [this]; omega
    · rw [hzz k]
      simp only [Array.toList_append, List.append_assoc, List.drop_zero]
      rw [← List.append_assoc, ← hlen]
      exact List.take_left
  obtain ⟨A, cap, rfl, hr'⟩ := hown.rd
  have hgrow : cap < n + k → (Builtin.firstCells i.size n (.slice A n cap)).run P w.drew = .ok xs.toArray w.drew → (Builtin.append_ #[t, tn] ty #[.slice A n cap, .int kq k]).run P w = _ := fun hlt hf =>
    Lib.run_append_grow_zeros (P := P) w t tn ty e i z kq kn ht htn hi hz A n cap xs hf k h0 hsz hlt (by omega) (by omega) (growslice_fits hlt hbytes)
  rcases hown.2 with ⟨e1, rfl⟩ | ⟨g, off, cap', cur, e1, hbg, hg, hnc, hcm, hcs, htake⟩
  · cases e1
    have hx : xs = [] := List.eq_nil_of_length_eq_zero (by simpa using hown.1)
    subst hx
    have hr := hgrow (by omega) (by simp [Builtin.firstCells])
    have hgr := grown 0 (Value.ownBlock (.slice none 0 0))
    exact ⟨_, _, hr, hgr.1, hgr.2, .inr ⟨_, rfl, Nat.le_refl _⟩⟩
  · cases e1
    by_cases hroom : n + k ≤ cap
    · have hfit : off + n * i.size + 0 + (List.replicate k zs).flatten.length ≤ cur.size := by
        have := Nat.mul_le_mul_right i.size hroom
        rw [hl]; rw [Nat.add_mul] at this; omega
      have h1' : ∀ u ∈ (List.replicate k zs).flatten, u.oneCell' = true := by
        intro u hu
        obtain ⟨l, hl, hul⟩ := List.mem_flatten.1 hu
        rw [(List.mem_replicate.1 hl).2] at hul
        exact h1 u hul
      have hst := run_storeCells_at P g (off + n * i.size) e (List.replicate k zs).flatten 0 cur w hg hfit h1'
      simp only [Nat.add_zero] at hst
      have hw : IntKind.i64.wrap (k : Int) = k := by rw [IntKind.wrap_i64]; omega
      have h48i : ¬ (281474976710656 < (k : Int) * (i.bytes : Int)) := by
        rw [← Int.natCast_mul]
        omega
      have hneg : ¬ ((k : Int) < 0) := by omega
      have hns : ¬ (k * i.size = 0) := Nat.mul_ne_zero (by omega) (by omega)
      refine ⟨.slice (some ⟨g, off, none⟩) (n + k) cap, w.setRow g (cur.toList.take (off + n * i.size) ++ (List.replicate k zs).flatten ++ cur.toList.drop (off + n * i.size + (List.replicate k zs).flatten.length)).toArray, ?_, ?_, ?_, .inl rfl⟩
      · simp [Builtin.append_, run_underlying ht, run_underlying htn, sizeOf, typeInfo, zeroValue, hi, hz, asInt, asIntOf, hw, hroom, hneg, hns, h48i, hzz k, Addr.add_lit] at hst ⊢
        simp [hst]
      · refine ⟨hlen, .inr ⟨g, off, cap, _, rfl, hbg, setRow_heap w g cur _ e _ hg, hroom, hcm, ?_, ?_⟩⟩
        · simp only [List.size_toArray, List.length_append, List.length_take, List.length_drop, Array.length_toList]
          omega
        · have hcl : off + n * i.size ≤ cur.toList.length := by simp; omega
          have e1 : cur.toList.take (off + n * i.size) = cur.toList.take off ++ xs := by
            rw [List.take_add, htake]
          have e2 : (cur.toList.take off).length = off := by rw [List.length_take]; omega
          rw [e1, List.append_assoc, List.append_assoc]
          show List.take _ (List.drop off (cur.toList.take off ++ _)) = _
          rw [List.drop_left' e2, ← List.append_assoc, ← hlen]
          exact List.take_left
      · exact ⟨rfl, rfl, rfl, (by simp), fun k _ hk => setRow_other w g k _ (fun e => hk (by simp [Value.ownBlock, e]))⟩
    · have hr := hgrow (by omega) (run_firstCells_some (P := P) w.drew i.size n ⟨g, off, none⟩ n cap xs hown.1 (hr'.row _ rfl))
      have hgr := grown cap (Value.ownBlock (.slice (some ⟨g, off, none⟩) n cap))
      exact ⟨_, _, hr, hgr.1, hgr.2, .inr ⟨_, rfl, Nat.le_refl _⟩⟩
end Go.Proofs.Ytfdkhopionknaaa
