/- Layer 6: the places of four bytes, a map; note (53). -/
import Derived.Test.YtfdkhopionknaaaDicK
import Derived.WideKeyArr
import Derived.WideKeyEntry
namespace Go.Proofs.Ytfdkhopionknaaa
open Go.RowKit
set_option linter.unusedVariables false
set_option linter.unusedSimpArgs false

theorem cellsOf108 : Try.prog.cellsOf 108 = 4 := by kernel_rfl
theorem key108 : WideMaps.KeyLaw Try.prog 108 := WideMaps.ArrKey.law ⟨Try.underlying108, by kernel_rfl, cellsOf5, cellsOf108⟩
theorem keyType108 : Try.prog.keyType 108 = true := by kernel_rfl
theorem typesSize : ∃ m, Try.prog.types.size = m + 2 := ⟨Try.prog.types.size - 2, by kernel_rfl⟩
theorem wf_B (x : UInt8) : (Lit.int .u8 (x.toNat : Int)).wf = true := by
  have := x.toNat_lt
  have h : ∀ r : Fin 256, (Lit.int .u8 (r.val : Int)).wf = true := by decide +kernel
  exact h ⟨x.toNat, this⟩
theorem lits_B (m : Nat) (x : UInt8) : Try.prog.keyLits (m + 1) 5 [B x] = some [.int .u8 x.toNat] := by
  unfold Program.keyLits
  simp [Try.underlying5, B, wf_B]
theorem key_lit (k : List UInt8) (h : k.length = 4) : ∃ l, keyOf Try.prog 108 (keyV k) = some l := by
  match k, h with
  | [a, b, c, d], _ =>
    obtain ⟨m, hm⟩ := typesSize
    have e : ∃ ls, Try.prog.keyLits (m + 2 + 1) 108 ([a, b, c, d].map B) = some ls := by
      unfold Program.keyLits
      have hr : List.range 4 = [0, 1, 2, 3] := rfl
      simp [Try.underlying108, cellsOf108, cellsOf5, hr, lits_B]
    obtain ⟨ls, hls⟩ := e
    refine ⟨.string (keyBytes ls), ?_⟩
    unfold keyOf
    have hf : (keyV [a, b, c, d]).formed Try.prog 108 = true := by simp [Value.formed, keyV, Try.underlying108, cellsOf108]
    simp only [Try.underlying108, keyType108, hf, Bool.and_self, if_true, hm]
    have hc : (keyV [a, b, c, d]).cells.toList = [a, b, c, d].map B := rfl
    rw [hc, hls]
    rfl
theorem keyV_inj {a b : List UInt8} (h : keyV a = keyV b) : a = b := by
  unfold keyV at h
  simp only [Value.agg.injEq] at h
  exact (List.map_inj_right (fun _ _ e => B_inj e)).1 (by simpa using congrArg Array.toList h)

def natV (n : Nat) : Value := .int .i64 n
/-- The map at mb: of each four bytes, their places. -/
def MapS (base mb : Nat) (w : World) (f : List UInt8 → List Nat) : Prop :=
  ∃ es clock, w.heap[mb]? = some (.map es clock) ∧ MapKept.Stamped es clock ∧
    (∀ x ∈ es.toList, ∃ k, k.length = 4 ∧ x.key = keyV k ∧ Own w base 3 1 x.val (f k).length ((f k).map natV)) ∧
    (∀ k, k.length = 4 → (∀ x ∈ es.toList, x.key ≠ keyV k) → f k = []) ∧
    (∀ (i j : Nat) (x y : MapEntry), es[i]? = some x → es[j]? = some y → i ≠ j → x.val.ownBlock = none ∨ x.val.ownBlock ≠ y.val.ownBlock)
theorem MapS.start {base mb : Nat} {w : World} (h : w.heap[mb]? = some (.map #[] 0)) : MapS base mb w (fun _ => []) :=
  ⟨#[], 0, h, MapKept.stamped_empty 0, fun x hx => by simp at hx, fun _ _ _ => rfl, fun i j x y hx => by simp at hx⟩
theorem map_keys {base mb : Nat} {w : World} {f : List UInt8 → List Nat} {es : Array MapEntry} (h : ∀ x ∈ es.toList, ∃ k, k.length = 4 ∧ x.key = keyV k ∧ Own w base 3 1 x.val (f k).length ((f k).map natV)) : ∀ x ∈ es.toList, ∃ l, keyOf Try.prog 108 x.key = some l := by
  intro x hx
  obtain ⟨k, h4, e, _⟩ := h x hx
  rw [e]
  exact key_lit k h4
theorem zero100 (w : World) : (zeroValue 100).run Try.prog w = .ok (.slice none 0 0) w := by
  have : (Try.prog.info? 100).map (·.zero) = some (some (.slice none 0 0)) := by kernel_rfl
  cases h : Try.prog.info? 100 with
  | none => simp [h] at this
  | some i =>
    have hz : i.zero = some (.slice none 0 0) := by simpa [h] using this
    simp [zeroValue, typeInfo, h, hz]

/-- Looking up: the places of a key, as a slice. -/
theorem map_lookup {base mb : Nat} {w : World} {f : List UInt8 → List Nat} (h : MapS base mb w f) (k : List UInt8) (h4 : k.length = 4) :
    ∃ v, (∀ w' : World, w'.heap[mb]? = w.heap[mb]? → (Instr.lookup 85 (.map (some mb)) (keyV k) false).run Try.prog w' = .ok v w') ∧ Own w base 3 1 v (f k).length ((f k).map natV) := by
  obtain ⟨es, clock, hm, hst, hes, hno, hd⟩ := h
  obtain ⟨l, hl⟩ := key_lit k h4
  have hk := map_keys (mb := mb) hes
  by_cases hx : ∃ x ∈ es.toList, x.key = keyV k
  · obtain ⟨x, hx1, hx2⟩ := hx
    refine ⟨x.val, fun w' hw => ?_, ?_⟩
    · have hb : w'.heap[mb]? = some (.map es clock) := hw.trans hm
      rcases key108.find w' hl es.toList hk with ⟨_, h2⟩ | ⟨j, e0, h1, h2, h3⟩
      · exact absurd hx2 (h2 x hx1)
      · have : e0 = x := by
          obtain ⟨i, hi⟩ := List.getElem?_of_mem hx1
          by_cases e : i = j
          · subst e; rw [hi] at h2; cases h2; rfl
          · exfalso
            obtain ⟨_, _, hnd⟩ := hst
            have hi' : (es.toList.map (·.key))[i]? = some (keyV k) := by rw [List.getElem?_map, hi]; simp [hx2]
            have hj' : (es.toList.map (·.key))[j]? = some (keyV k) := by rw [List.getElem?_map, h2]; simp [h3]
            have hil : i < (es.toList.map (·.key)).length := (List.getElem?_eq_some_iff.1 hi').1
            exact e ((List.getElem?_inj hil hnd).1 (hi'.trans hj'.symm))
        subst this
        simp [Instr.lookup, run_underlying Try.underlying85, MapKept.run_getObj_map hb, key108.check w' _ hl, h1, Result.andThen]
    · obtain ⟨k', h4', e, ho⟩ := hes x hx1
      rw [hx2] at e
      rw [keyV_inj e]
      exact ho
  · have hx' : ∀ x ∈ es.toList, x.key ≠ keyV k := fun x h1 h2 => hx ⟨x, h1, h2⟩
    refine ⟨.slice none 0 0, fun w' hw => ?_, ?_⟩
    · have hb : w'.heap[mb]? = some (.map es clock) := hw.trans hm
      rcases key108.find w' hl es.toList hk with ⟨h1, _⟩ | ⟨j, e0, h1, h2, h3⟩
      · simp [Instr.lookup, run_underlying Try.underlying85, MapKept.run_getObj_map hb, key108.check w' _ hl, h1, zero100, Result.andThen]
      · exact absurd h3 (hx' e0 (List.mem_of_getElem? h2))
    · rw [hno k h4 hx']
      exact Own.nil _ _ _ _
theorem map_after {base mb : Nat} {w3 : World} {f : List UInt8 → List Nat} {es es' : Array MapEntry} {clock' j p : Nat} {k : List UInt8} {e1 : MapEntry} (h4 : k.length = 4) (hst : MapKept.Stamped es' clock')
    (hidx : ∀ i : Nat, es'[i]? = if i = j then some e1 else es[i]?) (hk1 : e1.key = keyV k) (hoth : ∀ (i : Nat) (x : MapEntry), es[i]? = some x → i ≠ j → x.key ≠ keyV k) (hj : ∀ x, es[j]? = some x → x.key = keyV k)
    (hno : ∀ k, k.length = 4 → (∀ x ∈ es.toList, x.key ≠ keyV k) → f k = [])
    (hd : ∀ (i j : Nat) (x y : MapEntry), es[i]? = some x → es[j]? = some y → i ≠ j → x.val.ownBlock = none ∨ x.val.ownBlock ≠ y.val.ownBlock)
    (h1 : Own w3 base 3 1 e1.val ((f k).length + 1) ((f k ++ [p]).map natV))
    (hkeep : ∀ (i : Nat) (x : MapEntry), es[i]? = some x → i ≠ j → (∃ k, k.length = 4 ∧ x.key = keyV k ∧ Own w3 base 3 1 x.val (f k).length ((f k).map natV)) ∧ (x.val.ownBlock = none ∨ x.val.ownBlock ≠ e1.val.ownBlock))
    (hm : w3.heap[mb]? = some (.map es' clock')) : MapS base mb w3 (fun k' => if k' = k then f k ++ [p] else f k') := by
  refine ⟨es', clock', hm, hst, fun x hx => ?_, fun k' hk' hn => ?_, fun a b x y hx hy hne => ?_⟩
  · obtain ⟨i, hi⟩ := List.getElem?_of_mem hx
    have hi' : es'[i]? = some x := by simpa using hi
    rw [hidx] at hi'
    by_cases e : i = j
    · rw [if_pos e] at hi'
      cases hi'
      refine ⟨k, h4, hk1, ?_⟩
      simp only [if_true, List.length_append, List.length_singleton]
      exact h1
    · rw [if_neg e] at hi'
      obtain ⟨⟨k', h4', ek, ho⟩, _⟩ := hkeep i x hi' e
      have hne : k' ≠ k := fun e' => hoth i x hi' e (by rw [ek, e'])
      refine ⟨k', h4', ek, ?_⟩
      simp only [if_neg hne]
      exact ho
  · have hej : es'[j]? = some e1 := by rw [hidx, if_pos rfl]
    have hne : k' ≠ k := fun e => hn e1 (List.mem_of_getElem? (by simpa using hej)) (by rw [hk1, e])
    simp only [if_neg hne]
    refine hno k' hk' fun x hx => ?_
    obtain ⟨i, hi⟩ := List.getElem?_of_mem hx
    have hi' : es[i]? = some x := by simpa using hi
    by_cases e : i = j
    · subst e
      rw [hj x hi']
      exact fun e => hne (keyV_inj e.symm)
    · have : es'[i]? = some x := by rw [hidx, if_neg e]; exact hi'
      exact hn x (List.mem_of_getElem? (by simpa using this))
  · rw [hidx] at hx hy
    by_cases ea : a = j
    · have eb : b ≠ j := fun e => hne (ea.trans e.symm)
      rw [if_pos ea] at hx
      rw [if_neg eb] at hy
      cases hx
      exact ne_symm' (hkeep b y hy eb).2
    · rw [if_neg ea] at hx
      by_cases eb : b = j
      · rw [if_pos eb] at hy
        cases hy
        exact (hkeep a x hx ea).2
      · rw [if_neg eb] at hy
        exact hd a b x y hx hy hne

theorem block_grown (w : World) (b : Nat) (o : Obj) : w.grownBy (ChangeMaps.setBlock w b o) (some b) :=
  ⟨rfl, rfl, rfl, by simp [ChangeMaps.setBlock], fun k hk hne => by
    have : k ≠ b := fun e => hne (by rw [e])
    simp [ChangeMaps.setBlock, Ne.symm this]⟩
theorem block_at {w : World} {b : Nat} {o o' : Obj} (h : w.heap[b]? = some o) : (ChangeMaps.setBlock w b o').heap[b]? = some o' := by
  have := (Array.getElem?_eq_some_iff.1 h).1
  simp [ChangeMaps.setBlock, this]

/-- One more place of a key. -/
theorem map_note {base mb : Nat} {w : World} {f : List UInt8 → List Nat} (h : MapS base mb w f) (hmb : mb < base) (k : List UInt8) (h4 : k.length = 4) :
    ∃ (v0 : Value) (st : Nat) (w1 : World), (Instr.mapEntry 85 (.map (some mb)) (keyV k)).run Try.prog w = .ok (.tuple #[v0, .int .i64 (st : Int)]) w1 ∧ Own w1 base 3 1 v0 (f k).length ((f k).map natV) ∧ w.grownBy w1 (some mb) ∧
      ∀ (w2 : World) (v1 : Value) (p : Nat), Own w2 base 3 1 v1 ((f k).length + 1) ((f k ++ [p]).map natV) → Grew w1 w2 v0 v1 → ∃ w3, (Instr.entryStore 85 (.map (some mb)) (.int .i64 (st : Int)) v1).run Try.prog w2 = .ok () w3 ∧ w2.grownBy w3 (some mb) ∧
        MapS base mb w3 (fun k' => if k' = k then f k ++ [p] else f k') := by
  obtain ⟨es, clock, hm, hst, hes, hno, hd⟩ := h
  obtain ⟨l, hl⟩ := key_lit k h4
  have hk := map_keys (mb := mb) hes
  obtain ⟨s1, s2, s3⟩ := hst
  rcases key108.find w hl es.toList hk with ⟨h1, h2⟩ | ⟨j, e0, h1, h2, h3⟩
  · -- a new key
    have hno' : ∀ i : Nat, (es.push ⟨keyV k, .slice none 0 0, clock⟩)[i]? = if i = es.size then some ⟨keyV k, .slice none 0 0, clock⟩ else es[i]? := by
      intro i; rw [Array.getElem?_push]
    have hg1 := block_grown w mb (.map (es.push ⟨keyV k, .slice none 0 0, clock⟩) (clock + 1))
    have hb1 : (ChangeMaps.setBlock w mb (.map (es.push ⟨keyV k, .slice none 0 0, clock⟩) (clock + 1))).heap[mb]? = some (.map (es.push ⟨keyV k, .slice none 0 0, clock⟩) (clock + 1)) := block_at hm
    refine ⟨.slice none 0 0, clock, ChangeMaps.setBlock w mb (.map (es.push ⟨keyV k, .slice none 0 0, clock⟩) (clock + 1)), ?_, ?_, hg1, fun w2 v1 p ho hgr => ?_⟩
    · simp [Instr.mapEntry, run_underlying Try.underlying85, MapKept.run_getObj_map hm, key108.check w false hl, h1, zero100, MapKept.run_setObj_map _ hm, Result.andThen, ChangeMaps.setBlock, goInt]
    · rw [hno k h4 h2]; exact Own.nil _ _ _ _
    · have hb2 : w2.heap[mb]? = some (.map (es.push ⟨keyV k, .slice none 0 0, clock⟩) (clock + 1)) := (hgr.block mb (lt_of_heap hb1) (by simp [Value.ownBlock])).trans hb1
      have hidx : (es.push ⟨keyV k, .slice none 0 0, clock⟩).findIdx? (fun e => ((e.born : Nat) : Int) == ((clock : Nat) : Int)) = some es.size := by
        rw [WideElems.findIdx_arr]
        exact WideElems.findIdx_born (l := (es.push ⟨keyV k, .slice none 0 0, clock⟩).toList) (j := es.size) (e0 := ⟨keyV k, .slice none 0 0, clock⟩) ((MapKept.stamped_push ⟨s1, s2, s3⟩ h2).2.1) (by simp)
      refine ⟨ChangeMaps.setBlock w2 mb (.map ((es.push ⟨keyV k, .slice none 0 0, clock⟩).modify es.size fun e => { e with val := v1 }) (clock + 1)), ?_, block_grown _ _ _, ?_⟩
      · simp [Instr.entryStore, MapKept.run_getObj_map hb2, asInt, asIntOf, hidx, MapKept.run_setObj_map _ hb2, Result.andThen, ChangeMaps.setBlock]
      · have hg3 := block_grown w2 mb (.map ((es.push ⟨keyV k, .slice none 0 0, clock⟩).modify es.size fun e => { e with val := v1 }) (clock + 1))
        refine map_after (j := es.size) (e1 := ⟨keyV k, v1, clock⟩) (es := es) h4 (MapKept.stamped_modify (MapKept.stamped_push (val := .slice none 0 0) ⟨s1, s2, s3⟩ h2) es.size (fun e => { e with val := v1 }) (fun _ _ => rfl) (fun _ _ _ => rfl)) (fun i => ?_) rfl (fun i x hx _ => h2 x (List.mem_of_getElem? (by simpa using hx))) (fun x hx => ?_) hno hd (own_eb ho hg3 hmb) (fun i x hx hne => ?_) (block_at hb2)
        · rw [Array.getElem?_modify, Array.getElem?_push]
          by_cases e : i = es.size
          · subst e; simp
          · rw [if_neg (fun x => e x.symm), if_neg e, if_neg e]
        · have := (Array.getElem?_eq_some_iff.1 hx).1; omega
        · obtain ⟨k', h4', ek, ho'⟩ := hes x (List.mem_of_getElem? (by simpa using hx))
          have ha := own_eb ho' hg1 hmb
          have hb := own_beside ha (Own.nil (ChangeMaps.setBlock w mb (.map (es.push ⟨keyV k, .slice none 0 0, clock⟩) (clock + 1))) base 3 1) hgr (by
            cases hx : x.val.ownBlock with
            | none => exact .inl rfl
            | some y => exact .inr (by simp [Value.ownBlock]))
          exact ⟨⟨k', h4', ek, own_eb hb.1 hg3 hmb⟩, hb.2⟩
  · -- a key that is there
    have hj : es[j]? = some e0 := by simpa using h2
    have hm0 : es.modify j (fun e => { e with key := keyV k }) = es := by
      apply Array.ext_getElem?
      intro i
      rw [Array.getElem?_modify]
      by_cases e : j = i
      · subst e; rw [if_pos rfl, hj]; simp [← h3]
      · rw [if_neg e]
    have hg1 := block_grown w mb (.map es clock)
    have hb1 : (ChangeMaps.setBlock w mb (.map es clock)).heap[mb]? = some (.map es clock) := block_at hm
    obtain ⟨kx, h4x, ekx, hox⟩ := hes e0 (List.mem_of_getElem? h2)
    have ekk : kx = k := keyV_inj (ekx.symm.trans h3)
    subst ekk
    have ha0 := own_eb hox hg1 hmb
    refine ⟨e0.val, e0.born, ChangeMaps.setBlock w mb (.map es clock), ?_, ha0, hg1, fun w2 v1 p ho hgr => ?_⟩
    · simp [Instr.mapEntry, run_underlying Try.underlying85, MapKept.run_getObj_map hm, key108.check w false hl, h1, hj, h3, key108.stays w hl, hm0, MapKept.run_setObj_map _ hm, Result.andThen, ChangeMaps.setBlock, goInt]
    · have hb2 : w2.heap[mb]? = some (.map es clock) := (hgr.block mb (lt_of_heap hb1) (fun e => by have := (ha0.lt _ e.symm).1; omega)).trans hb1
      have hidx : es.findIdx? (fun e => ((e.born : Nat) : Int) == ((e0.born : Nat) : Int)) = some j := by
        rw [WideElems.findIdx_arr]
        exact WideElems.findIdx_born s2 h2
      refine ⟨ChangeMaps.setBlock w2 mb (.map (es.modify j fun e => { e with val := v1 }) clock), ?_, block_grown _ _ _, ?_⟩
      · simp [Instr.entryStore, MapKept.run_getObj_map hb2, asInt, asIntOf, hidx, MapKept.run_setObj_map _ hb2, Result.andThen, ChangeMaps.setBlock]
      · have hg3 := block_grown w2 mb (.map (es.modify j fun e => { e with val := v1 }) clock)
        have hoth : ∀ (i : Nat) (x : MapEntry), es[i]? = some x → i ≠ j → x.key ≠ keyV kx := by
          intro i x hx hne ex
          have hi' : (es.toList.map (·.key))[i]? = some (keyV kx) := by rw [List.getElem?_map]; simp [hx, ex]
          have hj' : (es.toList.map (·.key))[j]? = some (keyV kx) := by rw [List.getElem?_map, h2]; simp [h3]
          have hil : i < (es.toList.map (·.key)).length := (List.getElem?_eq_some_iff.1 hi').1
          exact hne ((List.getElem?_inj hil s3).1 (hi'.trans hj'.symm))
        refine map_after (j := j) (e1 := { e0 with val := v1 }) (es := es) h4 (MapKept.stamped_modify ⟨s1, s2, s3⟩ j (fun e => { e with val := v1 }) (fun _ _ => rfl) (fun _ _ _ => rfl)) (fun i => ?_) h3 hoth (fun x hx => by rw [hj] at hx; cases hx; exact h3) hno hd (own_eb ho hg3 hmb) (fun i x hx hne => ?_) (block_at hb2)
        · rw [Array.getElem?_modify]
          by_cases e : i = j
          · subst e; rw [if_pos rfl, if_pos rfl, hj]; rfl
          · rw [if_neg (fun x => e x.symm), if_neg e]
        · obtain ⟨k', h4', ek, ho'⟩ := hes x (List.mem_of_getElem? (by simpa using hx))
          have ha := own_eb ho' hg1 hmb
          have hb := own_beside ha ha0 hgr (hd i j x e0 hx hj hne)
          exact ⟨⟨k', h4', ek, own_eb hb.1 hg3 hmb⟩, hb.2⟩
end Go.Proofs.Ytfdkhopionknaaa
