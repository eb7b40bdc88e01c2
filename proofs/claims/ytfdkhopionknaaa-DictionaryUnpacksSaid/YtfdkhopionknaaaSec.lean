/- Sectors in memory: reading one, comparing two. -/
import Derived.Test.YtfdkhopionknaaaNumB
namespace Go.Proofs.Ytfdkhopionknaaa
open Go.RowKit
set_option linter.unusedVariables false
set_option linter.unusedSimpArgs false

def SecAt (w : World) (a : Addr) (s : Sec) : Prop := Row w a s.cells
/-- The value points to a sector. -/
def SecP (w : World) (v : Value) : Prop := ∃ a s, v = .pointer (some a) ∧ SecAt w a s
open Classical in
/-- The sector that it points to. -/
noncomputable def secP (w : World) (v : Value) : Sec := if h : ∃ s a, v = .pointer (some a) ∧ SecAt w a s then h.choose else Sec.zero

theorem B_inj {a b : UInt8} (h : B a = B b) : a = b := by
  unfold B at h
  injection h with _ h
  exact UInt8.toNat_inj.1 (by omega)
theorem SecAt.get {w : World} {a : Addr} {s : Sec} (h : SecAt w a s) (j : Nat) (b : UInt8) (hb : s.bytes[j]? = some b) : w.cell? (a.add j) = some (B b) := h j _ (by simp [Sec.cells, hb])
theorem SecAt.inj {w : World} {a : Addr} {s t : Sec} (h : SecAt w a s) (k : SecAt w a t) : s = t := by
  have e : ∀ j b c, s.bytes[j]? = some b → t.bytes[j]? = some c → b = c := fun j b c hb hc => by
    have := (h.get j b hb).symm.trans (k.get j c hc)
    exact B_inj (Option.some.inj this)
  obtain ⟨s0, s1, s2, s3, s4, s5, s6, s7⟩ := s
  obtain ⟨t0, t1, t2, t3, t4, t5, t6, t7⟩ := t
  have e0 := e 0 _ _ rfl rfl
  have e1 := e 1 _ _ rfl rfl
  have e2 := e 2 _ _ rfl rfl
  have e3 := e 3 _ _ rfl rfl
  have e4 := e 4 _ _ rfl rfl
  have e5 := e 5 _ _ rfl rfl
  have e6 := e 6 _ _ rfl rfl
  have e7 := e 7 _ _ rfl rfl
  subst e0 e1 e2 e3 e4 e5 e6 e7
  rfl
theorem secP_of {w : World} {a : Addr} {s : Sec} (h : SecAt w a s) : SecP w (.pointer (some a)) ∧ secP w (.pointer (some a)) = s := by
  refine ⟨⟨a, s, rfl, h⟩, ?_⟩
  have hx : ∃ s' a', (Value.pointer (some a)) = .pointer (some a') ∧ SecAt w a' s' := ⟨s, a, rfl, h⟩
  unfold secP
  rw [dif_pos hx]
  obtain ⟨a', ha, hs⟩ := hx.choose_spec
  cases ha
  exact hs.inj h
theorem Row.of_cells {w w' : World} {a : Addr} {cs : List Value} (h : Row w a cs) (e : ∀ x, w'.cell? x = w.cell? x) : Row w' a cs := fun j u hj => (e _).trans (h j u hj)
theorem SecP_drewN (w : World) (n : Nat) (v : Value) : SecP (w.drewN n) v = SecP w v := rfl
theorem secP_drewN (w : World) (n : Nat) (v : Value) : secP (w.drewN n) v = secP w v := rfl

theorem flat_get (xs : List Sec) : ∀ (i j : Nat) (s : Sec), xs[i]? = some s → j < 8 → (flat xs)[i * 8 + j]? = s.bytes[j]? := by
  induction xs with
  | nil => intro i j s h; simp at h
  | cons x xs ih =>
    intro i j s h hj
    rw [flat_cons]
    cases i with
    | zero =>
      simp at h; subst h
      rw [Nat.zero_mul, Nat.zero_add, List.getElem?_append_left (by simpa using hj)]
    | succ i =>
      simp at h
      rw [List.getElem?_append_right (by simp; omega), show (i + 1) * 8 + j - x.bytes.length = i * 8 + j from by simp; omega]
      exact ih i j s h hj
theorem Secs.at {w : World} {a : Addr} {c : Nat} {xs : List Sec} (h : Secs w (some a) c xs) {i : Nat} {s : Sec} (hs : xs[i]? = some s) : SecAt w (a.add (i * 8)) s := by
  intro j u hu
  rw [Addr.add_add']
  have hj : j < 8 := by
    rcases Nat.lt_or_ge j 8 with h | h
    · exact h
    · rw [List.getElem?_eq_none (by simpa using h)] at hu; cases hu
  refine h.row a rfl _ _ ?_
  rw [List.getElem?_map, flat_get xs i j s hs hj]
  simpa [Sec.cells] using hu

theorem agg38 (w : World) : (isAgg 38).run Try.prog w = .ok true w := by
  unfold isAgg
  rw [Sem.run_bind, run_underlying Try.underlying38 w]
  rfl
theorem size38 (w : World) : (sizeOf 38).run Try.prog w = .ok 8 w := E22.run_size w
theorem run_loadVar_sec {w : World} {a : Addr} {s : Sec} (h : SecAt w a s) : (loadVar 38 a).run Try.prog w = .ok (secV s) w := by
  have hl := run_loadCells_list (P := Try.prog) w a s.cells h
  simp only [Sec.cells_length] at hl
  simp [loadVar, agg38, size38, hl, secV]
/-- Loading a sector. -/
theorem run_load_sec (w : World) (ev : Operand → Value) (d : Option Tmp) (x : Operand) (ty : TypeId) (pos : String) (af : Array Edge) (g : Option (Nat × Bool)) (h : SecP w (ev x)) :
    (execOp ev ⟨d, .load 38 x, ty, pos, af, g⟩).run Try.prog w = .ok (.value (secV (secP w (ev x)))) w := by
  obtain ⟨a, s, hx, hs⟩ := h
  rw [hx, (secP_of hs).2]
  simp [execOp, Instr.loadAt, Instr.sureAddr, hx, run_loadVar_sec hs]

/-- In a quiet region: an operation that yields v in each world of the class. -/
theorem quiet_val {P : Program} {o : Oper} {a : Act} {C : World → Prop} {K : Act → Prop} (v : Value) (h : ∀ w, C w → (execOp a.eval o).run P w = .ok (.value v) w) (hk : K (a.put o.dst v)) : o.quiet P a C K :=
  ⟨v, fun w hw => by unfold Oper.quietAt; rw [h w hw]; exact ⟨rfl, rfl⟩, hk⟩
/-- .. a load of a sector. -/
theorem quiet_sec {o : Oper} {a : Act} {W : World} {K : Act → Prop} {x : Operand} {ad : Addr} {s : Sec} (ho : o.op = .load 38 x) (hx : a.eval x = .pointer (some ad)) (hs : SecAt W ad s) (hk : K (a.put o.dst (secV s))) :
    o.quiet Try.prog a (fun w' => ∃ n, w' = W.drewN n) K := by
  refine quiet_val (secV s) ?_ hk
  rintro w ⟨n, rfl⟩
  have hs' : SecAt (W.drewN n) ad s := hs
  simp [execOp, ho, Instr.loadAt, Instr.sureAddr, hx, run_loadVar_sec hs']

theorem cellsOf5 : Try.prog.cellsOf 5 = 1 := by kernel_rfl
theorem run_equalIn_sec (w : World) (d : Nat) (s t : Sec) : (Op.equalIn (d + 2) 38 (secV s) (secV t)).run Try.prog w = .ok (decide (s = t)) w := by
  obtain ⟨i, hi, _, _, _⟩ := info_parts inf5
  unfold secV
  rw [run_equalIn_array w (d + 1) _ _ Try.underlying38 hi, cellsOf5]
  have ha : (isAgg 5).run Try.prog w = .ok false w := by
    unfold isAgg
    rw [Sem.run_bind, run_underlying Try.underlying5 w]
    rfl
  have hp : ∀ (s : Sec) (j : Nat) (b : UInt8), s.bytes[j]? = some b → (part 5 s.cells.toArray (j * 1)).run Try.prog w = .ok (B b) w := by
    intro s j b hb
    have e1 : s.cells.toArray[j * 1]? = some (B b) := by rw [Nat.mul_one]; simp [Sec.cells, hb]
    unfold part
    rw [Sem.run_bind, ha]
    simp only [Result.andThen_ok, Bool.false_eq_true, if_false, e1]
    rfl
  have he : ∀ a b : UInt8, (Op.equalIn (d + 1) 5 (B a) (B b)).run Try.prog w = .ok (decide (a = b)) w := by
    intro a b
    unfold B
    rw [run_equalIn_int w d 5 .u8 .u8 _ _ Try.underlying5]
    refine congrArg (fun x => Result.ok x w) ?_
    by_cases h : a = b
    · subst h; simp
    · rw [decide_eq_false h, beq_eq_false_iff_ne]; intro e; exact h (UInt8.toNat_inj.1 (by omega))
  have st : ∀ (j : Nat) (js : List Nat) (a b : UInt8), s.bytes[j]? = some a → t.bytes[j]? = some b →
      (Op.eqItems (d + 1) 5 1 s.cells.toArray t.cells.toArray (j :: js)).run Try.prog w = if a = b then (Op.eqItems (d + 1) 5 1 s.cells.toArray t.cells.toArray js).run Try.prog w else .ok false w := by
    intro j js a b h1 h2
    simp only [Op.eqItems, Sem.run_bind, hp s j a h1, hp t j b h2, he, Result.andThen_ok]
    by_cases h : a = b <;> simp [h]
  show (Op.eqItems (d + 1) 5 1 s.cells.toArray t.cells.toArray [0, 1, 2, 3, 4, 5, 6, 7]).run Try.prog w = _
  rw [st 0 _ _ _ rfl rfl, st 1 _ _ _ rfl rfl, st 2 _ _ _ rfl rfl, st 3 _ _ _ rfl rfl, st 4 _ _ _ rfl rfl, st 5 _ _ _ rfl rfl, st 6 _ _ _ rfl rfl, st 7 _ _ _ rfl rfl]
  have e8 : (Op.eqItems (d + 1) 5 1 s.cells.toArray t.cells.toArray []).run Try.prog w = .ok true w := by simp [Op.eqItems]
  rw [e8]
  obtain ⟨s0, s1, s2, s3, s4, s5, s6, s7⟩ := s
  obtain ⟨t0, t1, t2, t3, t4, t5, t6, t7⟩ := t
  simp only [Sec.mk.injEq]
  by_cases h0 : s0 = t0 <;> by_cases h1 : s1 = t1 <;> by_cases h2 : s2 = t2 <;> by_cases h3 : s3 = t3 <;> by_cases h4 : s4 = t4 <;> by_cases h5 : s5 = t5 <;> by_cases h6 : s6 = t6 <;> by_cases h7 : s7 = t7 <;> simp [h0, h1, h2, h3, h4, h5, h6, h7]

def IsSec (v : Value) : Prop := ∃ s, v = secV s
open Classical in
noncomputable def unSec (v : Value) : Sec := if h : ∃ s, v = secV s then h.choose else Sec.zero
theorem secV_inj {s t : Sec} (h : secV s = secV t) : s = t := by
  unfold secV at h
  injection h with h
  have h' := congrArg Array.toList h
  simp only [Sec.cells] at h'
  obtain ⟨s0, s1, s2, s3, s4, s5, s6, s7⟩ := s
  obtain ⟨t0, t1, t2, t3, t4, t5, t6, t7⟩ := t
  simp only [Sec.bytes, List.map_cons, List.map_nil, List.cons.injEq, and_true] at h'
  obtain ⟨h0, h1, h2, h3, h4, h5, h6, h7⟩ := h'
  rw [B_inj h0, B_inj h1, B_inj h2, B_inj h3, B_inj h4, B_inj h5, B_inj h6, B_inj h7]
theorem unSec_secV (s : Sec) : unSec (secV s) = s := by
  have hx : ∃ s', secV s = secV s' := ⟨s, rfl⟩
  unfold unSec
  rw [dif_pos hx]
  exact (secV_inj hx.choose_spec).symm
theorem isSec_secV (s : Sec) : IsSec (secV s) = True := eq_true ⟨s, rfl⟩
theorem secV_zero : (Value.agg #[.int .u8 0, .int .u8 0, .int .u8 0, .int .u8 0, .int .u8 0, .int .u8 0, .int .u8 0, .int .u8 0]) = secV Sec.zero := rfl
theorem isSec_zero : IsSec (Value.agg #[.int .u8 0, .int .u8 0, .int .u8 0, .int .u8 0, .int .u8 0, .int .u8 0, .int .u8 0, .int .u8 0]) = True := eq_true ⟨Sec.zero, rfl⟩
theorem unSec_zero : unSec (Value.agg #[.int .u8 0, .int .u8 0, .int .u8 0, .int .u8 0, .int .u8 0, .int .u8 0, .int .u8 0, .int .u8 0]) = Sec.zero := by rw [secV_zero, unSec_secV]

theorem run_eqGuard_sec (w : World) (op : BinOp) (x y : Operand) (s t : Sec) : (eqGuard op 38 x y (secV s) (secV t)).run Try.prog w = .ok () w := run_eqGuard_agg w op 38 x y _ _ Try.eqGuardType38
/-- Comparing two sectors. -/
theorem run_eql_sec (w : World) (ev : Operand → Value) (d : Option Tmp) (x y : Operand) (yt ty : TypeId) (pos : String) (af : Array Edge) (g : Option (Nat × Bool)) (h : IsSec (ev x)) (h' : IsSec (ev y)) :
    (execOp ev ⟨d, .binOp .eql 38 x y yt, ty, pos, af, g⟩).run Try.prog w = .ok (.value (.bool (decide (unSec (ev x) = unSec (ev y))))) w := by
  obtain ⟨s, hs⟩ := h
  obtain ⟨t, ht⟩ := h'
  rw [hs, ht, unSec_secV, unSec_secV]
  have e1 := run_equalIn_sec w 9998 s t
  have e2 := run_eqGuard_sec w .eql x y s t
  have e3 := run_eql_struct (P := Try.prog) w 38 s.cells.toArray t.cells.toArray
  simp only [execOp, hs, ht, Sem.run_bind, e2, Result.andThen_ok]
  rw [show (binOp .eql 38 (secV s) (secV t)).run Try.prog w = _ from e3]
  rw [show (Op.equalIn 10000 38 (Value.agg s.cells.toArray) (.agg t.cells.toArray)).run Try.prog w = _ from e1]
  rfl
theorem run_neq_sec (w : World) (ev : Operand → Value) (d : Option Tmp) (x y : Operand) (yt ty : TypeId) (pos : String) (af : Array Edge) (g : Option (Nat × Bool)) (h : IsSec (ev x)) (h' : IsSec (ev y)) :
    (execOp ev ⟨d, .binOp .neq 38 x y yt, ty, pos, af, g⟩).run Try.prog w = .ok (.value (.bool (!decide (unSec (ev x) = unSec (ev y))))) w := by
  obtain ⟨s, hs⟩ := h
  obtain ⟨t, ht⟩ := h'
  rw [hs, ht, unSec_secV, unSec_secV]
  have e1 := run_equalIn_sec w 9998 s t
  have e2 := run_eqGuard_sec w .neq x y s t
  have e3 := run_neq_struct (P := Try.prog) w 38 s.cells.toArray t.cells.toArray
  simp only [execOp, hs, ht, Sem.run_bind, e2, Result.andThen_ok]
  rw [show (binOp .neq 38 (secV s) (secV t)).run Try.prog w = _ from e3]
  rw [show (Op.equalIn 10000 38 (Value.agg s.cells.toArray) (.agg t.cells.toArray)).run Try.prog w = _ from e1]
  rfl

/-- The same in a round. -/
theorem semAt_ne {ro : Option Nat} {ev : Operand → Value} {o : Oper} (h : ∀ c, o.op ≠ .defer c) : Oper.semAt ro ev o = execOp ev o := Oper.semAt_eq ro ev o h
theorem run_load_secIn (w : World) (ro : Option Nat) (ev : Operand → Value) (d : Option Tmp) (x : Operand) (ty : TypeId) (pos : String) (af : Array Edge) (g : Option (Nat × Bool)) (h : SecP w (ev x)) :
    (Oper.semAt ro ev ⟨d, .load 38 x, ty, pos, af, g⟩).run Try.prog w = .ok (.value (secV (secP w (ev x)))) w := by
  rw [semAt_ne (fun c hc => by cases hc)]
  exact run_load_sec w ev d x ty pos af g h

theorem agg24 (w : World) : (isAgg 24).run Try.prog w = .ok false w := by
  unfold isAgg
  rw [Sem.run_bind, run_underlying Try.underlying24 w]
  rfl
theorem run_load24 {w : World} {ro : Option Nat} {ev : Operand → Value} {d : Option Tmp} {x : Operand} {ty : TypeId} {pos : String} {af : Array Edge} {g : Option (Nat × Bool)} {a : Addr} {v : Value} (hx : ev x = .pointer (some a)) (h : w.cell? a = some v) :
    (Oper.semAt ro ev ⟨d, .load 24 x, ty, pos, af, g⟩).run Try.prog w = .ok (.value v) w := by
  rw [semAt_ne (fun c hc => by cases hc)]
  have h1 : (loadVar 24 a).run Try.prog w = .ok v w := by
    unfold loadVar
    rw [Sem.run_bind, agg24]
    simp [Result.andThen, load, Sem.run, h]
  simp [execOp, Instr.loadAt, Instr.sureAddr, hx, h1]
/-- The slice over a sector's variable. -/
theorem run_slice38 {w : World} {ro : Option Nat} {ev : Operand → Value} {d : Option Tmp} {x : Operand} {ty : TypeId} {pos : String} {af : Array Edge} {g : Option (Nat × Bool)} {a : Addr} (hx : ev x = .pointer (some a)) :
    (Oper.semAt ro ev ⟨d, .slice 38 x none none none, ty, pos, af, g⟩).run Try.prog w = .ok (.value (.slice (some a) 8 8)) w := by
  rw [semAt_ne (fun c hc => by cases hc)]
  have h5 : (sizeOf 5).run Try.prog w = .ok 1 w := E24.run_size w
  simp [execOp, Instr.sliceAt, Instr.sureAddr, hx, run_underlying Try.underlying38, Instr.sliceBounds, h5, Addr.add]

/-- x[l:h] of sectors. -/
theorem sslice_lohi {w : World} {A : Option Addr} {c : Nat} {xs : List Sec} (h : Secs w A c xs) (l m : Nat) (hm : l + m ≤ xs.length) :
    ∃ A' c' ys, Hid (ys = (xs.drop l).take m) ∧ ys.length = m ∧ (∀ w', (Instr.sliceAt 22 (.slice A xs.length c) (some (.int .i64 l)) (some (.int .i64 ((l : Int) + (m : Int)))) none).run Try.prog w' = .ok (.slice A' m c') w') ∧ Secs w A' c' ys := by
  obtain ⟨A', c', h1, h2⟩ := slice_lohi E22 h (by simp [flat_length]; omega) l (l + m) (by omega) hm
  have e : l + m - l = m := by omega
  rw [e] at h1 h2
  have hl : ((xs.drop l).take m).length = m := by rw [List.length_take, List.length_drop]; omega
  refine ⟨A', c', _, rfl, hl, h1, ?_⟩
  unfold Secs
  rw [hl]
  have e2 : (flat ((xs.drop l).take m)).map B = ((flat xs).map B |>.drop (l * 8)).take (m * 8) := by
    rw [← List.map_drop, ← List.map_take, flat_take, flat_drop]
  rw [e2]
  exact h2
end Go.Proofs.Ytfdkhopionknaaa
