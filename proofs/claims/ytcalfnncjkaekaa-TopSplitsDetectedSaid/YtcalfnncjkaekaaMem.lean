/- Words on memory for this seat's walks: bytes and sectors as cells, slices that are read, slices that the call itself owns, and the law of append over both. No program. -/
import Derived.WalkKit
import Derived.Deep.Draws
import Derived.OwnWalkIn
import Derived.RangeFuncNested
namespace Go.Proofs.Ytcalfnncjkaekaa
open Go.RowKit
set_option linter.unusedVariables false
set_option linter.unusedSimpArgs false

/-- A byte as a cell. -/
def B (b : UInt8) : Value := .int .u8 b.toNat

/-- A sector: eight bytes. -/
structure Sec where
  b0 : UInt8
  b1 : UInt8
  b2 : UInt8
  b3 : UInt8
  b4 : UInt8
  b5 : UInt8
  b6 : UInt8
  b7 : UInt8
  deriving DecidableEq

def Sec.bytes (s : Sec) : List UInt8 := [s.b0, s.b1, s.b2, s.b3, s.b4, s.b5, s.b6, s.b7]
def Sec.cells (s : Sec) : List Value := s.bytes.map B
def secV (s : Sec) : Value := .agg s.cells.toArray
def Sec.zero : Sec := ⟨0, 0, 0, 0, 0, 0, 0, 0⟩
/-- The sector of the first eight bytes (0 where there is none). -/
def secOf (l : List UInt8) : Sec := ⟨l.getD 0 0, l.getD 1 0, l.getD 2 0, l.getD 3 0, l.getD 4 0, l.getD 5 0, l.getD 6 0, l.getD 7 0⟩

@[simp] theorem Sec.bytes_length (s : Sec) : s.bytes.length = 8 := rfl
@[simp] theorem Sec.cells_length (s : Sec) : s.cells.length = 8 := rfl
theorem secOf_bytes (s : Sec) (l : List UInt8) : secOf (s.bytes ++ l) = s := rfl
theorem bytes_secOf (l : List UInt8) (h : 8 ≤ l.length) : (secOf l).bytes = l.take 8 := by
  match l, h with
  | a :: b :: c :: d :: e :: f :: g :: i :: l, _ => simp [secOf, Sec.bytes]

def flat (xs : List Sec) : List UInt8 := xs.flatMap Sec.bytes
theorem flat_length (xs : List Sec) : (flat xs).length = 8 * xs.length := by
  induction xs with
  | nil => rfl
  | cons s xs ih => simp only [flat, List.flatMap_cons, List.length_append, Sec.bytes_length, List.length_cons] at ih ⊢; omega
theorem flat_append (xs ys : List Sec) : flat (xs ++ ys) = flat xs ++ flat ys := by simp [flat]
theorem flat_drop (xs : List Sec) : ∀ k, flat (xs.drop k) = (flat xs).drop (k * 8) := by
  induction xs with
  | nil => intro k; simp [flat]
  | cons x xs ih =>
    intro k
    cases k with
    | zero => simp
    | succ k =>
      rw [List.drop_succ_cons, ih k]
      show _ = List.drop _ (x.bytes ++ flat xs)
      have hb : x.bytes.length = 8 := rfl
      rw [List.drop_append, List.drop_eq_nil_of_le (show x.bytes.length ≤ (k + 1) * 8 by rw [hb]; omega), List.nil_append, hb, show (k + 1) * 8 - 8 = k * 8 by omega]
theorem flat_take (xs : List Sec) : ∀ k, flat (xs.take k) = (flat xs).take (k * 8) := by
  induction xs with
  | nil => intro k; simp [flat]
  | cons x xs ih =>
    intro k
    cases k with
    | zero => simp [flat]
    | succ k =>
      rw [List.take_succ_cons]
      show x.bytes ++ flat (xs.take k) = List.take _ (x.bytes ++ flat xs)
      have hb : x.bytes.length = 8 := rfl
      rw [ih k, List.take_append, List.take_of_length_le (show x.bytes.length ≤ (k + 1) * 8 by rw [hb]; omega), hb, show (k + 1) * 8 - 8 = k * 8 by omega]
theorem flat_cons (s : Sec) (xs : List Sec) : flat (s :: xs) = s.bytes ++ flat xs := rfl

/-- The cells from address a on are cs. -/
def Row (w : World) (a : Addr) (cs : List Value) : Prop := ∀ j u, cs[j]? = some u → w.cell? (a.add j) = some u

/-- The slice .slice A n cap reads as the cells cs. -/
structure Rd (w : World) (A : Option Addr) (n cap : Nat) (cs : List Value) : Prop where
  le : n ≤ cap
  max : cap ≤ maxLen
  nil : A = none → n = 0 ∧ cap = 0 ∧ cs = []
  row : ∀ a, A = some a → Row w a cs

def Bytes (w : World) (A : Option Addr) (cap : Nat) (bs : List UInt8) : Prop := Rd w A bs.length cap (bs.map B)
def Secs (w : World) (A : Option Addr) (cap : Nat) (xs : List Sec) : Prop := Rd w A xs.length cap ((flat xs).map B)

/-- Cells that were there read as they did. -/
def Kp (w w' : World) : Prop := ∀ a u, w.cell? a = some u → w'.cell? a = some u
theorem Kp.refl (w : World) : Kp w w := fun _ _ h => h
theorem Kp.trans {a b c : World} (h : Kp a b) (k : Kp b c) : Kp a c := fun x u hx => k x u (h x u hx)
theorem Kp.of_below {w w' : World} (h : Below w.heap.size w w') : Kp w w' := fun _ _ hx => (h.cell (block_lt_of_cell hx)).trans hx
theorem Row.kp {w w' : World} {a : Addr} {cs : List Value} (h : Row w a cs) (k : Kp w w') : Row w' a cs := fun j u hj => k _ _ (h j u hj)
theorem Rd.kp {w w' : World} {A : Option Addr} {n cap : Nat} {cs : List Value} (h : Rd w A n cap cs) (k : Kp w w') : Rd w' A n cap cs :=
  ⟨h.le, h.max, h.nil, fun a ha => (h.row a ha).kp k⟩
theorem Bytes.kp {w w' : World} {A : Option Addr} {cap : Nat} {bs : List UInt8} (h : Bytes w A cap bs) (k : Kp w w') : Bytes w' A cap bs := Rd.kp h k
theorem Secs.kp {w w' : World} {A : Option Addr} {cap : Nat} {xs : List Sec} (h : Secs w A cap xs) (k : Kp w w') : Secs w' A cap xs := Rd.kp h k
theorem Rd.below {w w' : World} {A : Option Addr} {n cap : Nat} {cs : List Value} (h : Rd w A n cap cs) (k : Below w.heap.size w w') : Rd w' A n cap cs := h.kp (Kp.of_below k)
theorem Bytes.below {w w' : World} {A : Option Addr} {cap : Nat} {bs : List UInt8} (h : Bytes w A cap bs) (k : Below w.heap.size w w') : Bytes w' A cap bs := Rd.below h k
theorem Secs.below {w w' : World} {A : Option Addr} {cap : Nat} {xs : List Sec} (h : Secs w A cap xs) (k : Below w.heap.size w w') : Secs w' A cap xs := Rd.below h k

/-- The slice value v, of n elements of type e (size cells each), owns the cells xs: nil, or in a block from base on. -/
def Own (w : World) (base : Nat) (e : TypeId) (size : Nat) (v : Value) (n : Nat) (xs : List Value) : Prop :=
  xs.length = n * size ∧
  ((v = .slice none 0 0 ∧ n = 0) ∨
   ∃ g off cap cur, v = .slice (some ⟨g, off, none⟩) n cap ∧ base ≤ g ∧ w.heap[g]? = some (.cells cur e (0, 0)) ∧ n ≤ cap ∧ cap ≤ maxLen ∧
     off + cap * size ≤ cur.size ∧ (cur.toList.drop off).take (n * size) = xs)

theorem Own.nil (w : World) (base : Nat) (e : TypeId) (size : Nat) : Own w base e size (.slice none 0 0) 0 [] := ⟨by simp, .inl ⟨rfl, rfl⟩⟩

theorem Own.made (w : World) {base : Nat} (e : TypeId) {size : Nat} (cur : Array Value) (n cap : Nat) (hb : base ≤ w.heap.size) (hn : n ≤ cap) (hm : cap ≤ maxLen) (hs : cur.size = cap * size) :
    Own (w.alloc (.cells cur e)) base e size (.slice (some ⟨w.heap.size, 0, none⟩) n cap) n (cur.toList.take (n * size)) := by
  refine ⟨?_, .inr ⟨_, _, _, _, rfl, hb, heap_alloc_new w _, hn, hm, by omega, by simp⟩⟩
  have := Nat.mul_le_mul_right size hn
  simp; omega

section
variable {w : World} {base : Nat} {e : TypeId} {size : Nat} {v : Value} {n : Nat} {xs : List Value}

theorem Own.lt (h : Own w base e size v n xs) : ∀ k, v.ownBlock = some k → base ≤ k ∧ k < w.heap.size := by
  intro k hk
  rcases h.2 with ⟨rfl, _⟩ | ⟨g, off, cap, cur, rfl, hb, hg, _⟩
  · simp [Value.ownBlock] at hk
  · simp [Value.ownBlock] at hk
    subst hk
    exact ⟨hb, (Array.getElem?_eq_some_iff.1 hg).1⟩

theorem Own.kept {w' : World} {row : Option Nat} (h : Own w base e size v n xs) (hg : w.grownBy w' row) (hne : v.ownBlock = none ∨ v.ownBlock ≠ row) : Own w' base e size v n xs := by
  refine ⟨h.1, ?_⟩
  rcases h.2 with hn | ⟨g, off, cap, cur, rfl, hb, hgg, rest⟩
  · exact .inl hn
  · refine .inr ⟨g, off, cap, cur, rfl, hb, ?_, rest⟩
    rw [hg.block g (Array.getElem?_eq_some_iff.1 hgg).1 (by simpa [Value.ownBlock] using hne)]
    exact hgg

/-- Nothing that was there has turned. -/
theorem Own.below {w' : World} (h : Own w base e size v n xs) (hg : Below w.heap.size w w') : Own w' base e size v n xs :=
  h.kept (row := none) ⟨hg.os, hg.tape, hg.output, hg.size, fun k hk _ => hg.block k hk⟩ (by cases v.ownBlock <;> simp)
theorem Own.alloc (h : Own w base e size v n xs) (o : Obj) : Own (w.alloc o) base e size v n xs := h.below ((Below.refl _ _).alloc (Nat.le_refl _) o)
theorem Own.drew (h : Own w base e size v n xs) : Own w.drew base e size v n xs := h.below (Below.refl _ _).drew
theorem Own.mono {base' : Nat} (h : Own w base e size v n xs) (hb : base' ≤ base) : Own w base' e size v n xs := by
  refine ⟨h.1, ?_⟩
  rcases h.2 with hn | ⟨g, off, cap, cur, rfl, hbg, rest⟩
  · exact .inl hn
  · exact .inr ⟨g, off, cap, cur, rfl, by omega, rest⟩

/-- What is owned can be read. -/
theorem Own.rd (h : Own w base e size v n xs) : ∃ A cap, v = .slice A n cap ∧ Rd w A n cap xs := by
  obtain ⟨hl, ⟨rfl, rfl⟩ | ⟨g, off, cap, cur, rfl, hb, hgg, hn, hm, hsz, htake⟩⟩ := h
  · refine ⟨none, 0, rfl, Nat.le_refl _, Nat.zero_le _, fun _ => ⟨rfl, rfl, ?_⟩, fun a ha => by cases ha⟩
    exact List.eq_nil_of_length_eq_zero (by simpa using hl)
  · refine ⟨some ⟨g, off, none⟩, cap, rfl, hn, hm, (fun hx => by cases hx), ?_⟩
    intro a ha j u hu
    cases ha
    rw [Addr.add_lit, cell_of_row w g (off + j) cur e (0, 0) hgg]
    rw [← htake, List.getElem?_take] at hu
    split at hu
    · rw [List.getElem?_drop] at hu; simpa using hu
    · cases hu
theorem Own.len (h : Own w base e size v n xs) : xs.length = n * size := h.1
end

/-- A new block of cells, read as a slice. -/
theorem Row.new (w : World) (e : TypeId) (cur : Array Value) : Row (w.alloc (.cells cur e)) ⟨w.heap.size, 0, none⟩ cur.toList := by
  intro j u hj
  rw [Addr.add_lit, Nat.zero_add, cell_of_row _ _ j cur e (0, 0) (heap_alloc_new w _)]
  simpa using hj
theorem Rd.new (w : World) (e : TypeId) (cur : Array Value) (n : Nat) (hm : n ≤ maxLen) : Rd (w.alloc (.cells cur e)) (some ⟨w.heap.size, 0, none⟩) n n cur.toList :=
  ⟨Nat.le_refl _, hm, (fun h => by cases h), fun a ha => by cases ha; exact Row.new w e cur⟩

/-- From w to w': new blocks, and what v owns (now v') written or left; nothing else has turned. -/
structure Grew (w w' : World) (v v' : Value) : Prop where
  grown : w.grownBy w' v.ownBlock
  own : v'.ownBlock = v.ownBlock ∨ ∃ k, v'.ownBlock = some k ∧ w.heap.size ≤ k
theorem Grew.refl (w : World) (v : Value) : Grew w w v v := ⟨⟨rfl, rfl, rfl, Nat.le_refl _, fun _ _ _ => rfl⟩, .inl rfl⟩
theorem Grew.size {w w' : World} {v v' : Value} (h : Grew w w' v v') : w.heap.size ≤ w'.heap.size := h.grown.size
theorem Grew.trans {a b c : World} {v u t : Value} (h : Grew a b v u) (k : Grew b c u t) : Grew a c v t := by
  refine ⟨⟨k.grown.os.trans h.grown.os, k.grown.tape.trans h.grown.tape, k.grown.output.trans h.grown.output, Nat.le_trans h.grown.size k.grown.size, fun i hi hne => ?_⟩, ?_⟩
  · rw [k.grown.block i (Nat.lt_of_lt_of_le hi h.grown.size) ?_, h.grown.block i hi hne]
    rcases h.own with e | ⟨j, e, hj⟩
    · rwa [e]
    · rw [e]; intro hx; cases hx; omega
  · rcases k.own with e | ⟨j, e, hj⟩
    · rw [e]; exact h.own
    · exact .inr ⟨j, e, Nat.le_trans h.grown.size hj⟩
/-- Nothing that was there has turned. -/
theorem Grew.of_below {w w' : World} (v : Value) (h : Below w.heap.size w w') : Grew w w' v v := ⟨⟨h.os, h.tape, h.output, h.size, fun k hk _ => h.block k hk⟩, .inl rfl⟩
theorem Grew.alloc {a b : World} {v u : Value} (h : Grew a b v u) (o : Obj) : Grew a (b.alloc o) v u := h.trans (.of_below u ((Below.refl _ _).alloc (Nat.le_refl _) o))
theorem Grew.drew {a b : World} {v u : Value} (h : Grew a b v u) : Grew a b.drew v u := h.trans (.of_below u (Below.refl _ _).drew)
/-- What lies in another block than v's is as it was. -/
theorem Grew.block {w w' : World} {v v' : Value} (h : Grew w w' v v') (k : Nat) (hk : k < w.heap.size) (hne : some k ≠ v.ownBlock) : w'.heap[k]? = w.heap[k]? := h.grown.block k hk hne
/-- Where v is nil, or its block is from base on. -/
theorem Grew.below {w w' : World} {v v' : Value} {base : Nat} {e : TypeId} {size n : Nat} {xs : List Value} (h : Grew w w' v v') (hown : Own w base e size v n xs) (hb : base ≤ w.heap.size) : Below base w w' :=
  (Below.refl base w).grown h.grown hb fun k hk => (hown.lt k hk).1

/-- What a slice type's elements are in a program. -/
structure Elem (P : Program) (t e : TypeId) (size bytes : Nat) : Prop where
  und : P.underlying t = some (.slice e)
  info : ∃ i z, P.info? e = some i ∧ i.zero = some z ∧ i.size = size ∧ i.bytes = bytes ∧ z.cells.size = size
  pos : 0 < size

theorem Elem.run_size {P : Program} {t e : TypeId} {size bytes : Nat} (E : Elem P t e size bytes) (w : World) : (sizeOf e).run P w = .ok size w := by
  obtain ⟨i, z, hi, _, rfl, _⟩ := E.info
  simp [sizeOf, typeInfo, hi]
theorem sliced_some (a : Addr) (l h m s : Nat) : sliced (some a) l h m s = .slice (some (if m = l then a else a.add (l * s))) (h - l) (m - l) := by
  unfold sliced; split <;> simp
theorem sliced_none (l h m s : Nat) : sliced none l h m s = .slice none (h - l) (m - l) := by unfold sliced; split <;> simp
theorem Addr.add_add' (a : Addr) (i j : Nat) : (a.add i).add j = a.add (i + j) := by
  unfold Addr.add
  by_cases hi : i = 0
  · subst hi; simp
  · by_cases hj : j = 0
    · subst hj; simp [hi]
    · rw [if_neg hi, if_neg hj, if_neg (by omega)]; simp [Nat.add_assoc]

/-- x[l:h], x read. -/
theorem slice_lh {P : Program} {t e : TypeId} {size bytes : Nat} (_E : Elem P t e size bytes) {w : World} {A : Option Addr} {n c : Nat} {cs : List Value} (h : Rd w A n c cs) (hcs : cs.length = n * size)
    (l m : Nat) (hl : l ≤ m) (hm : m ≤ n) : ∃ A' c', sliced A l m c size = .slice A' (m - l) c' ∧ Rd w A' (m - l) c' ((cs.drop (l * size)).take ((m - l) * size)) := by
  have hle := h.le
  have hmax := h.max
  cases A with
  | none =>
    obtain ⟨rfl, rfl, rfl⟩ := h.nil rfl
    exact ⟨none, 0 - l, sliced_none _ _ _ _, by omega, by omega, fun _ => ⟨by omega, by omega, by simp⟩, (fun a ha => by cases ha)⟩
  | some a =>
    refine ⟨_, _, sliced_some _ _ _ _ _, by omega, by omega, (fun hx => by cases hx), ?_⟩
    intro b hb j u hu
    cases hb
    rw [List.getElem?_take] at hu
    split at hu
    · rename_i hj
      rw [List.getElem?_drop] at hu
      have hrow := h.row a rfl _ _ hu
      split
      · have : m - l = 0 := by omega
        rw [this] at hj; omega
      · rw [Addr.add_add']; exact hrow
    · cases hu
theorem slice_lo {P : Program} {t e : TypeId} {size bytes : Nat} (E : Elem P t e size bytes) {w : World} {A : Option Addr} {n c : Nat} {cs : List Value} (h : Rd w A n c cs) (hcs : cs.length = n * size)
    (l : Nat) (hl : l ≤ n) : ∃ A' c', (∀ w', (Instr.sliceAt t (.slice A n c) (some (.int .i64 l)) none none).run P w' = .ok (.slice A' (n - l) c') w') ∧ Rd w A' (n - l) c' (cs.drop (l * size)) := by
  obtain ⟨A', c', h1, h2⟩ := slice_lh E h hcs l n hl (Nat.le_refl _)
  refine ⟨A', c', fun w' => ?_, ?_⟩
  · have e1 : P.elem t = e := by simp [Program.elem, E.und]
    rw [run_sliceAt_slice w' _ _ _ _ _ (by rw [e1]; exact E.und), run_slice_l w' t A n c (by rw [e1]; exact E.und) _ _ (by omega) (by omega), e1, E.run_size, ← h1]
    simp [Result.andThen]
  · rwa [List.take_of_length_le (by rw [List.length_drop, hcs, Nat.sub_mul]; omega)] at h2
theorem slice_hi {P : Program} {t e : TypeId} {size bytes : Nat} (E : Elem P t e size bytes) {w : World} {A : Option Addr} {n c : Nat} {cs : List Value} (h : Rd w A n c cs) (hcs : cs.length = n * size)
    (m : Nat) (hm : m ≤ n) : ∃ A' c', (∀ w', (Instr.sliceAt t (.slice A n c) none (some (.int .i64 m)) none).run P w' = .ok (.slice A' m c') w') ∧ Rd w A' m c' (cs.take (m * size)) := by
  obtain ⟨A', c', h1, h2⟩ := slice_lh E h hcs 0 m (Nat.zero_le _) hm
  have hle := h.le
  refine ⟨A', c', fun w' => ?_, by simpa using h2⟩
  have e1 : P.elem t = e := by simp [Program.elem, E.und]
  rw [run_sliceAt_slice w' _ _ _ _ _ (by rw [e1]; exact E.und), run_slice_h w' t A n c (by rw [e1]; exact E.und) _ _ (by omega) (by omega), e1, E.run_size, Int.toNat_natCast]
  simp [Result.andThen, h1]
theorem slice_lohi {P : Program} {t e : TypeId} {size bytes : Nat} (E : Elem P t e size bytes) {w : World} {A : Option Addr} {n c : Nat} {cs : List Value} (h : Rd w A n c cs) (hcs : cs.length = n * size)
    (l m : Nat) (hl : l ≤ m) (hm : m ≤ n) : ∃ A' c', (∀ w', (Instr.sliceAt t (.slice A n c) (some (.int .i64 l)) (some (.int .i64 m)) none).run P w' = .ok (.slice A' (m - l) c') w') ∧ Rd w A' (m - l) c' ((cs.drop (l * size)).take ((m - l) * size)) := by
  obtain ⟨A', c', h1, h2⟩ := slice_lh E h hcs l m hl hm
  have hle := h.le
  refine ⟨A', c', fun w' => ?_, h2⟩
  have e1 : P.elem t = e := by simp [Program.elem, E.und]
  rw [run_sliceAt_slice w' _ _ _ _ _ (by rw [e1]; exact E.und), run_slice_lh w' t A n c (by rw [e1]; exact E.und) _ _ _ _ (by omega) (by omega) (by omega), e1, E.run_size, Int.toNat_natCast, Int.toNat_natCast]
  simp [Result.andThen, h1]

/-- append(v, x...), v owned, x read. -/
theorem run_append {P : Program} {t ty e : TypeId} {size bytes : Nat} (E : Elem P t e size bytes) {w : World} {base : Nat}
    {v : Value} {n : Nat} {xs : List Value} (hown : Own w base e size v n xs)
    {X : Option Addr} {m c : Nat} {news : List Value} (hrd : Rd w X m c news) (hl : news.length = m * size) (h1 : ∀ u ∈ news, u.oneCell' = true)
    (hbytes : (n + m) * bytes ≤ 140737488355328) (hb1 : 1 ≤ bytes) (hbase : base ≤ w.heap.size) :
    ∃ v' w', (Builtin.append_ #[t, t] ty #[v, .slice X m c]).run P w = .ok v' w' ∧ Own w' base e size v' (n + m) (xs ++ news) ∧ Grew w w' v v' := by
  suffices H : ∃ v' w', (Builtin.append_ #[t, t] ty #[v, .slice X m c]).run P w = .ok v' w' ∧ Own w' base e size v' (n + m) (xs ++ news) ∧ w.grownBy w' v.ownBlock ∧
      (v'.ownBlock = v.ownBlock ∨ ∃ k, v'.ownBlock = some k ∧ w.heap.size ≤ k) by
    obtain ⟨v', w', h1, h2, h3, h4⟩ := H
    exact ⟨v', w', h1, h2, h3, h4⟩
  obtain ⟨ht, ⟨i, z, hi, hz, rfl, rfl, hzs⟩, hsz⟩ := E
  have hnm : n + m ≤ 140737488355328 := Nat.le_trans (Nat.le_mul_of_pos_right (n + m) hb1) hbytes
  have h63 : n + m ≤ maxLen := by unfold maxLen; omega
  have hlen : (xs ++ news).length = (n + m) * i.size := by rw [List.length_append, hown.1, hl, Nat.add_mul]
  have grown : ∀ (old : Nat) (row : Option Nat),
      Own (w.drew.alloc (.cells (xs.toArray ++ news.toArray ++ Builtin.zeroCells z.cells (grownCap w (n + m) old e - (n + m))) e)) base e i.size
        (.slice (some ⟨w.heap.size, 0, none⟩) (n + m) (grownCap w (n + m) old e)) (n + m) (xs ++ news) ∧
      w.grownBy (w.drew.alloc (.cells (xs.toArray ++ news.toArray ++ Builtin.zeroCells z.cells (grownCap w (n + m) old e - (n + m))) e)) row := by
    intro old row
    have hge := grownCap_ge w (n + m) old e
    have hcm : grownCap w (n + m) old e ≤ maxLen := grownCap_le_maxLen w (n + m) old e h63
    refine ⟨⟨hlen, .inr ⟨w.heap.size, 0, _, _, rfl, hbase, heap_alloc_new w.drew _, hge, hcm, ?_, ?_⟩⟩, ⟨rfl, rfl, rfl, (by simp), fun k hk _ => Below.heap_alloc w.drew _ k hk⟩⟩
    · simp only [Array.size_append, List.size_toArray, size_zeroCells, hzs, hown.1, hl, ← Nat.add_mul]
      have : n + m + (grownCap w (n + m) old e - (n + m)) = grownCap w (n + m) old e := by omega
      rw [this]; omega
    · simp only [Array.toList_append, List.append_assoc, List.drop_zero]
      rw [← List.append_assoc, ← hlen]
      exact List.take_left
  cases X with
  | none =>
    obtain ⟨rfl, rfl, rfl⟩ := hrd.nil rfl
    refine ⟨v, w, ?_, by simpa using hown, ⟨rfl, rfl, rfl, Nat.le_refl _, fun _ _ _ => rfl⟩, .inl rfl⟩
    obtain ⟨A, cap, rfl, hr⟩ := hown.rd
    have := hr.le
    cases A with
    | none => simp [Builtin.append_, run_underlying ht, sizeOf, typeInfo, hi, Builtin.lenOf, Builtin.firstCells, this]
    | some a => simp [Builtin.append_, run_underlying ht, sizeOf, typeInfo, hi, Builtin.lenOf, Builtin.firstCells, this, storeCells]
  | some a =>
    have hnews := hrd.row a rfl
    rcases hown.2 with ⟨rfl, rfl⟩ | ⟨g, off, cap, cur, rfl, hbg, hg, hnc, hcm, hcs, htake⟩
    · have hx : xs = [] := List.eq_nil_of_length_eq_zero (by simpa using hown.1)
      subst hx
      by_cases hm : m = 0
      · subst hm
        have hn : news = [] := List.eq_nil_of_length_eq_zero (by simpa using hl)
        subst hn
        refine ⟨.slice none 0 0, w, ?_, Own.nil w base e i.size, ⟨rfl, rfl, rfl, Nat.le_refl _, fun _ _ _ => rfl⟩, .inl rfl⟩
        simp [Builtin.append_, run_underlying ht, sizeOf, typeInfo, hi, Builtin.lenOf, Builtin.firstCells, loadCells, loadCellsFrom]
      · have hr := run_append_nil (P := P) w t ty e i z ht hi hz a m c news hl hnews (by omega) (by omega) (by have hb := hbytes; simp only [Nat.zero_add] at hb; omega)
        have hgr := grown 0 (Value.ownBlock (.slice none 0 0))
        simp only [Nat.zero_add, List.nil_append, Array.empty_append] at hgr ⊢
        exact ⟨_, _, hr, hgr.1, hgr.2, .inr ⟨_, rfl, Nat.le_refl _⟩⟩
    · by_cases hroom : n + m ≤ cap
      · have hfit : off + n * i.size + 0 + news.length ≤ cur.size := by
          have := Nat.mul_le_mul_right i.size hroom
          rw [hl]; rw [Nat.add_mul] at this; omega
        have hf := run_firstCells_some (P := P) w i.size m a m c news hl hnews
        have hst := run_storeCells_at P g (off + n * i.size) e news 0 cur w hg hfit h1
        simp only [Nat.add_zero] at hst
        refine ⟨.slice (some ⟨g, off, none⟩) (n + m) cap, w.setRow g (cur.toList.take (off + n * i.size) ++ news ++ cur.toList.drop (off + n * i.size + news.length)).toArray, by simp [Builtin.append_, run_underlying ht, sizeOf, typeInfo, hi, Builtin.lenOf, hroom, hf, Addr.add_lit, hst], ?_, ?_, .inl rfl⟩
        · refine ⟨hlen, .inr ⟨g, off, cap, _, rfl, hbg, setRow_heap w g cur _ e _ hg, hroom, hcm, ?_, ?_⟩⟩
          · simp only [List.size_toArray, List.length_append, List.length_take, List.length_drop, Array.length_toList]
            omega
          · have hcl : off + n * i.size ≤ cur.toList.length := by simp; omega
            have e1 : cur.toList.take (off + n * i.size) = cur.toList.take off ++ xs := by
              rw [List.take_add, htake]
            have e2 : (cur.toList.take off).length = off := by rw [List.length_take]; omega
            rw [e1, List.append_assoc, List.append_assoc]
            show List.take _ (List.drop off (cur.toList.take off ++ _)) = _
            rw [List.drop_left' e2, ← List.append_assoc, ← hlen]
            exact List.take_left
        · exact ⟨rfl, rfl, rfl, (by simp), fun k _ hk => setRow_other w g k _ (fun e => hk (by simp [Value.ownBlock, e]))⟩
      · obtain ⟨A', cap', hv, hr'⟩ := hown.rd
        cases hv
        have hr := run_append_grow (P := P) w t ty e i z ht hi hz ⟨g, off, none⟩ n cap xs hown.1 (hr'.row _ rfl) a m c news hl hnews (by omega) (by omega) (growslice_fits (by omega) hbytes)
        have hgr := grown cap (Value.ownBlock (.slice (some ⟨g, off, none⟩) n cap))
        exact ⟨_, _, hr, hgr.1, hgr.2, .inr ⟨_, rfl, Nat.le_refl _⟩⟩

/-- The same at a walk's operation. -/
theorem step_append {P : Program} {t e : TypeId} {size bytes : Nat} (E : Elem P t e size bytes) {ops : Array Oper} {rest : List Oper} {o : Oper} {a : Act} {w : World} {Q : Exit → Act → World → Prop}
    (hgd : o.guard = none) (s x : Operand) (ho : o.op = .call { callee := .builtin .append, args := #[s, x], argTypes := #[t, t] })
    (base : Nat) {v : Value} {n : Nat} {xs : List Value} (hs : a.eval s = v) (hown : Own w base e size v n xs)
    {X : Option Addr} {m c : Nat} {news : List Value} (hx : a.eval x = .slice X m c) (hrd : Rd w X m c news) (hl : news.length = m * size) (h1 : ∀ u ∈ news, u.oneCell' = true)
    (hbytes : (n + m) * bytes ≤ 140737488355328) (hb1 : 1 ≤ bytes) (hbase : base ≤ w.heap.size)
    (h : ∀ v' w', Own w' base e size v' (n + m) (xs ++ news) → Grew w w' v v' → wpList P ops Q rest (a.put o.dst v') w') :
    wpList P ops Q (o :: rest) a w := by
  refine wpList_plain hgd fun K hK => ?_
  obtain ⟨v', w', hr, h2, h3⟩ := run_append (P := P) (ty := o.type) E hown hrd hl h1 hbytes hb1 hbase
  unfold Oper.wp execOp
  simp only [ho, resolve, invoke, builtin, Sem.run_bind, Sem.run_pure, Result.andThen_ok, List.map_toArray, List.map_cons, List.map_nil, hs, hx, hr]
  exact hK _ _ (h v' w' h2 h3)

theorem Bytes.parts {w : World} {A : Option Addr} {cap : Nat} {bs : List UInt8} (h : Bytes w A cap bs) : (A = none ∧ cap = 0 ∧ bs = []) ∨ ∃ a, A = some a := by
  cases A with
  | none => obtain ⟨_, h1, h2⟩ := h.nil rfl; exact .inl ⟨rfl, h1, by simpa using h2⟩
  | some a => exact .inr ⟨a, rfl⟩
theorem Secs.parts {w : World} {A : Option Addr} {cap : Nat} {xs : List Sec} (h : Secs w A cap xs) : (A = none ∧ cap = 0 ∧ xs = []) ∨ ∃ a, A = some a := by
  cases A with
  | none => obtain ⟨h0, h1, h2⟩ := h.nil rfl; exact .inl ⟨rfl, h1, List.eq_nil_of_length_eq_zero h0⟩
  | some a => exact .inr ⟨a, rfl⟩

/-- A store into a cell that holds no byte: bytes stay. -/
theorem rd_set {w : World} {A : Option Addr} {n cap : Nat} {bs : List UInt8} (h : Rd w A n cap (bs.map B)) {p : Addr} {v : Value} (hp : w.cell? p = some v) (hv : ∀ b, v ≠ B b) (u : Value) : Rd (w.setCell p u) A n cap (bs.map B) := by
  refine ⟨h.le, h.max, h.nil, fun a ha j x hx => ?_⟩
  have h1 := h.row a ha j x hx
  rw [World.cell?_setCell_other]
  · exact h1
  · rintro rfl
    rw [hp] at h1
    obtain ⟨b, _, hb⟩ : ∃ b, b ∈ bs ∧ B b = x := by simpa using List.mem_of_getElem? hx
    cases h1
    exact hv b hb.symm
theorem Bytes.set {w : World} {A : Option Addr} {cap : Nat} {bs : List UInt8} (h : Bytes w A cap bs) {p : Addr} {v : Value} (hp : w.cell? p = some v) (hv : ∀ b, v ≠ B b) (u : Value) : Bytes (w.setCell p u) A cap bs := rd_set h hp hv u
theorem Secs.set {w : World} {A : Option Addr} {cap : Nat} {xs : List Sec} (h : Secs w A cap xs) {p : Addr} {v : Value} (hp : w.cell? p = some v) (hv : ∀ b, v ≠ B b) (u : Value) : Secs (w.setCell p u) A cap xs := rd_set h hp hv u

/-- A new block, its world under a name. -/
theorem alloc_facts (w : World) (cs : Array Value) (t : TypeId) : ∃ w1, w.alloc (.cells cs t) = w1 ∧ w1.heap[w.heap.size]? = some (.cells cs t (0, 0)) ∧ Below w.heap.size w w1 ∧ w1.heap.size = w.heap.size + 1 :=
  ⟨_, rfl, heap_alloc_new w _, (Below.refl _ _).alloc (Nat.le_refl _) _, by simp⟩
/-- A store into a block that is known whole. -/
theorem set_facts {w : World} {g : Nat} {cs : Array Value} {t : TypeId} (h : w.heap[g]? = some (.cells cs t (0, 0))) (i : Nat) (v : Value) :
    (w.setCell ⟨g, i, none⟩ v).heap[g]? = some (.cells (cs.setIfInBounds i v) t (0, 0)) := heap_setCell_same w g i cs t v h
theorem Secs.drews {w : World} {A : Option Addr} {cap : Nat} {xs : List Sec} (h : Secs w A cap xs) (n : Nat) : Secs (w.drewN n) A cap xs := h.kp (fun _ _ h => h)
theorem Bytes.drews {w : World} {A : Option Addr} {cap : Nat} {bs : List UInt8} (h : Bytes w A cap bs) (n : Nat) : Bytes (w.drewN n) A cap bs := h.kp (fun _ _ h => h)
theorem below_drews {B : Nat} {a w : World} (h : Below B a w) (n : Nat) : Below B a (w.drewN n) := ⟨h.os, h.tape, h.output, h.size, h.block⟩

/-- Where a walk is to stand still. -/
def Stop (p : Prop) : Prop := p
theorem Stop.at {p : Prop} (h : Stop p) : p := h
theorem Stop.go {p : Prop} (h : p) : Stop p := h

def Oper.isStore (o : Oper) (t : TypeId) : Bool := match o.op with | .store t' _ _ => t == t' | _ => false
theorem Stop.store {P : Program} {ops : Array Oper} {Q : Exit → Act → World → Prop} {o : Oper} {rest : List Oper} {a : Act} {w : World} (t : TypeId) (_h : Oper.isStore o t = true) (g : Stop (wpList P ops Q (o :: rest) a w)) : wpList P ops Q (o :: rest) a w := g

/-- A whole struct, or array, stored over a whole block. -/
theorem run_storeVar_row {P : Program} {w : World} {t e : TypeId} {g : Nat} {cs vs : Array Value} (hg : w.heap[g]? = some (.cells cs e (0, 0))) (hsz : (P.info? t).map (·.size) = some vs.size) (hs : vs.size = cs.size)
    (h1 : ∀ u ∈ vs.toList, u.oneCell' = true) : (storeVar t ⟨g, 0, none⟩ (.agg vs)).run P w = .ok () (w.setRow g vs) := by
  cases hi : P.info? t with
  | none => simp [hi] at hsz
  | some i =>
    have hsz' : i.size = vs.size := by simpa [hi] using hsz
    have hst := run_storeCells_at P g 0 e vs.toList 0 cs w hg (by simp; omega) h1
    have hsz2 : (sizeOf t).run P w = .ok vs.size w := by simp [sizeOf, typeInfo, hi, hsz']
    unfold storeVar
    rw [Sem.run_bind, hsz2]
    simp only [Result.andThen_ok, Value.cells, ne_eq, not_true_eq_false, if_false]
    rw [show (cs.toList.take (0 + 0) ++ vs.toList ++ cs.toList.drop (0 + 0 + vs.toList.length)).toArray = vs from by rw [List.drop_eq_nil_of_le (by simp; omega)]; simp] at hst
    exact hst
theorem setRow_facts {w : World} {g : Nat} {cs : Array Value} {e : TypeId} (hg : w.heap[g]? = some (.cells cs e (0, 0))) (vs : Array Value) :
    (w.setRow g vs).heap[g]? = some (.cells vs e (0, 0)) ∧ w.grownBy (w.setRow g vs) (some g) ∧ (w.setRow g vs).heap.size = w.heap.size :=
  ⟨setRow_heap w g cs vs e _ hg, ⟨rfl, rfl, rfl, by simp, fun k _ hk => setRow_other w g k _ (fun e => hk (by simp [e]))⟩, by simp⟩
theorem step_store_row {P : Program} {ops : Array Oper} {rest : List Oper} {o : Oper} {a : Act} {w : World} {Q : Exit → Act → World → Prop}
    (hgd : o.guard = none) (t : TypeId) (x y : Operand) (ho : o.op = .store t x y) {g : Nat} (hx : a.eval x = .pointer (some ⟨g, 0, none⟩)) {cs : Array Value} {e : TypeId} (hg : w.heap[g]? = some (.cells cs e (0, 0)))
    {vs : Array Value} (hy : a.eval y = .agg vs) (hsz : (P.info? t).map (·.size) = some vs.size) (hs : vs.size = cs.size) (h1 : ∀ u ∈ vs.toList, u.oneCell' = true)
    (h : ∀ w', w'.heap[g]? = some (.cells vs e (0, 0)) → w.grownBy w' (some g) → w'.heap.size = w.heap.size → wpList P ops Q rest (a.put o.dst undef) w') : wpList P ops Q (o :: rest) a w := by
  refine wpList_plain hgd fun K hK => ?_
  obtain ⟨f1, f2, f3⟩ := setRow_facts hg vs
  unfold Oper.wp execOp
  simp only [ho, hx, hy, Instr.storeAt, Instr.sureAddr, Sem.run_bind, Sem.run_pure, Result.andThen_ok, run_storeVar_row hg hsz hs h1]
  exact hK _ _ (h _ f1 f2 f3)

theorem Stop.storeIn {F : Fence} {n : Nat} {P : Program} {ops : Array Oper} {Q : Exit → Act → World → Prop} {o : Oper} {rest : List Oper} {a : Act} {w : World} (t : TypeId) (_h : Oper.isStore o t = true) (g : Stop (wpListIn F n P ops Q (o :: rest) a w)) : wpListIn F n P ops Q (o :: rest) a w := g

theorem about_none {P : Program} {o : Oper} {w : World} {ev : Operand → Value} {F : Fence} (h : F = Fence.wide ∨ ∃ l, F = Fence.wide.inRound l) : ∀ f, o.about P w ev = some f → F.fn f := by
  intro f _
  rcases h with rfl | ⟨l, rfl⟩ <;> trivial
/-- A value of one cell stored into a known block. -/
theorem run_storeVar_one {P : Program} {w : World} {t e : TypeId} {g i : Nat} {cs : Array Value} {v : Value} (hg : w.heap[g]? = some (.cells cs e (0, 0))) (hi : i < cs.size) (hsz : (P.info? t).map (·.size) = some 1) (hv : v.cells = #[v])
    (h1 : v.oneCell' = true) : (storeVar t ⟨g, i, none⟩ v).run P w = .ok () (w.setRow g (cs.setIfInBounds i v)) := by
  cases hi' : P.info? t with
  | none => simp [hi'] at hsz
  | some inf =>
    have hsz' : inf.size = 1 := by simpa [hi'] using hsz
    have hst := run_storeCells_at P g i e [v] 0 cs w hg (by simp; omega) (by simpa using h1)
    have hsz2 : (sizeOf t).run P w = .ok 1 w := by simp [sizeOf, typeInfo, hi', hsz']
    unfold storeVar
    rw [Sem.run_bind, hsz2]
    simp only [Result.andThen_ok, hv, ne_eq, List.size_toArray, List.length_singleton, not_true_eq_false, if_false]
    have e1 : (cs.toList.take (i + 0) ++ [v] ++ cs.toList.drop (i + 0 + [v].length)).toArray = cs.setIfInBounds i v := by
      apply Array.ext'
      rw [Array.toList_setIfInBounds, List.set_eq_take_append_cons_drop, if_pos (by simpa using hi)]
      simp
    rw [e1] at hst
    exact hst
theorem step_store_one {P : Program} {ops : Array Oper} {rest : List Oper} {o : Oper} {a : Act} {w : World} {Q : Exit → Act → World → Prop}
    (hgd : o.guard = none) (t : TypeId) (x y : Operand) (ho : o.op = .store t x y) {g i : Nat} (hx : a.eval x = .pointer (some ⟨g, i, none⟩)) {cs : Array Value} {e : TypeId} (hg : w.heap[g]? = some (.cells cs e (0, 0))) (hi : i < cs.size)
    {v : Value} (hy : a.eval y = v) (hsz : (P.info? t).map (·.size) = some 1) (hv : v.cells = #[v]) (h1 : v.oneCell' = true)
    (h : ∀ w', w'.heap[g]? = some (.cells (cs.setIfInBounds i v) e (0, 0)) → w.grownBy w' (some g) → w'.heap.size = w.heap.size → wpList P ops Q rest (a.put o.dst undef) w') : wpList P ops Q (o :: rest) a w := by
  refine wpList_plain hgd fun K hK => ?_
  obtain ⟨f1, f2, f3⟩ := setRow_facts hg (cs.setIfInBounds i v)
  unfold Oper.wp execOp
  simp only [ho, hx, hy, Instr.storeAt, Instr.sureAddr, Sem.run_bind, Sem.run_pure, Result.andThen_ok, run_storeVar_one hg hi hsz hv h1]
  exact hK _ _ (h _ f1 f2 f3)
theorem step_store_oneIn {F : Fence} (hF : F = Fence.wide ∨ ∃ l, F = Fence.wide.inRound l) {m : Nat} {P : Program} {ops : Array Oper} {rest : List Oper} {o : Oper} {a : Act} {w : World} {Q : Exit → Act → World → Prop}
    (hgd : o.guard = none) (t : TypeId) (x y : Operand) (ho : o.op = .store t x y) {g i : Nat} (hx : a.eval x = .pointer (some ⟨g, i, none⟩)) {cs : Array Value} {e : TypeId} (hg : w.heap[g]? = some (.cells cs e (0, 0))) (hi : i < cs.size)
    {v : Value} (hy : a.eval y = v) (hsz : (P.info? t).map (·.size) = some 1) (hv : v.cells = #[v]) (h1 : v.oneCell' = true)
    (h : ∀ w', w'.heap[g]? = some (.cells (cs.setIfInBounds i v) e (0, 0)) → w.grownBy w' (some g) → w'.heap.size = w.heap.size → wpListIn F m P ops Q rest (a.put o.dst undef) w') : wpListIn F m P ops Q (o :: rest) a w := by
  refine wpListIn_plain hgd fun K hK => ?_
  obtain ⟨f1, f2, f3⟩ := setRow_facts hg (cs.setIfInBounds i v)
  refine ⟨about_none hF, ?_⟩
  rw [Oper.semAt_plain F a.eval o (fun c hc => by rw [ho] at hc; cases hc)]
  unfold execOp
  simp only [ho, hx, hy, Instr.storeAt, Instr.sureAddr, Sem.run_bind, Sem.run_pure, Result.andThen_ok, run_storeVar_one hg hi hsz hv h1]
  exact hK _ _ (h _ f1 f2 f3)

/-- From W to W': below B nothing has turned; whatever is no cells is as it was; blocks of cells of other types than bytes and slices are as they were. -/
structure Keep3 (B : Nat) (W W' : World) : Prop where
  below : Below B W W'
  others : ∀ (k : Nat) (o : Obj), W.heap[k]? = some o → o.isCells = false → W'.heap[k]? = some o
  typed : ∀ (k : Nat) (cs : Array Value) (t : TypeId) (fr : Nat × Nat), W.heap[k]? = some (.cells cs t fr) → t ≠ 5 → t ≠ 24 → W'.heap[k]? = some (.cells cs t fr)
theorem Keep3.refl (B : Nat) (W : World) : Keep3 B W W := ⟨Below.refl _ _, fun _ _ h _ => h, fun _ _ _ _ h _ _ => h⟩
theorem Keep3.trans {B : Nat} {X Y Z : World} (h : Keep3 B X Y) (k : Keep3 B Y Z) : Keep3 B X Z :=
  ⟨h.below.trans k.below, fun i o hi ho => k.others i o (h.others i o hi ho) ho, fun i cs t fr hi h5 h24 => k.typed i cs t fr (h.typed i cs t fr hi h5 h24) h5 h24⟩
theorem lt_of_heap {W : World} {k : Nat} {o : Obj} (h : W.heap[k]? = some o) : k < W.heap.size := (Array.getElem?_eq_some_iff.1 h).1
theorem Keep3.of_below {B : Nat} {W W' : World} (h : Below W.heap.size W W') (hB : B ≤ W.heap.size) : Keep3 B W W' :=
  ⟨h.mono hB, fun k o hk _ => (h.block k (lt_of_heap hk)).trans hk, fun k cs t fr hk _ _ => (h.block k (lt_of_heap hk)).trans hk⟩
theorem Keep3.of_grown {B : Nat} {W W' : World} {g : Nat} {cs : Array Value} {t : TypeId} {fr : Nat × Nat} (hg : W.heap[g]? = some (.cells cs t fr)) (ht : t = 5 ∨ t = 24) (h : W.grownBy W' (some g)) (hB : B ≤ g) (hB2 : B ≤ W.heap.size) : Keep3 B W W' := by
  have hne : ∀ (k : Nat) (o : Obj), W.heap[k]? = some o → (∀ (cs' : Array Value) (fr' : Nat × Nat), o ≠ Obj.cells cs' t fr') → W'.heap[k]? = some o := fun k o hk ho =>
    (h.block k (lt_of_heap hk) (fun e => by cases e; rw [hg] at hk; cases hk; exact ho _ _ rfl)).trans hk
  refine ⟨(Below.refl _ _).grown h hB2 (fun k hk => by cases hk; exact hB), fun k o hk ho => hne k o hk (fun _ _ e => by subst e; cases ho), fun k cs' t' fr' hk h5 h24 => hne k _ hk (fun _ _ e => ?_)⟩
  cases e
  rcases ht with rfl | rfl
  · exact h5 rfl
  · exact h24 rfl
theorem Keep3.of_grew {B : Nat} {W W' : World} {v v' : Value} {n : Nat} {xs : List Value} (hown : Own W B 5 1 v n xs) (h : Grew W W' v v') (hB : B ≤ W.heap.size) : Keep3 B W W' := by
  rcases hown.2 with ⟨rfl, _⟩ | ⟨g, off, cap, cur, rfl, hb, hg, _⟩
  · exact Keep3.of_below ⟨h.grown.os, h.grown.tape, h.grown.output, h.grown.size, fun k hk => h.grown.block k hk (by simp [Value.ownBlock])⟩ hB
  · exact Keep3.of_grown hg (.inl rfl) h.grown hb hB

/-- The step laws inside a round. -/
theorem step_store_rowIn {F : Fence} (hF : F = Fence.wide ∨ ∃ l, F = Fence.wide.inRound l) {m : Nat} {P : Program} {ops : Array Oper} {rest : List Oper} {o : Oper} {a : Act} {w : World} {Q : Exit → Act → World → Prop}
    (hgd : o.guard = none) (t : TypeId) (x y : Operand) (ho : o.op = .store t x y) {g : Nat} (hx : a.eval x = .pointer (some ⟨g, 0, none⟩)) {cs : Array Value} {e : TypeId} (hg : w.heap[g]? = some (.cells cs e (0, 0)))
    {vs : Array Value} (hy : a.eval y = .agg vs) (hsz : (P.info? t).map (·.size) = some vs.size) (hs : vs.size = cs.size) (h1 : ∀ u ∈ vs.toList, u.oneCell' = true)
    (h : ∀ w', w'.heap[g]? = some (.cells vs e (0, 0)) → w.grownBy w' (some g) → w'.heap.size = w.heap.size → wpListIn F m P ops Q rest (a.put o.dst undef) w') : wpListIn F m P ops Q (o :: rest) a w := by
  refine wpListIn_plain hgd fun K hK => ?_
  obtain ⟨f1, f2, f3⟩ := setRow_facts hg vs
  refine ⟨about_none hF, ?_⟩
  rw [Oper.semAt_plain F a.eval o (fun c hc => by rw [ho] at hc; cases hc)]
  unfold execOp
  simp only [ho, hx, hy, Instr.storeAt, Instr.sureAddr, Sem.run_bind, Sem.run_pure, Result.andThen_ok, run_storeVar_row hg hsz hs h1]
  exact hK _ _ (h _ f1 f2 f3)
theorem step_appendIn {F : Fence} (hF : F = Fence.wide ∨ ∃ l, F = Fence.wide.inRound l) {mm : Nat} {P : Program} {t e : TypeId} {size bytes : Nat} (E : Elem P t e size bytes) {ops : Array Oper} {rest : List Oper} {o : Oper} {a : Act} {w : World} {Q : Exit → Act → World → Prop}
    (hgd : o.guard = none) (s x : Operand) (ho : o.op = .call { callee := .builtin .append, args := #[s, x], argTypes := #[t, t] })
    (base : Nat) {v : Value} {n : Nat} {xs : List Value} (hs : a.eval s = v) (hown : Own w base e size v n xs)
    {X : Option Addr} {m c : Nat} {news : List Value} (hx : a.eval x = .slice X m c) (hrd : Rd w X m c news) (hl : news.length = m * size) (h1 : ∀ u ∈ news, u.oneCell' = true)
    (hbytes : (n + m) * bytes ≤ 140737488355328) (hb1 : 1 ≤ bytes) (hbase : base ≤ w.heap.size)
    (h : ∀ v' w', Own w' base e size v' (n + m) (xs ++ news) → Grew w w' v v' → wpListIn F mm P ops Q rest (a.put o.dst v') w') :
    wpListIn F mm P ops Q (o :: rest) a w := by
  refine wpListIn_plain hgd fun K hK => ?_
  obtain ⟨v', w', hr, h2, h3⟩ := run_append (P := P) (ty := o.type) E hown hrd hl h1 hbytes hb1 hbase
  refine ⟨about_none hF, ?_⟩
  rw [Oper.semAt_plain F a.eval o (fun c hc => by rw [ho] at hc; cases hc)]
  unfold execOp
  simp only [ho, resolve, invoke, builtin, Sem.run_bind, Sem.run_pure, Result.andThen_ok, List.map_toArray, List.map_cons, List.map_nil, hs, hx, hr]
  exact hK _ _ (h v' w' h2 h3)

theorem oneCell_B (bs : List UInt8) : ∀ u ∈ bs.map B, u.oneCell' = true := by
  intro u hu
  obtain ⟨b, _, rfl⟩ := List.mem_map.1 hu
  rfl
end Go.Proofs.Ytcalfnncjkaekaa
