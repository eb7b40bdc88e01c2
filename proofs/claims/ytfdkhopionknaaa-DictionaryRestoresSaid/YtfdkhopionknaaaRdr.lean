/- The reader's group (program's text). -/
import Derived.Test.YtfdkhopionknaaaRead
import Derived.Test.YtfdkhopionknaaaDec
import Derived.Test.YtfdkhopionknaaaZeros
import Derived.Test.YtfdkhopionknaaaBld
namespace Go.Proofs.Ytfdkhopionknaaa
open Go.RowKit
set_option linter.unusedVariables false
set_option linter.unusedSimpArgs false
attribute [local go_sem ↓] run_load_sec run_build_sec
attribute [local go_sem] isSec_secV unSec_secV

theorem below_of_grown {w w' : World} {R : Nat} (hg : w.grownBy w' (some R)) (hR : R ≤ w.heap.size) : Below R w w' := ⟨hg.os, hg.tape, hg.output, hg.size, fun k hk => hg.block k (by omega) (fun e => by have := Option.some.inj e; omega)⟩
/-- The bytes' block lies below R, or holds bytes. -/
def Safe (R : Nat) (W : World) (A : Option Addr) : Prop := ∀ a, A = some a → a.block < R ∨ ∃ cur fr, W.heap[a.block]? = some (.cells cur 5 fr)
theorem Safe.of_own {R base : Nat} {W : World} {A : Option Addr} {n c : Nat} {xs : List Value} (h : Own W base 5 1 (.slice A n c) n xs) : Safe R W A := by
  intro a ha
  rcases h.2 with ⟨e, _⟩ | ⟨g, off, cap, cur, e, _, hg, _⟩
  · cases e; cases ha
  · cases e; cases ha; exact .inr ⟨_, _, hg⟩
theorem Safe.grown {R g : Nat} {W W' : World} {A : Option Addr} {c : Nat} {bs : List UInt8} (hs : Safe R W A) (hb : Bytes W A c bs) (hg : W.grownBy W' (some g)) (hR : R ≤ g) {cs : Array Value} {t : TypeId} {fr : Nat × Nat} (hc : W.heap[g]? = some (.cells cs t fr)) (ht : t ≠ 5) :
    Safe R W' A ∧ Bytes W' A c bs := by
  have hk : ∀ a, A = some a → a.block < W.heap.size → W'.heap[a.block]? = W.heap[a.block]? := fun a ha hl => hg.block _ hl (fun e => by
    have e' : a.block = g := Option.some.inj e
    rcases hs a ha with h | ⟨cur, fr', h⟩
    · omega
    · rw [e', hc] at h; cases h; exact ht rfl)
  refine ⟨fun a ha => ?_, ⟨hb.le, hb.max, hb.nil, fun a ha j u hj => ?_⟩⟩
  · rcases hs a ha with h | ⟨cur, fr', h⟩
    · exact .inl h
    · exact .inr ⟨cur, fr', (hk a ha (lt_of_heap h)).trans h⟩
  · have h0 := hb.row a ha j u hj
    have hbl : (a.add j).block = a.block := by unfold Addr.add; split <;> rfl
    have hl := block_lt_of_cell h0
    rw [hbl] at hl
    rw [← h0]
    exact cell_of_block (by rw [hbl]; exact hk a ha hl)
theorem Safe.below {R : Nat} {W W' : World} {A : Option Addr} (hs : Safe R W A) (hb : Below W.heap.size W W') : Safe R W' A := by
  intro a ha
  rcases hs a ha with h | ⟨cur, fr', h⟩
  · exact .inl h
  · exact .inr ⟨cur, fr', (hb.block _ (lt_of_heap h)).trans h⟩
/-- The reader's state. -/
def RS (R : Nat) (W : World) (bs : List UInt8) (m : Nat) (out : List Sec) : Prop :=
  ∃ A c O oc, W.heap[R]? = some (.cells #[.slice A bs.length c, .int .i64 m, .slice O out.length oc] 78 (0, 0)) ∧ Bytes W A c bs ∧ Safe R W A ∧ Own W (R + 1) 38 8 (.slice O out.length oc) out.length ((flat out).map B)

theorem flat_rep (k : Nat) (s : Sec) : (flat (List.replicate k s)).map B = (List.replicate k s.cells).flatten := by
  induction k with
  | zero => rfl
  | succ k ih => rw [List.replicate_succ, flat_cons, List.map_append, ih, List.replicate_succ, List.flatten_cons]; rfl
theorem und3 : Try.prog.underlying 3 = some (.int .i64) := by kernel_rfl
theorem run_append_zero22 {ty : TypeId} {w : World} {base : Nat} {v : Value} {out : List Sec} (hown : Own w base 38 8 v out.length ((flat out).map B)) {k : Nat} (h0 : 0 < k) (hk : out.length + k ≤ 65536) (hbase : base ≤ w.heap.size) :
    ∃ v' w', (Builtin.append_ #[22, 3] ty #[v, .int .i64 k]).run Try.prog w = .ok v' w' ∧ Own w' base 38 8 v' (out.length + k) ((flat (out ++ List.replicate k Sec.zero)).map B) ∧ Grew w w' v v' := by
  obtain ⟨v', w', h1, h2, h3⟩ := run_append_zeros (ty := ty) E22 und3 hown (kq := .i64) h0 Sec.zero.cells (fun i z hi hz m => by
    obtain ⟨i', hi', hz', hs, hb⟩ := info_parts inf38
    rw [hi'] at hi
    cases hi
    rw [hz'] at hz
    cases hz
    have := madeZero m
    rw [flat_rep] at this
    apply Array.ext'
    rw [← this]
    rfl) rfl (oneCell_B _) (by omega) (by omega) hbase
  refine ⟨v', w', h1, ?_, h3⟩
  rw [flat_append, List.map_append, flat_rep]
  exact h2

theorem Safe.drews {R : Nat} {W : World} {A : Option Addr} (h : Safe R W A) (n : Nat) : Safe R (W.drewN n) A := h
/-- What an append to the list keeps. -/
theorem rs_grew {R : Nat} {W W2 : World} {A : Option Addr} {c : Nat} {bs : List UInt8} {v v2 : Value} {n : Nat} {xs : List Value} (hown : Own W (R + 1) 38 8 v n xs) (hg : Grew W W2 v v2) (hs : Safe R W A) (hb : Bytes W A c bs) (hR : R < W.heap.size) :
    W2.heap[R]? = W.heap[R]? ∧ Safe R W2 A ∧ Bytes W2 A c bs ∧ Below (R + 1) W W2 := by
  refine ⟨hg.block R hR (fun e => by have := (hown.lt _ e.symm).1; omega), ?_⟩
  have hbl := hg.below hown (by omega)
  rcases hown.2 with ⟨rfl, _⟩ | ⟨g, off, cap, cur, rfl, hbg, hgg, _⟩
  · have h : Below W.heap.size W W2 := ⟨hg.grown.os, hg.grown.tape, hg.grown.output, hg.grown.size, fun k hk => hg.grown.block k hk (by simp [Value.ownBlock])⟩
    exact ⟨hs.below h, hb.below h, hbl⟩
  · have h := hs.grown hb (g := g) hg.grown (by omega) hgg (by decide)
    exact ⟨h.1, h.2, hbl⟩
theorem rs_done {R : Nat} {W W3 : World} {A O : Option Addr} {c oc m : Nat} {bs : List UInt8} {out : List Sec} {cs : Array Value} (hs : Safe R W A) (hb : Bytes W A c bs) (hown : Own W (R + 1) 38 8 (.slice O out.length oc) out.length ((flat out).map B))
    (hR : W.heap[R]? = some (.cells cs 78 (0, 0))) (hR3 : W3.heap[R]? = some (.cells #[.slice A bs.length c, .int .i64 m, .slice O out.length oc] 78 (0, 0))) (hg : W.grownBy W3 (some R)) : RS R W3 bs m out := by
  have h := hs.grown hb (g := R) hg (Nat.le_refl _) hR (by decide)
  exact ⟨A, c, O, oc, hR3, h.2, h.1, hown.kept hg (.inr (fun e => by have := (hown.lt _ e).1; omega))⟩

theorem keep_out {R : Nat} {W : World} {a b c : Value} (h : Hid (W.heap[R]? = some (.cells #[a, b, c] 78 (0, 0)))) : W.cell? ⟨R, 2, none⟩ = some c := by
  rw [cell_of_row _ _ 2 _ _ _ h.out]; rfl

/-- append at a step of a region that draws its order. -/
theorem step_appendD {P : Program} {t e : TypeId} {size bytes : Nat} (E : Elem P t e size bytes) {ops : Array Oper} {o : Oper} {a : Act} {w : World} {K : Act → World → Prop} {Q : Exit → Act → World → Prop} {X : Prop}
    (hgd : o.guard = none) (s x : Operand) (ho : o.op = .call { callee := .builtin .append, args := #[s, x], argTypes := #[t, t] })
    (base : Nat) {v : Value} {n : Nat} {xs : List Value} (hs : a.eval s = v) (hown : Own w base e size v n xs)
    {Y : Option Addr} {m c : Nat} {news : List Value} (hx : a.eval x = .slice Y m c) (hrd : Rd w Y m c news) (hl : news.length = m * size) (h1 : ∀ u ∈ news, u.oneCell' = true)
    (hbytes : (n + m) * bytes ≤ 140737488355328) (hb1 : 1 ≤ bytes) (hbase : base ≤ w.heap.size)
    (h : ∀ v' w', Own w' base e size v' (n + m) (xs ++ news) → Grew w w' v v' → K (a.put o.dst v') w') :
    if Region.wanted o (yielded ops a.tmps) = true then Oper.wp P o a w K Q else X := by
  have hw : Region.wanted o (yielded ops a.tmps) = true := by simp [Region.wanted, hgd]
  rw [if_pos hw]
  obtain ⟨v', w', hrun, h1', h2'⟩ := run_append (ty := o.type) E hown hrd hl h1 hbytes hb1 hbase
  unfold Oper.wp execOp
  simp only [ho, resolve, invoke, builtin, Sem.run_bind, Sem.run_pure, Result.andThen_ok, List.map_toArray, List.map_cons, List.map_nil, hs, hx, hrun]
  exact h v' w' h1' h2'

theorem Secs.one (w : World) (s : Sec) : Secs (w.alloc (.cells s.cells.toArray 38)) (some ⟨w.heap.size, 0, none⟩) 1 [s] := by
  have := Rd.new w 38 s.cells.toArray 1 (by unfold maxLen; omega)
  unfold Secs
  simpa [flat, Sec.cells] using this

theorem keep_outB {R : Nat} {W W' : World} {a b c : Value} (h : Hid (W.heap[R]? = some (.cells #[a, b, c] 78 (0, 0)))) (hb : Below W.heap.size W W') : W'.cell? ⟨R, 2, none⟩ = some c := by
  rw [cell_of_row _ _ 2 _ _ _ ((hb.block _ (lt_of_heap h.out)).trans h.out)]; rfl

theorem own_through {R : Nat} {W W5 W6 : World} {o : Obj} {v : Value} {n : Nat} {xs : List Value} (h : Own W (R + 1) 38 8 v n xs) (hg : W.grownBy W5 (some R)) (hb : Below (W5.alloc o).heap.size (W5.alloc o) W6) : Own W6 (R + 1) 38 8 v n xs :=
  ((h.kept hg (.inr (fun e => by have := (h.lt _ e).1; omega))).alloc o).below hb
theorem through_R {R : Nat} {W5 W6 : World} {o x : Obj} (h : W5.heap[R]? = some x) (hb : Below (W5.alloc o).heap.size (W5.alloc o) W6) : W6.heap[R]? = some x :=
  ((((Below.refl _ _).alloc (Nat.le_refl _) o).trans (hb.mono (by simp))).block R (lt_of_heap h)).trans h
theorem size_through {R : Nat} {W W5 W6 : World} {o : Obj} (hg : W.grownBy W5 (some R)) (hb : Below (W5.alloc o).heap.size (W5.alloc o) W6) : W.heap.size ≤ W6.heap.size := by
  have := hg.size; have := hb.size; simp at this; omega

theorem frozen_R {R : Nat} {W : World} {cs : Array Value} {t : TypeId} {i : Nat} (h : Hid (W.heap[R]? = some (.cells cs t (0, 0)))) : W.frozen? ⟨R, i, none⟩ = false := by
  unfold World.frozen?
  simp [h.out]

theorem Safe.sector {R : Nat} {W W5 : World} {A1 A5 : Option Addr} {cs : Array Value} (hs : Safe R W A1) (hR : W.heap[R]? = some (.cells cs 78 (0, 0))) (hg : W.grownBy W5 (some R)) (hA : ∀ a', A5 = some a' → ∃ a, A1 = some a ∧ a'.block = a.block) : Safe R W5 A5 := by
  intro a' ha'
  obtain ⟨a, ha, hb⟩ := hA a' ha'
  rw [hb]
  rcases hs a ha with h | ⟨cur, fr', h⟩
  · exact .inl h
  · refine .inr ⟨cur, fr', (hg.block _ (lt_of_heap h) (fun e => ?_)).trans h⟩
    rw [Option.some.inj e, hR] at h
    cases h
theorem grown_setCell (w : World) (R i : Nat) (v : Value) : w.grownBy (w.setCell ⟨R, i, none⟩ v) (some R) :=
  ⟨rfl, rfl, rfl, by simp, fun k _ hk => Below.heap_setCell _ _ _ k (fun e => hk (by rw [e]))⟩
theorem rs_final {R m : Nat} {W w5 w6 w7 : World} {A1 A5 O O7 : Option Addr} {c5 on oc oc7 : Nat} {bs5 : List UInt8} {cs : Array Value} {xs : List Value} {out7 : List Sec} (hs : Safe R W A1) (hR : W.heap[R]? = some (.cells cs 78 (0, 0))) (hg5 : W.grownBy w5 (some R))
    (hA : ∀ a', A5 = some a' → ∃ a, A1 = some a ∧ a'.block = a.block) (hR5 : w5.heap[R]? = some (.cells #[.slice A5 bs5.length c5, .int .i64 m, .slice O on oc] 78 (0, 0))) (hb5 : Bytes w5 A5 c5 bs5) (hb6 : Below w5.heap.size w5 w6)
    (hO6 : Own w6 (R + 1) 38 8 (.slice O on oc) on xs) (hO7 : Own w7 (R + 1) 38 8 (.slice O7 out7.length oc7) out7.length ((flat out7).map B)) (hG7 : Grew w6 w7 (.slice O on oc) (.slice O7 out7.length oc7)) :
    RS R (w7.setCell ⟨R, 2, none⟩ (.slice O7 out7.length oc7)) bs5 m out7 ∧ Below R W (w7.setCell ⟨R, 2, none⟩ (.slice O7 out7.length oc7)) := by
  have hRl := lt_of_heap hR
  have hRl5 := lt_of_heap hR5
  have hs6 := (hs.sector hR hg5 hA).below hb6
  have hR6 := (hb6.block R hRl5).trans hR5
  obtain ⟨h1, h2, h3, h4⟩ := rs_grew hO6 hG7 hs6 (hb5.below hb6) (lt_of_heap hR6)
  have hR7 := h1.trans hR6
  have hgs := grown_setCell w7 R 2 (.slice O7 out7.length oc7)
  refine ⟨rs_done h2 h3 hO7 hR7 (set_facts hR7 2 _) hgs, ?_⟩
  exact ((below_of_grown hg5 (by omega)).trans (hb6.mono (by omega))).trans ((h4.mono (by omega)).trans (below_of_grown hgs (by have := lt_of_heap hR7; omega)))

/-- .. without the word on where the bytes lie. -/
def RS0 (R : Nat) (W : World) (bs : List UInt8) (m : Nat) (out : List Sec) : Prop :=
  ∃ A c O oc, W.heap[R]? = some (.cells #[.slice A bs.length c, .int .i64 m, .slice O out.length oc] 78 (0, 0)) ∧ Bytes W A c bs ∧ Own W (R + 1) 38 8 (.slice O out.length oc) out.length ((flat out).map B)
theorem RS.zero {R : Nat} {W : World} {bs : List UInt8} {m : Nat} {out : List Sec} (h : RS R W bs m out) : RS0 R W bs m out := by
  obtain ⟨A, c, O, oc, h1, h2, _, h3⟩ := h
  exact ⟨A, c, O, oc, h1, h2, h3⟩

end Go.Proofs.Ytfdkhopionknaaa
