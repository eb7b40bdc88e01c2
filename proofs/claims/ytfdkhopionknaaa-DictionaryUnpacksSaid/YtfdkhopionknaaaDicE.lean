/- Layer 6: Encode (31). -/
import Derived.Test.YtfdkhopionknaaaDicC
import Derived.Test.YtfdkhopionknaaaDicM
namespace Go.Proofs.Ytfdkhopionknaaa
open Go.RowKit
set_option linter.unusedVariables false
set_option linter.unusedSimpArgs false

theorem putN_3 (n : Nat) (h : n < 2097152) : (putN n).length ≤ 3 := putN_len 2 n (by omega)
theorem encD_len (all : List UInt8) (at_ : Nat) (run : List UInt8) (h : at_ ≤ all.length) : (encD all at_ run).length ≤ 2 * run.length + 2 * (all.length - at_) := by
  induction at_, run using encD.induct all with
  | case1 at_ run hlt h0 ih =>
    rw [encD_lit hlt h0]
    have := ih (by omega)
    have h1 : ((all.drop at_).take 1).length = 1 := by rw [List.length_take, List.length_drop]; omega
    rw [List.length_append, h1] at this
    omega
  | case2 at_ run hlt h0 ih =>
    have hb := best_le all at_ h
    rw [encD_match hlt (d := (best all at_).1) (n := (best all at_).2) rfl h0]
    have := ih hb.2.1
    have h4 : 4 ≤ (best all at_).2 := by
      rcases best_found all at_ with e | ⟨_, _, _, _, h⟩
      · rw [e] at h0; exact absurd rfl h0
      · exact h
    have hp := putN_3 (best all at_).1 (by omega)
    have hr := lits_len run
    simp only [List.length_append, List.length_cons, List.length_nil] at this ⊢
    omega
  | case3 at_ run hlt =>
    rw [encD_end hlt]
    have := lits_len run
    omega

theorem OutS.k3 {base eb mb : Nat} {w w' : World} {ts ws : List UInt8} {va vat vm : Value} (h : OutS base eb w ts ws va vat vm) (k : K3 base mb w w') (hmb : mb < base) (hne : eb ≠ mb) : OutS base eb w' ts ws va vat vm := by
  obtain ⟨h1, h2, T, tc, W, wc, hE, hT, hW, hd⟩ := h
  exact ⟨h1, Nat.le_trans h2 k.size, T, tc, W, wc, k.typed eb _ hE (fun cs fr e => by cases e) hne, hT.k3 k hmb, hW.k3 k hmb, hd⟩
theorem OutS.below {base eb : Nat} {w w' : World} {ts ws : List UInt8} {va vat vm : Value} (h : OutS base eb w ts ws va vat vm) (k : Below w.heap.size w w') : OutS base eb w' ts ws va vat vm := by
  obtain ⟨h1, h2, T, tc, W, wc, hE, hT, hW, hd⟩ := h
  exact ⟨h1, Nat.le_trans h2 k.size, T, tc, W, wc, (k.block _ (lt_of_heap hE)).trans hE, hT.below k, hW.below k, hd⟩

/-- The encoder's state: the map at mb, the struct behind it; W0 is the world in which the map was made. -/
structure EncS (W0 : World) (mb : Nat) (A : Option Addr) (ac : Nat) (all : List UInt8) (w : World) (ts ws : List UInt8) (at_ n : Nat) : Prop where
  out : OutS (mb + 2) (mb + 1) w ts ws (.slice A all.length ac) (.int .i64 at_) (.map (some mb))
  map : MapS (mb + 2) mb w (places all n)
  below : Below mb W0 w
variable {W0 : World} {mb : Nat} {A : Option Addr} {ac : Nat} {all : List UInt8} {w w' : World} {ts ws : List UInt8} {at_ n : Nat}
theorem EncS.heap (h : EncS W0 mb A ac all w ts ws at_ n) : ∃ vt vw, w.heap[mb + 1]? = some (.cells #[vt, vw, .slice A all.length ac, .int .i64 at_, .map (some mb)] 89 (0, 0)) := by
  obtain ⟨_, _, T, tc, W, wc, hE, _⟩ := h.out
  exact ⟨_, _, hE⟩
theorem EncS.cell3 (h : EncS W0 mb A ac all w ts ws at_ n) : w.cell? ⟨mb + 1, 3, none⟩ = some (.int .i64 at_) := by
  obtain ⟨vt, vw, hE⟩ := h.heap
  exact cell_k hE rfl
theorem EncS.cell2 (h : EncS W0 mb A ac all w ts ws at_ n) : w.cell? ⟨mb + 1, 2, none⟩ = some (.slice A all.length ac) := by
  obtain ⟨vt, vw, hE⟩ := h.heap
  exact cell_k hE rfl
theorem EncS.froz (h : EncS W0 mb A ac all w ts ws at_ n) (i : Nat) : w.frozen? ⟨mb + 1, i, none⟩ = false := by
  obtain ⟨vt, vw, hE⟩ := h.heap
  exact frozen_k hE
theorem EncS.bytes (h : EncS W0 mb A ac all w ts ws at_ n) (h0 : Bytes W0 A ac all) (hs : W0.heap.size = mb) : Bytes w A ac all := h0.below (by rw [hs]; exact h.below)
theorem EncS.drews (h : EncS W0 mb A ac all w ts ws at_ n) (q : Nat) : EncS W0 mb A ac all (w.drewN q) ts ws at_ n := ⟨h.out, h.map, below_drews h.below q⟩
theorem EncS.after (h : EncS W0 mb A ac all w ts ws at_ n) (hb : Below w.heap.size w w') : EncS W0 mb A ac all w' ts ws at_ n := by
  refine ⟨h.out.below hb, h.map.below hb, h.below.trans (hb.mono ?_)⟩
  have := h.out.2.1
  omega
theorem EncS.k5 {ts' ws' : List UInt8} (h : EncS W0 mb A ac all w ts ws at_ n) (ho : OutS (mb + 2) (mb + 1) w' ts' ws' (.slice A all.length ac) (.int .i64 at_) (.map (some mb))) (k : K5 (mb + 2) (mb + 1) w w') : EncS W0 mb A ac all w' ts' ws' at_ n :=
  ⟨ho, h.map.k5 k (by omega) (by omega), h.below.trans (k.below mb (by omega) (by omega) (by have := h.out.2.1; omega))⟩
theorem EncS.put (h : EncS W0 mb A ac all w ts ws at_ n) (p : Nat) : EncS W0 mb A ac all (w.setCell ⟨mb + 1, 3, none⟩ (.int .i64 p)) ts ws p n := by
  have hg := grown_setCell w (mb + 1) 3 (.int .i64 p)
  have hk : K5 (mb + 2) (mb + 1) w (w.setCell ⟨mb + 1, 3, none⟩ (.int .i64 p)) := K5.of_eb hg
  obtain ⟨h1, h2, T, tc, W, wc, hE, hT, hW, hd⟩ := h.out
  exact ⟨⟨h1, by simpa using h2, T, tc, W, wc, by rw [set_facts hE]; rfl, own_eb hT hg h1, own_eb hW hg h1, hd⟩, h.map.k5 hk (by omega) (by omega), h.below.trans (hk.below mb (by omega) (by omega) (by omega))⟩
theorem enc_note (h : EncS W0 mb A ac all w ts ws at_ n) (h0 : Hid (Bytes W0 A ac all)) (hs : W0.heap.size = mb) (hl : all.length ≤ 100000) (hn : n ≤ 1000000) :
    Calls Try.prog 53 #[.pointer (some ⟨mb + 1, 0, none⟩), .int .i64 n] w fun e w' => e = .returned (.tuple #[]) ∧ EncS W0 mb A ac all w' ts ws at_ (n + 1) := by
  obtain ⟨vt, vw, hE⟩ := h.heap
  refine (note_calls (mb + 2) mb (mb + 1) all n A ac vt vw _ w hE (h.bytes h0.out hs) h.map (by omega) h.out.2.1 (by omega) (by omega) hn).mono ?_
  rintro e w' ⟨rfl, hm, hk⟩
  exact ⟨rfl, h.out.k3 hk (by omega) (by omega), hm, h.below.trans (hk.below mb (by omega) (by omega) (by have := h.out.2.1; omega))⟩
theorem enc_literal (h : EncS W0 mb A ac all w ts ws at_ n) (b : UInt8) (hl : ws.length ≤ 1000000) :
    Calls Try.prog 56 #[.pointer (some ⟨mb + 1, 0, none⟩), .int .u8 b.toNat] w fun e w' => e = .returned (.tuple #[]) ∧ EncS W0 mb A ac all w' ts (ws ++ [b]) at_ n := by
  refine (literal_calls (mb + 2) (mb + 1) ts ws _ _ _ b w h.out (by omega)).mono ?_
  rintro e w' ⟨rfl, ho, hk⟩
  exact ⟨rfl, h.k5 ho hk⟩
theorem enc_match (h : EncS W0 mb A ac all w ts ws at_ n) (d k : Nat) (hl : ts.length + 2 * ws.length ≤ 1000000) (hd : d ≤ 4096) (hk : k ≤ 131) (hk4 : 4 ≤ k) :
    Calls Try.prog 55 #[.pointer (some ⟨mb + 1, 0, none⟩), .int .i64 d, .int .i64 k] w fun e w' => e = .returned (.tuple #[]) ∧ EncS W0 mb A ac all w' (ts ++ lits ws ++ (UInt8.ofNat (124 + k) :: putN d)) [] at_ n := by
  refine (match_calls (mb + 2) (mb + 1) ts ws _ _ _ d k w h.out hl hd hk hk4).mono ?_
  rintro e w' ⟨rfl, ho, hk⟩
  exact ⟨rfl, h.k5 ho hk⟩
theorem enc_flush (h : EncS W0 mb A ac all w ts ws at_ n) (hl : ts.length + 2 * ws.length ≤ 1000000) :
    Calls Try.prog 57 #[.pointer (some ⟨mb + 1, 0, none⟩)] w fun e w' => e = .returned (.tuple #[]) ∧ EncS W0 mb A ac all w' (ts ++ lits ws) [] at_ n := by
  refine (flush_calls (mb + 2) (mb + 1) ts ws _ _ _ w h.out (by omega)).mono ?_
  rintro e w' ⟨rfl, ho, hk⟩
  exact ⟨rfl, h.k5 ho hk⟩
theorem enc_best (h : EncS W0 mb A ac all w ts ws at_ at_) (h0 : Hid (Bytes W0 A ac all)) (hs : W0.heap.size = mb) (hl : all.length ≤ 100000) (hat : at_ ≤ all.length) (D N : Nat) (hb : best all at_ = (D, N)) :
    Calls Try.prog 54 #[.pointer (some ⟨mb + 1, 0, none⟩)] w fun e w' => e = .returned (.tuple #[.int .i64 D, .int .i64 N]) ∧ EncS W0 mb A ac all w' ts ws at_ at_ := by
  obtain ⟨vt, vw, hE⟩ := h.heap
  refine (best_calls (mb + 2) mb (mb + 1) at_ all A ac vt vw w hE (h.bytes h0.out hs) h.map hat (by omega)).mono ?_
  rintro e w' ⟨rfl, hbl⟩
  rw [hb]
  exact ⟨rfl, h.after hbl⟩
/-- Where the encoder stands. -/
def atN (eb : Nat) (w : World) : Nat := match w.cell? ⟨eb, 3, none⟩ with | some v => (intOf v).toNat | none => 0
theorem atN_eq {eb n : Nat} {w : World} (h : w.cell? ⟨eb, 3, none⟩ = some (.int .i64 n)) : atN eb w = n := by unfold atN; rw [h]; simp [intOf]

set_option maxRecDepth 20000 in
set_option maxHeartbeats 8000000 in
theorem dEncode_calls (A1 A2 : Option Addr) (c1 c2 : Nat) (dict b : List UInt8) (w : World) (h1 : Bytes w A1 c1 dict) (h2 : Bytes w A2 c2 b) (hlen : dict.length + b.length ≤ 100000) :
    Calls Try.prog 31 #[.slice A1 dict.length c1, .slice A2 b.length c2] w (Fresh w (encodeD dict b)) := by
  have H1 := Lib.hid h1
  have H2 := Lib.hid h2
  clear h1 h2
  go_enter Try.func31, Try.ntmps31
  go_wp2_with fail
  refine (bclone_calls A1 c1 dict w H1.out (by omega)).mono ?_
  intro e w1 hfr
  obtain ⟨A3, c3, rfl, ho1, hb1⟩ := Fresh_own hfr
  have HO1 := Lib.hid ho1
  have HB1 := Lib.hid hb1
  have hzb : (dict.length + b.length) * 1 ≤ 140737488355328 := by omega
  clear hfr ho1 hb1
  go_wp2_with (at_builtin; refine Stop.at ?_)
  refine Stop.go ?_
  refine step_append E24 rfl (.tmp 10) (.tmp 11) rfl w.heap.size rfl HO1.out rfl (H2.out.below HB1.out) (by simp) (oneCell_B _) hzb (by decide) HB1.out.size ?_
  intro v2 W0 ho2 hg2
  obtain ⟨all, hall⟩ : ∃ x, x = dict ++ b := ⟨_, rfl⟩
  have hla : all.length = dict.length + b.length := by rw [hall, List.length_append]
  obtain ⟨A, ac, rfl⟩ := own_slice ho2
  rw [← List.map_append, ← hall, ← hla] at ho2
  rw [← hla] at hg2 ⊢
  have hb2 : Below w.heap.size w W0 := HB1.out.trans (hg2.below HO1.out HB1.out.size)
  have HA0 := Lib.hid (own_bytes ho2)
  have hl : all.length ≤ 100000 := by omega
  have hdl : dict.length ≤ all.length := by omega
  have HLA := Lib.hid hla
  obtain ⟨mb, hP1⟩ : ∃ mb, W0.heap.size = mb := ⟨_, rfl⟩
  have hx0 : EncS W0 mb A ac all ((W0.alloc (.map #[] 0)).alloc (.cells #[.slice none 0 0, .slice none 0 0, .slice A all.length ac, .int .i64 dict.length, .map (some mb)] 89)) [] [] dict.length 0 := by
    have hm : (W0.alloc (.map #[] 0)).heap[mb]? = some (.map #[] 0) := by rw [← hP1]; exact heap_alloc_new W0 _
    have hbm : Below mb W0 (W0.alloc (.map #[] 0)) := by rw [← hP1]; exact (Below.refl _ _).alloc (Nat.le_refl _) _
    have hsz : (W0.alloc (.map #[] 0)).heap.size = mb + 1 := by simp [hP1]
    have hbs : Below (mb + 1) (W0.alloc (.map #[] 0)) ((W0.alloc (.map #[] 0)).alloc (.cells #[.slice none 0 0, .slice none 0 0, .slice A all.length ac, .int .i64 dict.length, .map (some mb)] 89)) := by
      rw [← hsz]; exact (Below.refl _ _).alloc (Nat.le_refl _) _
    refine ⟨OutS.start (by omega) (by simp [hP1]) (by rw [← hsz]; exact heap_alloc_new _ _), MapS.start ((hbs.block mb (by omega)).trans hm), hbm.trans (hbs.mono (by omega))⟩
  have HX0 := Lib.hid hx0
  have HALL := Lib.hid hall
  have HB2 := Lib.hid hb2
  have HO2 := Lib.hid ho2
  clear hall hla ho2 hg2 hb2 hx0
  have hmm : (Instr.makeMap 85 none).run Try.prog W0 = .ok (.map (some mb)) (W0.alloc (.map #[] 0)) := by rw [← hP1]; rfl
  go_wp2
  go_loopw [20] (fun i w' => ∃ k : Nat, i = .int .i64 k ∧ k ≤ dict.length ∧ Hid (EncS W0 mb A ac all w' [] [] dict.length k)) (fun i w' => dict.length - (intOf i).toNat)
  case atStart => exact ⟨0, rfl, Nat.zero_le _, HX0.out⟩
  case round =>
    obtain ⟨k, rfl, hk, hes⟩ := hrel
    clear HX0 hmm
    by_cases hlt : k < dict.length
    · have c1 : (k : Int) < (dict.length : Int) := by omega
      go_wp2_with fail
      refine (enc_note hes.out HA0 hP1 hl (by omega)).mono ?_
      rintro e w5 ⟨rfl, hes5⟩
      have HS5 := Lib.hid hes5
      clear hes5
      go_wp2
      exact ⟨⟨k + 1, rfl, by omega, HS5⟩, by simp [intOf]; omega⟩
    · have c1 : ¬ (k : Int) < (dict.length : Int) := by omega
      have hkd : k = dict.length := by omega
      subst hkd
      have HT0 := Lib.hid (encD_len all dict.length [] hdl)
      obtain ⟨total, htot⟩ : ∃ x, x = encD all dict.length [] := ⟨_, rfl⟩
      have htl : total.length ≤ 200000 := by
        have := HT0.out
        rw [← htot] at this
        simp only [List.length_nil] at this
        omega
      have HTOT := Lib.hid htot
      have HRES := Lib.hid (show encodeD dict b = total by rw [htot, HALL.out]; rfl)
      rw [HRES.out]
      clear htot HT0 c1
      go_wp2
      go_loopw [8] (fun (n : Value) w' => ∃ (at_ : Nat) (ts ws : List UInt8), Hid (EncS W0 mb A ac all w' ts ws at_ at_) ∧ Hid (ts ++ encD all at_ ws = total) ∧ at_ ≤ all.length ∧ ts.length ≤ 200000 ∧ ws.length ≤ at_) (fun n w' => all.length - atN (mb + 1) w')
      case atStart => exact ⟨dict.length, [], [], hes, by show [] ++ _ = _; rw [List.nil_append, HTOT.out], hdl, by simp, by simp⟩
      case round =>
        obtain ⟨at_, ts, ws, hx, heq, hat, hlt, hlw⟩ := hrel
        have hc3 : wr.cell? ⟨mb + 1, 3, none⟩ = some (.int .i64 at_) := hx.out.cell3
        have hc2 : wr.cell? ⟨mb + 1, 2, none⟩ = some (.slice A all.length ac) := hx.out.cell2
        by_cases hlta : at_ < all.length
        · have c1 : (at_ : Int) < (all.length : Int) := by omega
          have HATN := Lib.hid (atN_eq hc3)
          obtain ⟨⟨D, N⟩, hDN⟩ : ∃ r, best all at_ = r := ⟨_, rfl⟩
          have hbl := best_le all at_ hat
          have hbf := best_found all at_
          rw [hDN] at hbl hbf
          have HDN := Lib.hid hDN
          obtain ⟨hN1, hN2, hD1, hD2⟩ := hbl
          have h04 : N = 0 ∨ 4 ≤ N := by
            rcases hbf with e | ⟨_, _, _, _, h⟩
            · cases e; exact .inl rfl
            · exact .inr h
          clear hDN hbf
          go_wp2
          go_quiet (fail)
          go_wp2_with fail
          refine (enc_best (hx.out.drews nq) HA0 hP1 hl hat D N HDN.out).mono ?_
          rintro e w4 ⟨rfl, hx4⟩
          have HX4 := Lib.hid hx4
          have hc34 : w4.cell? ⟨mb + 1, 3, none⟩ = some (.int .i64 at_) := hx4.cell3
          have hc24 : w4.cell? ⟨mb + 1, 2, none⟩ = some (.slice A all.length ac) := hx4.cell2
          have HB4 := Lib.hid (hx4.bytes HA0.out hP1)
          clear hx4 hc3 hc2 hx
          rcases h04 with h0 | h4
          · subst h0
            obtain ⟨a, rfl⟩ := HB4.out.some_of hlta
            obtain ⟨x, hx, hcx, hx256, hdr⟩ := byte_at HB4.out hlta
            obtain ⟨ts2, hts2⟩ : ∃ x, x = ts := ⟨_, rfl⟩
            obtain ⟨ws2, hws2⟩ : ∃ y, y = ws ++ [x] := ⟨_, rfl⟩
            have HEQ2 := Lib.hid (show ts2 ++ encD all (at_ + 1) ws2 = total by
              rw [← heq.out, encD_lit hlta (by rw [HDN.out]), hts2, hws2, hdr]; rfl)
            have hlt2 : ts2.length ≤ 200000 := by rw [hts2]; exact hlt
            have hlw2 : ws2.length ≤ at_ + 1 := by rw [hws2, List.length_append, List.length_singleton]; omega
            have HXD := Lib.hid (show EncS W0 mb (some a) ac all w4.drew ts ws at_ at_ from HX4.out.drews 1)
            have HWS2 := Lib.hid hws2
            have HTS2 := Lib.hid hts2
            have hwl : ws.length ≤ 1000000 := by omega
            clear hx hdr hws2 hts2
            go_wp2_with fail
            go_region_law (first | (go_simp; go_at_call 56; refine (enc_literal HXD.out x hwl).mono ?_; rintro e w5 ⟨rfl, hx5⟩))
            all_goals (
              rw [← HWS2.out, ← HTS2.out] at hx5
              have HX2 := Lib.hid hx5
              clear hx5 HXD HX4 hc34 hc24 hcx
              go_wp2
              go_loopw [65] (fun i w' => ∃ j : Nat, i = .int .i64 j ∧ j ≤ 1 ∧ Hid (EncS W0 mb (some a) ac all w' ts2 ws2 (at_ + j) (at_ + j))) (fun i w' => 1 - (intOf i).toNat)
              case atStart => exact ⟨0, rfl, Nat.zero_le _, HX2.out⟩
              case round =>
                obtain ⟨j, rfl, hj, hes⟩ := hrel
                by_cases hlt : j < 1
                · have c1 : (j : Int) < (1 : Int) := by omega
                  have hc3 : wr.cell? ⟨mb + 1, 3, none⟩ = some (.int .i64 ((at_ + j : Nat) : Int)) := hes.out.cell3
                  have hatj : at_ + j ≤ 1000000 := by omega
                  obtain ⟨P, hP⟩ : ∃ P, at_ + j = P := ⟨_, rfl⟩
                  rw [hP] at hc3 hes hatj
                  have HP := Lib.hid hP
                  have hPl : P < all.length := by omega
                  clear hP
                  go_wp2_with fail
                  refine (enc_note hes.out HA0 hP1 hl hatj).mono ?_
                  rintro e w6 ⟨rfl, hes6⟩
                  have hc6 : w6.cell? ⟨mb + 1, 3, none⟩ = some (.int .i64 P) := hes6.cell3
                  have hf6 : w6.frozen? ⟨mb + 1, 3, none⟩ = false := hes6.froz 3
                  have vp : IntKind.i64.wrap ((P : Int) + 1) = ((P + 1 : Nat) : Int) := by rw [IntKind.wrap_i64]; omega
                  have HS6 := Lib.hid hes6
                  obtain ⟨P1, hP1'⟩ : ∃ P1, P + 1 = P1 := ⟨_, rfl⟩
                  rw [hP1'] at vp
                  have HP1 := Lib.hid hP1'
                  clear hes6 hP1' hc3
                  go_wp2
                  refine ⟨⟨j + 1, rfl, by omega, ?_⟩, by simp [intOf]; omega⟩
                  have := HS6.out.put P1
                  rw [HP1.out] at this
                  have e1 : at_ + (j + 1) = P1 := by rw [← HP1.out, ← HP.out]; omega
                  rw [e1]
                  exact this
                · have c1 : ¬ (j : Int) < (1 : Int) := by omega
                  have hjN : j = 1 := by omega
                  subst hjN
                  go_wp2
                  exact ⟨⟨at_ + 1, ts2, ws2, hes, HEQ2, by omega, hlt2, hlw2⟩, by rw [HATN, atN_eq hes.out.cell3]; omega⟩)
          · have b1 : (0 : Int) < (N : Int) := by omega
            obtain ⟨ts2, hts2⟩ : ∃ x, x = ts ++ lits ws ++ (UInt8.ofNat (124 + N) :: putN D) := ⟨_, rfl⟩
            have HEQ0 := Lib.hid (show ts2 ++ encD all (at_ + N) [] = total by
              rw [← heq.out, encD_match hlta HDN.out (by omega), hts2]; simp)
            go_wp2_with fail
            refine (enc_match HX4.out D N (by omega) hD1 hN1 h4).mono ?_
            rintro e w5 ⟨rfl, hx5⟩
            rw [← hts2] at hx5
            have HX2 := Lib.hid hx5
            obtain ⟨ws2, hws2⟩ : ∃ x : List UInt8, x = [] := ⟨_, rfl⟩
            rw [← hws2] at HX2 HEQ0
            have HEQ2 := HEQ0
            have hlt2 : ts2.length ≤ 200000 := by
              have := congrArg List.length HEQ2.out
              rw [List.length_append] at this
              omega
            have hlw2 : ws2.length ≤ at_ + N := by rw [hws2]; simp
            clear hx5 hts2 hws2 HX4 hc34 hc24
            go_wp2
            go_loopw [65] (fun i w' => ∃ j : Nat, i = .int .i64 j ∧ j ≤ N ∧ Hid (EncS W0 mb A ac all w' ts2 ws2 (at_ + j) (at_ + j))) (fun i w' => N - (intOf i).toNat)
            case atStart => exact ⟨0, rfl, Nat.zero_le _, HX2.out⟩
            case round =>
              obtain ⟨j, rfl, hj, hes⟩ := hrel
              by_cases hlt : j < N
              · have c1 : (j : Int) < (N : Int) := by omega
                have hc3 : wr.cell? ⟨mb + 1, 3, none⟩ = some (.int .i64 ((at_ + j : Nat) : Int)) := hes.out.cell3
                have hatj : at_ + j ≤ 1000000 := by omega
                obtain ⟨P, hP⟩ : ∃ P, at_ + j = P := ⟨_, rfl⟩
                rw [hP] at hc3 hes hatj
                have HP := Lib.hid hP
                have hPl : P < all.length := by omega
                clear hP
                go_wp2_with fail
                refine (enc_note hes.out HA0 hP1 hl hatj).mono ?_
                rintro e w6 ⟨rfl, hes6⟩
                have hc6 : w6.cell? ⟨mb + 1, 3, none⟩ = some (.int .i64 P) := hes6.cell3
                have hf6 : w6.frozen? ⟨mb + 1, 3, none⟩ = false := hes6.froz 3
                have vp : IntKind.i64.wrap ((P : Int) + 1) = ((P + 1 : Nat) : Int) := by rw [IntKind.wrap_i64]; omega
                have HS6 := Lib.hid hes6
                obtain ⟨P1, hP1'⟩ : ∃ P1, P + 1 = P1 := ⟨_, rfl⟩
                rw [hP1'] at vp
                have HP1 := Lib.hid hP1'
                clear hes6 hP1' hc3
                go_wp2
                refine ⟨⟨j + 1, rfl, by omega, ?_⟩, by simp [intOf]; omega⟩
                have := HS6.out.put P1
                rw [HP1.out] at this
                have e1 : at_ + (j + 1) = P1 := by rw [← HP1.out, ← HP.out]; omega
                rw [e1]
                exact this
              · have c1 : ¬ (j : Int) < (N : Int) := by omega
                have hjN : j = N := by omega
                subst hjN
                go_wp2
                exact ⟨⟨at_ + j, ts2, ws2, hes, HEQ2, by omega, hlt2, hlw2⟩, by rw [HATN, atN_eq hes.out.cell3]; omega⟩
        · have c1 : ¬ (at_ : Int) < (all.length : Int) := by omega
          have hfin : ts ++ lits ws = total := by rw [← heq.out, encD_end hlta]
          have HFIN := Lib.hid hfin
          clear hfin
          go_wp2
          go_quiet (fail)
          go_wp2_with fail
          refine (enc_flush (hx.out.drews nq) (by omega)).mono ?_
          rintro e w5 ⟨rfl, hx5⟩
          rw [HFIN.out] at hx5
          obtain ⟨_, _, T, tc, W, wc, hE, hT, _⟩ := hx5.out
          have hc0 : w5.cell? ⟨mb + 1, 0, none⟩ = some (.slice T total.length tc) := cell_k hE rfl
          have HT5 := Lib.hid hT
          have HB5 := Lib.hid hx5.below
          clear hE hT hx5
          go_wp2
          go_ret
          have hsz := HB2.out.size
          refine ⟨_, rfl, ?_, HB2.out.trans (HB5.out.mono (show w.heap.size ≤ mb by omega))⟩
          rw [HRES.out]
          exact Own.mono (base' := w.heap.size) HT5.out (by omega)
end Go.Proofs.Ytfdkhopionknaaa
