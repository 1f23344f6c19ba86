/- MmuSame, walked. -/
import Derived.Test.YtiogbgjeimdgmaaRefR
namespace Go.Proofs.Ytiogbgjeimdgmaa.RefWalk
open Go.RowKit Go.Proofs.Ytiogbgjeimdgmaa.Aid Go.Proofs.YtiogbgjeimdgmaaW.PrintWords Go.Proofs.YtiogbgjeimdgmaaW.PrintLast Go.Proofs.YtiogbgjeimdgmaaW.PrintMore
open Go.Proofs.Ytiogbgjeimdgmaa.MmuWalk (Chg R32 Flt fltV noF flt infoF Tabs row_ty own_keep two_ty box1 row_then foot mine MmuAt MStep NextRow mTy noT mnew_call mset_call malive_call ram_below1 Cons memF offE atE atE_r page_same)
open Go.Proofs.Ytiogbgjeimdgmaa.RamWalk (Bytes leN own_cell putL RamAt new_nat load_n bytes_n)
open Go.Proofs.Ytiogbgjeimdgmaa.TlbWalk (RefAt own_then own_val own_some dropP nil2 map_fst_getD map_snd_getD)
attribute [local go_sem] max2_int min2_int max_two min_two max_three min_three max_four min_four   -- for this text's walks alone
set_option linter.unusedVariables false
set_option linter.unusedSimpArgs false
theorem du_plain {w0 W : World} {L R : LocR} {v vp ve : Value} {T T' : Tabs} {ps qs : List (Int × Int)} {l k : List Int} (h : DU w0 w0 nF W L R v vp ve T ps l T' false qs k) : DU w0 w0 nF (W.setCell ⟨R.m, 7, none⟩ (.bool true)) L R v vp ve T ps l T' true qs k := by
  obtain ⟨a1, a2, a3, a4, a5, a6⟩ := h.r.ne
  have e : ∀ i, i ≠ R.m → (W.setCell ⟨R.m, 7, none⟩ (.bool true)).heap[i]? = W.heap[i]? := fun i hi => Below.heap_setCell W ⟨R.m, 7, none⟩ _ i hi
  have hm : ∀ i, mine L v i → i ≠ R.m := fun i f c => h.dis i f (.inl (.inl c))
  have hge := h.r.ge
  refine ⟨⟨h.below.os, h.below.tape, h.below.output, by simpa [World.setCell] using h.below.size, fun i hi => (e i (by omega)).trans (h.below.block i hi)⟩, h.m.keep (fun i q => e i (hm i q)), ?_, h.dis, fun i hi => hi.elim⟩
  exact ⟨blk_put h.r.blk 7 _ rfl, h.r.ge, ⟨(e _ (fun c => a1 c.symm)).trans h.r.ram.1, h.r.ram.2.1, own_keep h.r.ram.2.2.1 (fun i hi => e i (fun c => a2 (by simp only [Value.ownBlock, Option.some.injEq] at hi; omega))), h.r.ram.2.2.2⟩,
    ⟨(e _ (fun c => a3 c.symm)).trans h.r.tlb.1, h.r.tlb.2.1, own_keep h.r.tlb.op (fun i hi => e i (h.r.ne_rows i (.inl hi)).1), own_keep h.r.tlb.oe (fun i hi => e i (h.r.ne_rows i (.inr hi)).1), h.r.tlb.2.2.2.2⟩, h.r.by_, h.r.ok, h.r.ents, h.r.nd⟩
/-- A buffered entry stands in the memory. -/
def good (T : Tabs) (l : List Int) (p : Int × Int) : Prop := offE T (p.1 * 512) = false ∧ atE T (p.1 * 512) + 4 ≤ l.length ∧ leN ((l.drop (atE T (p.1 * 512)).toNat).take 4) = p.2
theorem good_cons {T : Tabs} {l : List Int} {ps : List (Int × Int)} (h : ∀ j, j < ps.length → good T l (ps.getD j nil2)) : Cons T l ps := fun p hp va wr hv => by
  obtain ⟨j, hj, rfl⟩ := List.mem_iff_getElem.1 hp
  have g := h j hj
  rw [List.getD_eq_getElem?_getD, List.getElem?_eq_getElem hj] at g
  obtain ⟨g1, g2, g3⟩ := g
  simp only [Option.getD_some] at g1 g2 g3
  obtain ⟨e1, e2⟩ := page_same T (show ps[j].1 * 512 / 512 = va / 512 by omega)
  unfold memF
  rw [← e1, ← e2, g1, if_neg (by decide), if_pos g2, g3]
/-- The document's Get, told together. -/
theorem rget_any (w : World) (base g b c : Nat) (l : List Int) (hb : Bytes l) (at_ : Int) (ha : R32 at_) (h : RRamAt w base g (.slice (some ⟨b, 0, none⟩) l.length c) l) :
    Calls Try.prog 50 #[.pointer (some ⟨g, 0, none⟩), .int .u32 at_, .int .i64 4] w fun e w' => ∃ x y, e = .returned (.tuple #[.int .u32 x, .int .i64 y]) ∧ w = w' := by
  by_cases h1 : at_ + 4 ≤ l.length
  · obtain ⟨a, rfl⟩ : ∃ a : Nat, at_ = a := ⟨at_.toNat, by have := ha.1; omega⟩
    exact (rget_ok w base g b c l hb a (by have := ha.2; omega) h (by omega)).mono fun e w' k => ⟨_, _, k.1, k.2⟩
  · exact (rget_bus w base g b c l at_ ha h h1).mono fun e w' k => ⟨_, _, k.1, k.2⟩
/-- All that the loop keeps. -/
def S4 (w0 W : World) (L R L2 R2 : LocR) (n : Nat) : Prop := ∃ v vp ve v2 vp2 ve2 T ps l, H4 w0 W L R L2 R2 v vp ve v2 vp2 ve2 T ps l T ps l ∧ l.length = n
set_option maxRecDepth 100000 in
theorem msame_off (A : Option Addr) (n c : Nat) (T : Tabs) (A1 : Option Addr) (n1 c1 : Nat) (w : World) (h : 8192 < n) :
    Calls Try.prog 11 #[.slice A n c, .agg #[.int .u32 T.p0b, .int .u32 T.p0l, .int .u32 T.sb, .int .u32 T.sl, .int .u32 T.men], .slice A1 n1 c1] w fun e w' => e = .returned (.bool true) ∧ Below w.heap.size w w' := by
  have h2 : (8192 : Int) < n := by omega
  clear h
  go_enter Try.func11, Try.ntmps11
  go_wp2_with (first
    | (go_at_call 28; (with_reducible refine (malive_call _).mono ?_); rintro e w0 ⟨rfl, hb0⟩; have B0 := Aside0.mk (below_step (below_alloc (Below.refl w.heap.size w) _) hb0); clear hb0))
  go_ret
  exact ⟨rfl, B0.out⟩
set_option maxRecDepth 100000 in
theorem msame_great (A : Option Addr) (n c : Nat) (T : Tabs) (A1 : Option Addr) (n1 c1 : Nat) (cs : List Cal) (w : World) (h : n ≤ 8192) (hc : cs.length = n1) (hn1 : n1 ≤ 9223372036854775807) (h0 : ¬ (n1 ≤ 60 ∧ ∀ i, i < n1 → fineC (gC cs i))) (r : CalRow w A1 cs) :
    Calls Try.prog 11 #[.slice A n c, .agg #[.int .u32 T.p0b, .int .u32 T.p0l, .int .u32 T.sb, .int .u32 T.sl, .int .u32 T.men], .slice A1 n1 c1] w fun e w' => e = .returned (.bool true) ∧ Below w.heap.size w w' := by
  have h2 : ¬ (8192 : Int) < n := by omega
  have H := Aside0.mk h0
  have R := Aside0.mk r
  have HC := Aside0.mk hc
  clear h h0 r hc
  go_enter Try.func11, Try.ntmps11
  go_wp2_with (first
    | (go_at_call 28; (with_reducible refine (malive_call _).mono ?_); rintro e wa ⟨rfl, hb0⟩; have BA := Aside0.mk (below_step (below_alloc (Below.refl w.heap.size w) _) hb0); clear hb0)
    | (go_at_call 48; (with_reducible refine (great_yes _ A1 c1 cs n1 HC.out hn1 (R.out.then BA.out) H.out).mono ?_); rintro e w0 ⟨rfl, hb0⟩; have B0 := Aside0.mk (below_step BA.out hb0); clear hb0))
  go_ret
  exact ⟨rfl, B0.out⟩
set_option maxRecDepth 100000 in
set_option maxHeartbeats 8000000 in
theorem msame_ok (A : Option Addr) (c : Nat) (l : List Int) (T : Tabs) (A1 : Option Addr) (n1 c1 : Nat) (cs : List Cal) (w : World) (hn : l.length ≤ 8192) (hl : ReadsInt w .u8 A l.length l) (hb : Bytes l) (hT : T.ok) (hc : cs.length = n1) (hn1 : n1 ≤ 9223372036854775807) (H0 : n1 ≤ 60 ∧ ∀ i, i < n1 → fineC (gC cs i)) (r : CalRow w A1 cs) (ro : ∀ i, i < n1 → CalOk w (gC cs i)) :
    Calls Try.prog 11 #[.slice A l.length c, .agg #[.int .u32 T.p0b, .int .u32 T.p0l, .int .u32 T.sb, .int .u32 T.sl, .int .u32 T.men], .slice A1 n1 c1] w fun e w' => e = .returned (.bool true) ∧ Below w.heap.size w w' := by
  have HL := Aside0.mk hl
  have HB := Aside0.mk hb
  have HT := Aside0.mk hT
  have R := Aside0.mk r
  have RO := Aside0.mk ro
  have HC := Aside0.mk hc
  have H := Aside0.mk H0
  have AP := Aside0.mk (fun (w0 W : World) (g b c' g' b' c2 : Nat) (l1 l2 : List Int) (h0 : Below w.heap.size w w0) (h : RR w0 W g b c' g' b' c2 l.length l1 l2) => (fun a ha hp => by
    obtain ⟨ad, he, hcell⟩ := HL.out.2.2 hp
    have hbk := World.block_lt_of_cell? w _ (hcell 0 hp)
    rw [he] at ha
    simp only [Option.some.injEq] at ha
    subst ha
    have hz : (ad.add 0).block = ad.block := rfl
    rw [hz] at hbk
    have := own_base h.r.2.2.1 b' rfl
    have := h0.size
    intro e
    omega : ∀ a, A = some a → 0 < l.length → a.block ≠ b'))
  have NEW := Aside0.mk (fun w => new_nat l.length w (by omega))
  have RNEW := Aside0.mk (fun w => rnew_call l.length w (by omega))
  have h2 : ¬ (8192 : Int) < l.length := by omega
  clear hl hb hT r ro hc H0
  go_enter Try.func11, Try.ntmps11
  go_wp2_with (first
    | (go_at_call 28; (with_reducible refine (malive_call _).mono ?_); rintro e wa ⟨rfl, hb0⟩; have BA := Aside0.mk (below_step (below_alloc (Below.refl w.heap.size w) _) hb0); have XA := Aside0.mk (row_then (heap_alloc_new w _) hb0); clear hb0)
    | (go_at_call 48; (with_reducible refine (great_no _ A1 c1 cs n1 HC.out hn1 (R.out.then BA.out) H.out).mono ?_); rintro e w0 ⟨rfl, hb0⟩; have B0 := Aside0.mk (below_step BA.out hb0); have X0 := Aside0.mk (row_then XA.out hb0); clear hb0)
    | (go_at_call 14; (with_reducible refine (NEW.out w0).mono ?_); rintro e w1 ⟨gr, b, rfl, hr, hbel⟩; have R1 := Aside0.mk hr; have B1 := Aside0.mk hbel; clear hr hbel)
    | (go_at_call 15; (with_reducible refine (RNEW.out w1).mono ?_); rintro e w2 ⟨gr', b', rfl, hr, hbel⟩; have R2 := Aside0.mk (rr_new B1.out R1.out hbel hr); clear hr hbel)
    | (go_at_call 16; (with_reducible refine (load_n w2 _ _ _ _ _ _ l _ _ R2.out.m (HL.out.below (below_step B0.out R2.out.below))).mono ?_); rintro e w3 ⟨rfl, hr, hg⟩; have R3 := Aside0.mk (rr_load R2.out hr hg); clear hr hg)
    | (go_at_call 17; (with_reducible refine (rload_all w3 _ _ _ _ _ _ l _ _ rfl List.length_replicate R3.out.r (HL.out.below (below_step B0.out R3.out.below)) (AP.out _ _ _ _ _ _ _ _ _ _ B0.out R3.out)).mono ?_); rintro e w4 ⟨rfl, hr, hg⟩; have R4 := Aside0.mk (rr_rload R3.out hr hg); clear hr hg)
    | (go_at_call 18; (with_reducible refine (mnew_call w4 _ _ _ _ l R4.out.m HB.out).mono ?_); rintro e w5 ⟨m, t, rfl, hm, hbel, _, _⟩; have M5 := Aside0.mk hm; have Q5 := Aside0.mk (R4.out.r.then hbel); have B5 := Aside0.mk (below_step R4.out.below hbel); clear hm hbel)
    | (go_at_call 19; (with_reducible refine (rmnew_call w5 _ _ _ _ l Q5.out HB.out).mono ?_); rintro e w6 ⟨m', t', rfl, hm, hbel, _, _⟩; have D5 := (show DU w0 w0 nF w6 ⟨m, gr, b, l.length, t⟩ ⟨m', gr', b', l.length, t'⟩ (.slice none 0 0) (.slice none 0 0) (.slice none 0 0) noT [] l noT false [] l from du_new (below_step B5.out hbel) (M5.out.then hbel) hm R4.out.ne); have D6 := Aside0.mk (show DU w0 w0 nF (w6.setCell ⟨m', 7, none⟩ (.bool true)) ⟨m, gr, b, l.length, t⟩ ⟨m', gr', b', l.length, t'⟩ (.slice none 0 0) (.slice none 0 0) (.slice none 0 0) noT [] l noT true [] l from du_plain D5); have c7 := D5.r.cell 7; have f7 := D5.r.free 7; have X6 := Aside0.mk (row_then X0.out D6.out.below); have e0 := cell_of_row _ _ 0 _ _ _ X6.out; have e1 := cell_of_row _ _ 1 _ _ _ X6.out; have e2 := cell_of_row _ _ 2 _ _ _ X6.out; have e3 := cell_of_row _ _ 3 _ _ _ X6.out; have e4 := cell_of_row _ _ 4 _ _ _ X6.out; simp only [List.getElem?_toArray, List.getElem?_cons_zero, List.getElem?_cons_succ] at e0 e1 e2 e3 e4; simp only [rmCells, List.getElem?_toArray, List.getElem?_cons_zero, List.getElem?_cons_succ] at c7; clear hm hbel D5)
    | (go_at_call 20; (with_reducible refine (mset_call _ _ ⟨m, gr, b, l.length, t⟩ _ noT T [] l D6.out.m HT.out).mono ?_); rintro e w7 ⟨rfl, s⟩; obtain ⟨v7, D7⟩ := D6.out.stepM s; have D7 := Aside0.mk D7; have X7 := Aside0.mk (row_then X0.out D7.out.below); have S5 := Aside0.mk (rm_put5_step D7.out.r T HT.out); have D8 := Aside0.mk (D7.out.stepR S5.out); have c2 := D7.out.r.cell 2; have c3 := D7.out.r.cell 3; have c4 := D7.out.r.cell 4; have c5 := D7.out.r.cell 5; have c6 := D7.out.r.cell 6; have f2 := D7.out.r.free 2; have f3 := D7.out.r.free 3; have f4 := D7.out.r.free 4; have f5 := D7.out.r.free 5; have f6 := D7.out.r.free 6; clear e0 e1 e2 e3 e4; have e0 := cell_of_row _ _ 0 _ _ _ X7.out; have e1 := cell_of_row _ _ 1 _ _ _ X7.out; have e2 := cell_of_row _ _ 2 _ _ _ X7.out; have e3 := cell_of_row _ _ 3 _ _ _ X7.out; have e4 := cell_of_row _ _ 4 _ _ _ X7.out; simp only [List.getElem?_toArray, List.getElem?_cons_zero, List.getElem?_cons_succ] at e0 e1 e2 e3 e4; simp only [rmCells, List.getElem?_toArray, List.getElem?_cons_zero, List.getElem?_cons_succ] at c2 c3 c4 c5 c6; clear s))
  clear c2 c3 c4 c5 c6 f2 f3 f4 f5 f6 e0 e1 e2 e3 e4
  obtain ⟨vp8, ve8, d8, _, _⟩ := D8.out
  have D9 := Aside0.mk (show ∃ v vp ve, DU w0 w0 nF (((((w7.setCell ⟨m', 2, none⟩ (.int .u32 T.p0b)).setCell ⟨m', 3, none⟩ (.int .u32 T.p0l)).setCell ⟨m', 4, none⟩ (.int .u32 T.sb)).setCell ⟨m', 5, none⟩ (.int .u32 T.sl)).setCell ⟨m', 6, none⟩ (.int .u32 T.men)) ⟨m, gr, b, l.length, t⟩ ⟨m', gr', b', l.length, t'⟩ v vp ve T [] l T true [] l from ⟨_, _, _, d8⟩)
  have X8 := Aside0.mk (row_then X0.out d8.below)
  have B8 := Aside0.mk (below_step B0.out d8.below)
  clear d8 D8 S5 c7 f7
  change Aside0 ((((((w7.setCell ⟨m', 2, none⟩ (.int .u32 T.p0b)).setCell ⟨m', 3, none⟩ (.int .u32 T.p0l)).setCell ⟨m', 4, none⟩ (.int .u32 T.sb)).setCell ⟨m', 5, none⟩ (.int .u32 T.sl)).setCell ⟨m', 6, none⟩ (.int .u32 T.men)).heap[w.heap.size]? = _) at X8
  change Aside0 (Below w.heap.size w (((((w7.setCell ⟨m', 2, none⟩ (.int .u32 T.p0b)).setCell ⟨m', 3, none⟩ (.int .u32 T.p0l)).setCell ⟨m', 4, none⟩ (.int .u32 T.sb)).setCell ⟨m', 5, none⟩ (.int .u32 T.sl)).setCell ⟨m', 6, none⟩ (.int .u32 T.men))) at B8
  generalize (((((w7.setCell ⟨m', 2, none⟩ (.int .u32 T.p0b)).setCell ⟨m', 3, none⟩ (.int .u32 T.p0l)).setCell ⟨m', 4, none⟩ (.int .u32 T.sb)).setCell ⟨m', 5, none⟩ (.int .u32 T.sl)).setCell ⟨m', 6, none⟩ (.int .u32 T.men)) = w8 at *
  obtain ⟨L, hL⟩ : ∃ L : LocR, (⟨m, gr, b, l.length, t⟩ : LocR) = L := ⟨_, rfl⟩
  obtain ⟨RL, hR⟩ : ∃ L : LocR, (⟨m', gr', b', l.length, t'⟩ : LocR) = L := ⟨_, rfl⟩
  obtain rfl : m = L.m := by rw [← hL]
  obtain rfl : gr = L.r := by rw [← hL]
  obtain rfl : m' = RL.m := by rw [← hR]
  rw [hL, hR] at D9
  clear hL hR D6 D7 M5 Q5 R1 R2 R3 R4 X6 X7 B1 B5
  go_wp2_with (first
    | (go_at_call 14; (with_reducible refine (NEW.out w8).mono ?_); rintro e w1 ⟨gr, b, rfl, hr, hbel⟩; have R1 := Aside0.mk hr; have B1 := Aside0.mk hbel; clear hr hbel)
    | (go_at_call 15; (with_reducible refine (RNEW.out w1).mono ?_); rintro e w2 ⟨gr', b', rfl, hr, hbel⟩; have R2 := Aside0.mk (rr_new B1.out R1.out hbel hr); clear hr hbel)
    | (go_at_call 16; (with_reducible refine (load_n w2 _ _ _ _ _ _ l _ _ R2.out.m (HL.out.below (below_step B8.out R2.out.below))).mono ?_); rintro e w3 ⟨rfl, hr, hg⟩; have R3 := Aside0.mk (rr_load R2.out hr hg); clear hr hg)
    | (go_at_call 17; (with_reducible refine (rload_all w3 _ _ _ _ _ _ l _ _ rfl List.length_replicate R3.out.r (HL.out.below (below_step B8.out R3.out.below)) (AP.out _ _ _ _ _ _ _ _ _ _ B8.out R3.out)).mono ?_); rintro e w4 ⟨rfl, hr, hg⟩; have R4 := Aside0.mk (rr_rload R3.out hr hg); clear hr hg)
    | (go_at_call 18; (with_reducible refine (mnew_call w4 _ _ _ _ l R4.out.m HB.out).mono ?_); rintro e w5 ⟨m, t, rfl, hm, hbel, _, _⟩; have M5 := Aside0.mk hm; have Q5 := Aside0.mk (R4.out.r.then hbel); have B5 := Aside0.mk (below_step R4.out.below hbel); clear hm hbel)
    | (go_at_call 19; (with_reducible refine (rmnew_call w5 _ _ _ _ l Q5.out HB.out).mono ?_); rintro e w6 ⟨m', t', rfl, hm, hbel, _, _⟩; have D6 := Aside0.mk (show DU w8 w8 nF w6 ⟨m, gr, b, l.length, t⟩ ⟨m', gr', b', l.length, t'⟩ (.slice none 0 0) (.slice none 0 0) (.slice none 0 0) noT [] l noT false [] l from du_new (below_step B5.out hbel) (M5.out.then hbel) hm R4.out.ne); have X6 := Aside0.mk (row_then X8.out D6.out.below); have e0 := cell_of_row _ _ 0 _ _ _ X6.out; have e1 := cell_of_row _ _ 1 _ _ _ X6.out; have e2 := cell_of_row _ _ 2 _ _ _ X6.out; have e3 := cell_of_row _ _ 3 _ _ _ X6.out; have e4 := cell_of_row _ _ 4 _ _ _ X6.out; simp only [List.getElem?_toArray, List.getElem?_cons_zero, List.getElem?_cons_succ] at e0 e1 e2 e3 e4; clear hm hbel)
    | (go_at_call 20; (with_reducible refine (mset_call _ _ ⟨m, gr, b, l.length, t⟩ _ noT T [] l D6.out.m HT.out).mono ?_); rintro e w7 ⟨rfl, s⟩; obtain ⟨v7, D7⟩ := D6.out.stepM s; have D7 := Aside0.mk D7; have X7 := Aside0.mk (row_then X8.out D7.out.below); have S5 := Aside0.mk (rm_put5_step D7.out.r T HT.out); have D8 := Aside0.mk (D7.out.stepR S5.out); have c2 := D7.out.r.cell 2; have c3 := D7.out.r.cell 3; have c4 := D7.out.r.cell 4; have c5 := D7.out.r.cell 5; have c6 := D7.out.r.cell 6; have f2 := D7.out.r.free 2; have f3 := D7.out.r.free 3; have f4 := D7.out.r.free 4; have f5 := D7.out.r.free 5; have f6 := D7.out.r.free 6; clear e0 e1 e2 e3 e4; have e0 := cell_of_row _ _ 0 _ _ _ X7.out; have e1 := cell_of_row _ _ 1 _ _ _ X7.out; have e2 := cell_of_row _ _ 2 _ _ _ X7.out; have e3 := cell_of_row _ _ 3 _ _ _ X7.out; have e4 := cell_of_row _ _ 4 _ _ _ X7.out; simp only [List.getElem?_toArray, List.getElem?_cons_zero, List.getElem?_cons_succ] at e0 e1 e2 e3 e4; simp only [rmCells, List.getElem?_toArray, List.getElem?_cons_zero, List.getElem?_cons_succ] at c2 c3 c4 c5 c6; clear s))
  clear c2 c3 c4 c5 c6 f2 f3 f4 f5 f6 e0 e1 e2 e3 e4
  obtain ⟨vp8, ve8, d8, _, _⟩ := D8.out
  have S9 := Aside0.mk (show S4 w0 (((((w7.setCell ⟨m', 2, none⟩ (.int .u32 T.p0b)).setCell ⟨m', 3, none⟩ (.int .u32 T.p0l)).setCell ⟨m', 4, none⟩ (.int .u32 T.sb)).setCell ⟨m', 5, none⟩ (.int .u32 T.sl)).setCell ⟨m', 6, none⟩ (.int .u32 T.men)) L RL ⟨m, gr, b, l.length, t⟩ ⟨m', gr', b', l.length, t'⟩ l.length from by
    obtain ⟨v, vp, ve, a⟩ := D9.out
    exact ⟨_, _, _, _, _, _, T, [], l, h4_new a d8, rfl⟩)
  clear d8 D8 S5
  obtain ⟨L2, hL⟩ : ∃ L : LocR, (⟨m, gr, b, l.length, t⟩ : LocR) = L := ⟨_, rfl⟩
  obtain ⟨R2', hR⟩ : ∃ L : LocR, (⟨m', gr', b', l.length, t'⟩ : LocR) = L := ⟨_, rfl⟩
  obtain rfl : m = L2.m := by rw [← hL]
  obtain rfl : gr = L2.r := by rw [← hL]
  obtain rfl : m' = R2'.m := by rw [← hR]
  rw [hL, hR] at S9
  clear hL hR D6 D7 M5 Q5 R1 R2 R3 R4 X6 X7 X8 B1 B5 D9 AP NEW RNEW
  go_loopw [85] (fun iv wr => ∃ k : Nat, k ≤ n1 ∧ iv = .int .i64 k ∧ Aside0 (S4 w0 wr L RL L2 R2' l.length)) (fun iv _ => n1 - (intOf iv).toNat)
  case atStart => exact ⟨0, Nat.zero_le _, rfl, S9⟩
  case round =>
    obtain ⟨k, hk, rfl, SS⟩ := hrel
    clear S9
    obtain ⟨v, vp, ve, v2, vp2, ve2, T1, ps, l1, D, hll⟩ := SS.out
    by_cases hkn : k = n1
    · subst hkn
      have BW := Aside0.mk (below_step B0.out D.a.below)
      have BY : Aside0 (Calls Try.prog 37 #[.pointer (some ⟨L.r, 0, none⟩), .int .u32 0, .int .i64 l.length] wr fun e w' => ∃ b' c', e = .returned (.tuple #[.slice (some ⟨b', 0, none⟩) l1.length c', .int .i64 0]) ∧ w'.ownsRow wr.heap.size 5 1 (.slice (some ⟨b', 0, none⟩) l1.length c') l1.length (nums .u8 l1) ∧ Below wr.heap.size wr w') := ⟨by
        rw [show ((l.length : Nat) : Int) = ((l1.length : Nat) : Int) from by rw [hll]]
        exact bytes_n wr _ L.r L.b l1.length L.c l1 l1 0 l1.length (by decide) D.a.m.ram (by omega) (by rw [List.drop_zero, List.take_length])⟩
      obtain ⟨S, hS⟩ : ∃ S, S = strOfNums l1 := ⟨_, rfl⟩
      have ST := Aside0.mk (fun (w : World) (A : Option Addr) (c : Nat) (h : ReadsInt w .u8 A l1.length l1) => (by rw [hS]; exact string_of_reads (P := Try.prog) Try.underlying22 Try.underlying5 Try.underlying9 h : (convert 22 9 (.slice A l1.length c)).run Try.prog w = .ok (.string S) w))
      have DD := Aside0.mk D
      have HLL := Aside0.mk hll
      clear hS D SS hll
      go_wp2_with (first
        | (go_at_call 37; (with_reducible refine (BY.out).mono ?_); rintro e u2 ⟨b2, c2, rfl, o2, hb2⟩; have D2 := Aside0.mk (DD.out.then hb2); have O2 := Aside0.mk o2; have B2 := Aside0.mk (below_step BW.out hb2); clear o2 hb2))
      have hT : Aside0 (∀ W', Below u2.heap.size u2 W' → W'.cell? ⟨RL.m, 0, none⟩ = some (.pointer (some ⟨RL.r, 0, none⟩)) ∧ W'.cell? ⟨RL.r, 0, none⟩ = some (.slice (some ⟨RL.b, 0, none⟩) l1.length RL.c) ∧ (convert 22 9 (.slice (some ⟨b2, 0, none⟩) l1.length c2)).run Try.prog W' = .ok (.string S) W' ∧ (convert 22 9 (.slice (some ⟨RL.b, 0, none⟩) l1.length RL.c)).run Try.prog W' = .ok (.string S) W') := ⟨fun W' hW => ⟨(D2.out.then hW).a.r.cell 0, (D2.out.then hW).a.r.ram.field.2.2, ST.out W' _ c2 (own_reads' (own_then O2.out hW)), ST.out W' _ RL.c (own_reads' (D2.out.then hW).a.r.ram.2.2.1)⟩⟩
      have hT0 := hT.out u2 (Below.refl _ _)
      have hT1 := hT.out u2.drew ((Below.refl _ _).drew)
      have s1 := hT0.2.2.1
      have s2 := hT0.2.2.2
      have s3 := hT1.2.2.1
      have s4 := hT1.2.2.2
      go_region_held3 (fun W' => W'.cell? ⟨RL.m, 0, none⟩ = some (.pointer (some ⟨RL.r, 0, none⟩)) ∧ W'.cell? ⟨RL.r, 0, none⟩ = some (.slice (some ⟨RL.b, 0, none⟩) l1.length RL.c) ∧ (convert 22 9 (.slice (some ⟨b2, 0, none⟩) l1.length c2)).run Try.prog W' = .ok (.string S) W' ∧ (convert 22 9 (.slice (some ⟨RL.b, 0, none⟩) l1.length RL.c)).run Try.prog W' = .ok (.string S) W')
        (first | exact hT.out _ (by assumption) | exact hT.out _ ((Below.refl _ _).drew))
        (fail)
      all_goals (
        go_wp2
        go_ret
        exact ⟨rfl, below_step B2.out ((Below.refl _ _).drew)⟩)
    · have hk' : k < n1 := by omega
      have HK := Aside0.mk hk'
      obtain ⟨bb, off, rfl, hbl, hcc⟩ := R.out (by have := HC.out; omega)
      have hcc := hcc k (by have := HC.out; omega)
      have DA := same_any T1 ps l1 (gC cs k) w0 ((RO.out k hk').then B0.out) (H.out.2 k hk') D.a.m.by_
      obtain ⟨e, he⟩ : ∃ e, gC cs k = e := ⟨_, rfl⟩
      rw [he] at hcc DA
      clear he
      obtain ⟨kd, va, x, nn, u, wq, A', nb, cb, t1, t2, t3, t4, t5⟩ := e
      have DA := Aside0.mk DA
      have dd : ∀ j v, (#[.int .i64 kd, .int .u32 va, .int .u32 x, .int .i64 nn, .bool u, .bool wq, .slice A' nb cb, .int .u32 t1, .int .u32 t2, .int .u32 t3, .int .u32 t4, .int .u32 t5] : Array Value)[j]? = some v → wr.cell? ⟨bb, off + k * 12 + j, Option.none⟩ = some v := fun j v hj => ((below_step B0.out D.a.below).cell (p := ⟨bb, off + k * 12 + j, Option.none⟩) hbl).trans (hcc j v hj)
      have d0 := dd 0 _ rfl
      have d1 := dd 1 _ rfl
      have d2 := dd 2 _ rfl
      have d3 := dd 3 _ rfl
      have d4 := dd 4 _ rfl
      have d5 := dd 5 _ rfl
      have d6 := dd 6 _ rfl
      have d7 := dd 7 _ rfl
      have d8 := dd 8 _ rfl
      have d9 := dd 9 _ rfl
      have d10 := dd 10 _ rfl
      have d11 := dd 11 _ rfl
      rw [Nat.add_zero] at d0
      have D1 := Aside0.mk D
      obtain ⟨Ap, cp, rfl⟩ := own_val D.b.r.tlb.op
      obtain ⟨Ae, ce, rfl⟩ := own_val D.b.r.tlb.oe
      have D2 := Aside0.mk (D1.out.then (below_alloc (Below.refl wr.heap.size wr) (.cells #[.int .i64 kd, .int .u32 va, .int .u32 x, .int .i64 nn, .bool u, .bool wq, .slice A' nb cb, .int .u32 t1, .int .u32 t2, .int .u32 t3, .int .u32 t4, .int .u32 t5] 92)))
      have C1 := Aside0.mk (heap_alloc_new wr (.cells #[.int .i64 kd, .int .u32 va, .int .u32 x, .int .i64 nn, .bool u, .bool wq, .slice A' nb cb, .int .u32 t1, .int .u32 t2, .int .u32 t3, .int .u32 t4, .int .u32 t5] 92))
      have g0 := D2.out.b.r.cell 0
      have g1 := D2.out.b.r.cell 1
      have k0 := D2.out.b.r.tlb.f0
      have k1 := D2.out.b.r.tlb.f1
      clear hcc dd D SS
      simp only [rmCells, List.getElem?_toArray, List.getElem?_cons_zero, List.getElem?_cons_succ] at g0 g1
      go_wp2_with fail
      have RP := Aside0.mk (own_reads' D2.out.b.r.tlb.op)
      have RE := Aside0.mk (own_reads' D2.out.b.r.tlb.oe)
      have BB := Aside0.mk (below_step B0.out D2.out.a.below)
      have BX := Aside0.mk (show wr.heap.size < (wr.alloc (.cells #[.int .i64 kd, .int .u32 va, .int .u32 x, .int .i64 nn, .bool u, .bool wq, .slice A' nb cb, .int .u32 t1, .int .u32 t2, .int .u32 t3, .int .u32 t4, .int .u32 t5] 92)).heap.size from by rw [show (wr.alloc (.cells #[.int .i64 kd, .int .u32 va, .int .u32 x, .int .i64 nn, .bool u, .bool wq, .slice A' nb cb, .int .u32 t1, .int .u32 t2, .int .u32 t3, .int .u32 t4, .int .u32 t5] 92)).heap.size = wr.heap.size + 1 from Array.size_push _]; omega)
      clear d0 d1 d2 d3 d4 d5 d6 d7 d8 d9 d10 d11 D1 R RO H
      generalize wr.alloc (.cells #[.int .i64 kd, .int .u32 va, .int .u32 x, .int .i64 nn, .bool u, .bool wq, .slice A' nb cb, .int .u32 t1, .int .u32 t2, .int .u32 t3, .int .u32 t4, .int .u32 t5] 92) = wb at *
      generalize wr.heap.size = bx at *
      have EN := Aside0.mk (fun (va : Int) (hv : R32 va) => rentry_call wb w0.heap.size R2' _ _ T1 false ps l1 va hv D2.out.b.r)
      have GE := Aside0.mk (fun (at_ : Int) (ha : R32 at_) => rget_any wb w0.heap.size R2'.r R2'.b R2'.c l1 D2.out.b.r.by_ at_ ha D2.out.b.r.ram)
      have GO := Aside0.mk (fun (at_ : Nat) (ha : at_ < 4294967296) (h : at_ + 4 ≤ l1.length) => rget_ok wb w0.heap.size R2'.r R2'.b R2'.c l1 D2.out.b.r.by_ at_ ha D2.out.b.r.ram h)
      have GB := Aside0.mk (fun (at_ : Int) (ha : R32 at_) (h : ¬ at_ + 4 ≤ l1.length) => rget_bus wb w0.heap.size R2'.r R2'.b R2'.c l1 at_ ha D2.out.b.r.ram h)
      have EP := Aside0.mk D2.out.b.r.ents
      have h8 : ps.length ≤ 8 := D2.out.b.r.tlb.2.2.2.2.2
      go_loopw [97] (fun iv wi => ∃ i : Nat, i ≤ ps.length ∧ iv = .int .i64 i ∧ wb = wi ∧ Aside0 (∀ j, j < i → good T1 l1 (ps.getD j nil2))) (fun iv _ => ps.length - (intOf iv).toNat)
      case atStart => exact ⟨0, Nat.zero_le _, rfl, rfl, ⟨fun j hj => absurd hj (Nat.not_lt_zero _)⟩⟩
      case round =>
        obtain ⟨i, hi, rfl, rfl, G⟩ := hrel
        by_cases hin : i = ps.length
        · obtain ⟨T2, ps2, l2, hl2, e1, e2⟩ := DA.out (good_cons (fun j hj => G.out j (by omega)))
          have E1 := Aside0.mk (show ∀ (w : World) (v vp ve v2 vp2 ve2 : Value), H4 w0 w L RL L2 R2' v vp ve v2 vp2 ve2 T1 ps l1 T1 ps l1 → Calls Try.prog 51 #[.pointer (some ⟨L.r, 0, none⟩), .pointer (some ⟨L.m, 0, none⟩), .pointer (some ⟨RL.m, 0, none⟩), .agg #[.int .i64 kd, .int .u32 va, .int .u32 x, .int .i64 nn, .bool u, .bool wq, .slice A' nb cb, .int .u32 t1, .int .u32 t2, .int .u32 t3, .int .u32 t4, .int .u32 t5]] w fun e w' => e = .returned (.bool true) ∧ (∃ v' vp' ve', H4 w0 w' L RL L2 R2' v' vp' ve' v2 vp2 ve2 T2 ps2 l2 T1 ps l1) ∧ KeepO w w' from fun w v vp ve v2 vp2 ve2 h => h4_a (c := ⟨kd, va, x, nn, u, wq, A', nb, cb, ⟨t1, t2, t3, t4, t5⟩⟩) h e1)
          have E2 := Aside0.mk (show ∀ (w : World) (v vp ve v2 vp2 ve2 : Value), H4 w0 w L RL L2 R2' v vp ve v2 vp2 ve2 T2 ps2 l2 T1 ps l1 → Calls Try.prog 51 #[.pointer (some ⟨L2.r, 0, none⟩), .pointer (some ⟨L2.m, 0, none⟩), .pointer (some ⟨R2'.m, 0, none⟩), .agg #[.int .i64 kd, .int .u32 va, .int .u32 x, .int .i64 nn, .bool u, .bool wq, .slice A' nb cb, .int .u32 t1, .int .u32 t2, .int .u32 t3, .int .u32 t4, .int .u32 t5]] w fun e w' => e = .returned (.bool true) ∧ ∃ v' vp' ve', H4 w0 w' L RL L2 R2' v vp ve v' vp' ve' T2 ps2 l2 T2 ps2 l2 from fun w v vp ve v2 vp2 ve2 h => h4_b (c := ⟨kd, va, x, nn, u, wq, A', nb, cb, ⟨t1, t2, t3, t4, t5⟩⟩) h e2)
          have C1r := C1.out
          have x0 := cell_of_row _ _ 0 _ _ _ C1r; have x1 := cell_of_row _ _ 1 _ _ _ C1r; have x2 := cell_of_row _ _ 2 _ _ _ C1r; have x3 := cell_of_row _ _ 3 _ _ _ C1r; have x4 := cell_of_row _ _ 4 _ _ _ C1r; have x5 := cell_of_row _ _ 5 _ _ _ C1r; have x6 := cell_of_row _ _ 6 _ _ _ C1r; have x7 := cell_of_row _ _ 7 _ _ _ C1r; have x8 := cell_of_row _ _ 8 _ _ _ C1r; have x9 := cell_of_row _ _ 9 _ _ _ C1r; have x10 := cell_of_row _ _ 10 _ _ _ C1r; have x11 := cell_of_row _ _ 11 _ _ _ C1r
          simp only [List.getElem?_toArray, List.getElem?_cons_zero, List.getElem?_cons_succ] at x0 x1 x2 x3 x4 x5 x6 x7 x8 x9 x10 x11
          clear C1r e1 e2 RP RE EN GE GO GB EP G g0 g1 k0 k1
          go_wp2_with (first
            | (go_at_call 51; (with_reducible refine (E1.out wb _ _ _ _ _ _ D2.out).mono ?_); rintro e u2 ⟨rfl, ⟨v', vp', ve', d⟩, kp⟩; have H2 := Aside0.mk d; clear x0 x1 x2 x3 x4 x5 x6 x7 x8 x9 x10 x11; have C2 := kp _ _ _ _ C1.out oTy_call; have x0 := cell_of_row _ _ 0 _ _ _ C2; have x1 := cell_of_row _ _ 1 _ _ _ C2; have x2 := cell_of_row _ _ 2 _ _ _ C2; have x3 := cell_of_row _ _ 3 _ _ _ C2; have x4 := cell_of_row _ _ 4 _ _ _ C2; have x5 := cell_of_row _ _ 5 _ _ _ C2; have x6 := cell_of_row _ _ 6 _ _ _ C2; have x7 := cell_of_row _ _ 7 _ _ _ C2; have x8 := cell_of_row _ _ 8 _ _ _ C2; have x9 := cell_of_row _ _ 9 _ _ _ C2; have x10 := cell_of_row _ _ 10 _ _ _ C2; have x11 := cell_of_row _ _ 11 _ _ _ C2; simp only [List.getElem?_toArray, List.getElem?_cons_zero, List.getElem?_cons_succ] at x0 x1 x2 x3 x4 x5 x6 x7 x8 x9 x10 x11; clear C2 kp d)
            | (go_at_call 51; (with_reducible refine (E2.out u2 _ _ _ _ _ _ H2.out).mono ?_); rintro e u3 ⟨rfl, v', vp', ve', d⟩; have H3 := Aside0.mk d; clear d))
          go_roundw
          case rel => exact ⟨k + 1, HK.out, by go_num, ⟨_, _, _, _, _, _, _, _, _, H3.out, hl2.trans hll⟩⟩
          case measure => have := HK.out; simp [intOf]; omega
        · have hi' : i < ps.length := by omega
          obtain ⟨ad, rfl, hc⟩ := RP.out.2.2 (by omega)
          obtain ⟨ae, rfl, hce⟩ := RE.out.2.2 (by omega)
          have c0 := hc i hi'
          rw [map_fst_getD ps i hi'] at c0
          have e0 := hce i hi'
          rw [map_snd_getD ps i hi'] at e0
          have hm : ps.getD i nil2 ∈ ps := by
            rw [List.getD_eq_getElem?_getD, List.getElem?_eq_getElem hi', Option.getD_some]; exact List.getElem_mem _
          obtain ⟨⟨hp0, hp1⟩, hq0, hq1⟩ := EP.out _ hm
          have GI := Aside0.mk (show good T1 l1 (ps.getD i nil2) → ∀ j, j < i + 1 → good T1 l1 (ps.getD j nil2) from fun h j hj => by
            by_cases hji : j = i
            · rw [hji]; exact h
            · exact G.out j (by omega))
          clear hc hce hm
          unfold good at GI
          obtain ⟨⟨pg, en⟩, hpe⟩ : ∃ q, ps.getD i nil2 = q := ⟨_, rfl⟩
          rw [hpe] at c0 e0 hp0 hp1 hq0 hq1
          have HPE := Aside0.mk hpe
          clear hpe
          simp only at c0 e0 hp0 hp1 hq0 hq1
          have hR : R32 (pg * 512) := by unfold R32; omega
          obtain ⟨a, ha⟩ : ∃ a : Nat, atE T1 (pg * 512) = (a : Int) := ⟨(atE T1 (pg * 512)).toNat, by have := (atE_r T1 (pg * 512)).1; omega⟩
          have har : R32 (a : Int) := by rw [← ha]; exact atE_r _ _
          have ENo := EN.out (pg * 512) hR
          rw [ha] at ENo
          have GI := Aside0.mk (show offE T1 (pg * 512) = false → a + 4 ≤ l1.length → leN ((l1.drop a).take 4) = en → ∀ j, j < i + 1 → good T1 l1 (ps.getD j nil2) from fun q1 q2 q3 => GI.out (by
            rw [HPE.out]
            refine ⟨q1, ?_, ?_⟩
            · show atE T1 (pg * 512) + 4 ≤ (l1.length : Int)
              rw [ha]; omega
            · show leN ((l1.drop (atE T1 (pg * 512)).toNat).take 4) = en
              rw [ha]; exact q3))
          have GEo := Aside0.mk (GE.out a har)
          have hR := Aside0.mk hR
          have hra := Aside0.mk har
          clear har ha HPE EN G DA
          obtain ⟨og, hog⟩ : ∃ o, offE T1 (pg * 512) = o := ⟨_, rfl⟩
          rw [hog] at ENo GI
          clear hog
          cases og
          · have ENo := Aside0.mk (show Calls Try.prog 49 #[.pointer (some ⟨R2'.m, 0, none⟩), .int .u32 (pg * 512)] wb fun e w' => e = .returned (.tuple #[.int .u32 a, .bool true]) ∧ wb = w' from ENo)
            by_cases h1 : a + 4 ≤ l1.length
            · have GOo := Aside0.mk (GO.out a (by have := hra.out.2; omega) h1)
              have GI := Aside0.mk (GI.out rfl h1)
              clear GO GB GEo GE
              generalize leN ((l1.drop a).take 4) = z at *
              by_cases hz : z = en
              · subst hz
                go_wp2_with (first
                  | (go_at_call 49; (with_reducible refine (ENo.out).mono ?_); rintro e u1 ⟨rfl, rfl⟩)
                  | (go_at_call 50; (with_reducible refine (GOo.out).mono ?_); rintro e u2 ⟨rfl, rfl⟩))
                go_roundw
                case rel => exact ⟨i + 1, by omega, by go_num, trivial, ⟨GI.out trivial⟩⟩
                case measure => simp [intOf]; omega
              · have hz1 : (z == en) = false := beq_eq_false_iff_ne.mpr hz
                have hz2 : (z != en) = true := bne_iff_ne.mpr hz
                go_wp2_with (first
                  | (go_at_call 49; (with_reducible refine (ENo.out).mono ?_); rintro e u1 ⟨rfl, rfl⟩)
                  | (go_at_call 50; (with_reducible refine (GOo.out).mono ?_); rintro e u2 ⟨rfl, rfl⟩))
                go_ret
                exact ⟨rfl, BB.out⟩
            · have GBo := Aside0.mk (GB.out a hra.out (by omega))
              clear GO GB GEo GE GI
              go_wp2_with (first
                | (go_at_call 49; (with_reducible refine (ENo.out).mono ?_); rintro e u1 ⟨rfl, rfl⟩)
                | (go_at_call 50; (with_reducible refine (GBo.out).mono ?_); rintro e u2 ⟨rfl, rfl⟩))
              go_ret
              exact ⟨rfl, BB.out⟩
          · have ENo := Aside0.mk (show Calls Try.prog 49 #[.pointer (some ⟨R2'.m, 0, none⟩), .int .u32 (pg * 512)] wb fun e w' => e = .returned (.tuple #[.int .u32 a, .bool false]) ∧ wb = w' from ENo)
            clear GO GB GE GI
            go_wp2_with (first
              | (go_at_call 49; (with_reducible refine (ENo.out).mono ?_); rintro e u1 ⟨rfl, rfl⟩)
              | (go_at_call 50; (with_reducible refine (GEo.out).mono ?_); rintro e u2 ⟨gx, gy, rfl, rfl⟩))
            go_ret
            exact ⟨rfl, BB.out⟩
theorem MmuSame_walk (a0 : Option Addr) (len0 cap0 : Nat) (z0 : List Int) (t1 t2 t3 t4 t5 : Int) (a2 : Option Addr) (len2 cap2 : Nat) (w : World) (w0 : IsRow .u8 w a0 len0 cap0 z0) (_ : len0 * 1 ≤ 140737488351232)
    (h1 : (Lit.int .u32 t1).wf = true) (h2 : (Lit.int .u32 t2).wf = true) (h3 : (Lit.int .u32 t3).wf = true) (h4 : (Lit.int .u32 t4).wf = true) (h5 : (Lit.int .u32 t5).wf = true) (w2 : IsRowN 12 CallV w a2 len2 cap2) :
    Calls Try.prog 11 #[.slice a0 len0 cap0, .agg #[.int .u32 t1, .int .u32 t2, .int .u32 t3, .int .u32 t4, .int .u32 t5], .slice a2 len2 cap2] w fun e w' => e = .returned (.bool true) ∧ Below w.heap.size w w' := by
  obtain ⟨l, rfl, hr, hm, hwf, hc⟩ := ReadsInt.ofRowC w0
  obtain ⟨cs, hcs, r, ro⟩ := calRow w2
  have rr : ∀ {x : Int}, (Lit.int .u32 x).wf = true → R32 x := fun {x} h => by
    obtain ⟨n, rfl, hn⟩ := u32_nat h
    unfold R32; omega
  have hT : Tabs.ok ⟨t1, t2, t3, t4, t5⟩ := ⟨rr h1, rr h2, rr h3, rr h4, rr h5⟩
  have hby : Bytes l := fun x hx => by obtain ⟨j, rfl, hj⟩ := u8_nat (hwf x hx); omega
  have hn2 : len2 ≤ 9223372036854775807 := by have := w2.1; unfold maxLen at this; omega
  by_cases h : 8192 < l.length
  · exact msame_off a0 _ cap0 ⟨t1, t2, t3, t4, t5⟩ a2 _ cap2 w h
  · by_cases H : len2 ≤ 60 ∧ ∀ i, i < len2 → fineC (gC cs i)
    · exact msame_ok a0 cap0 l ⟨t1, t2, t3, t4, t5⟩ a2 len2 cap2 cs w (by omega) hr hby hT hcs hn2 H r ro
    · exact msame_great a0 l.length cap0 ⟨t1, t2, t3, t4, t5⟩ a2 len2 cap2 cs w (by omega) hcs hn2 H r
end Go.Proofs.Ytiogbgjeimdgmaa.RefWalk
