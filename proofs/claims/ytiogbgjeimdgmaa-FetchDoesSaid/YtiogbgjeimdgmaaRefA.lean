/- The document's buffer (camshaftref04), walked: what its calls turn, block by block. -/
import Derived.Test.YtiogbgjeimdgmaaGMmd
import Derived.Test.YtiogbgjeimdgmaaGTlc
namespace Go.Proofs.Ytiogbgjeimdgmaa.RefWalk
open Go.RowKit Go.Proofs.Ytiogbgjeimdgmaa.Aid Go.Proofs.YtiogbgjeimdgmaaW.PrintWords Go.Proofs.YtiogbgjeimdgmaaW.PrintLast Go.Proofs.YtiogbgjeimdgmaaW.PrintMore
open Go.Proofs.Ytiogbgjeimdgmaa.MmuWalk (Chg)
open Go.Proofs.Ytiogbgjeimdgmaa.TlbWalk
attribute [local go_sem] max2_int min2_int max_two min_two max_three min_three max_four min_four   -- for this text's walks alone
set_option linter.unusedVariables false
set_option linter.unusedSimpArgs false
/-- The blocks of a buffer. -/
def tfoot (g : Nat) (vp ve : Value) (i : Nat) : Prop := i = g ∨ vp.ownBlock = some i ∨ ve.ownBlock = some i
/-- A row that is one of the buffer's, or new. -/
def Nx (W : World) (vp ve v : Value) : Prop := ∀ i, v.ownBlock = some i → vp.ownBlock = some i ∨ ve.ownBlock = some i ∨ W.heap.size ≤ i
theorem Nx.nil (W : World) (vp ve : Value) : Nx W vp ve (.slice none 0 0) := fun i hi => by simp [Value.ownBlock] at hi
theorem Nx.p (W : World) (vp ve : Value) : Nx W vp ve vp := fun i hi => .inl hi
theorem Nx.e (W : World) (vp ve : Value) : Nx W vp ve ve := fun i hi => .inr (.inl hi)
theorem Nx.trans {W W1 : World} {vp ve vp1 ve1 v2 : Value} (hp : Nx W vp ve vp1) (he : Nx W vp ve ve1) (k : Nx W1 vp1 ve1 v2) (hs : W.heap.size ≤ W1.heap.size) : Nx W vp ve v2 := fun i hi => by
  rcases k i hi with k | k | k
  · exact hp i k
  · exact he i k
  · exact .inr (.inr (Nat.le_trans hs k))
theorem Nx.app {W W1 : World} {vp ve v v1 : Value} (h : Nx W vp ve v) (hat : v1.ownBlock = v.ownBlock ∨ ∃ b, v1.ownBlock = some b ∧ W1.heap.size ≤ b) (hs : W.heap.size ≤ W1.heap.size) : Nx W vp ve v1 := fun i hi => by
  rcases hat with e | ⟨b, e, hb⟩
  · exact h i (e ▸ hi)
  · rw [e] at hi
    simp only [Option.some.injEq] at hi
    exact .inr (.inr (by omega))
structure TStep (W W' : World) (base g : Nat) (vp ve : Value) (ps : List (Int × Int)) : Prop where
  at_ : ∃ vp' ve', RefAt W' base g vp' ve' ps ∧ Nx W vp ve vp' ∧ Nx W vp ve ve'
  chg : Chg (tfoot g vp ve) W W'
theorem chg_grown {S : Nat → Prop} {w w1 w2 : World} {r : Option Nat} (h : Chg S w w1) (g : w1.grownBy w2 r) (hr : ∀ i, r = some i → i < w.heap.size → S i) : Chg S w w2 :=
  ⟨g.os.trans h.os, g.tape.trans h.tape, g.output.trans h.output, Nat.le_trans h.size g.size, fun i hi hn => (g.block i (Nat.lt_of_lt_of_le hi h.size) (fun e => hn (hr i e.symm hi))).trans (h.block i hi hn)⟩
theorem chg_set {S : Nat → Prop} {w w1 : World} (h : Chg S w w1) (g j : Nat) (u : Value) (hg : g < w.heap.size → S g) : Chg S w (w1.setCell ⟨g, j, none⟩ u) :=
  ⟨h.os, h.tape, h.output, by simpa [World.setCell] using h.size, fun i hi hn => (Below.heap_setCell w1 ⟨g, j, none⟩ u i (fun e => hn (by rw [e] at hi ⊢; exact hg hi))).trans (h.block i hi hn)⟩
theorem RefAt.bl {W : World} {base g : Nat} {vp ve : Value} {ps : List (Int × Int)} (h : RefAt W base g vp ve ps) : base ≤ W.heap.size := by
  have := h.lt
  have := h.2.1
  omega
theorem tclear_call (w : World) (base g : Nat) (vp ve : Value) (ps : List (Int × Int)) (h : RefAt w base g vp ve ps) :
    Calls Try.prog 47 #[.pointer (some ⟨g, 0, none⟩)] w fun e w' => e = .returned (.tuple #[]) ∧ TStep w w' base g vp ve [] := by
  have f0 := h.f0
  have f1 := h.f1
  have r0 := h.fr 0
  have r1 := h.fr 1
  have H := Aside0.mk h
  clear h
  go_enter Try.func47, Try.ntmps47
  go_wp2
  go_end0
  have p1 : (w.setCell ⟨g, 0, none⟩ (.slice none 0 0)).heap[g]? = some (.cells #[.slice none 0 0, ve] 94 (0, 0)) := blk_put H.out.1 0 _ rfl
  have p2 : ((w.setCell ⟨g, 0, none⟩ (.slice none 0 0)).setCell ⟨g, 1, none⟩ (.slice none 0 0)).heap[g]? = some (.cells #[.slice none 0 0, .slice none 0 0] 94 (0, 0)) := blk_put p1 1 _ rfl
  exact ⟨rfl, ⟨_, _, ⟨p2, H.out.2.1, World.ownsRow_nil _ _ _ _, World.ownsRow_nil _ _ _ _, ne_nil _, Nat.zero_le _⟩, Nx.nil _ _ _, Nx.nil _ _ _⟩, chg_set (chg_set (Chg.refl w _) g 0 _ (fun _ => .inl rfl)) g 1 _ (fun _ => .inl rfl)⟩
set_option maxHeartbeats 2000000 in
theorem tdrop_call (w : World) (base g : Nat) (vp ve : Value) (ps : List (Int × Int)) (page : Int) (h : RefAt w base g vp ve ps) :
    Calls Try.prog 74 #[.pointer (some ⟨g, 0, none⟩), .int .u32 page] w fun e w' => e = .returned (.tuple #[]) ∧ TStep w w' base g vp ve (dropR page ps) := by
  have f0 := h.f0
  have hl := h.2.2.2.2.2
  obtain ⟨A, c, rfl⟩ := own_val h.op
  obtain ⟨AE, ce, rfl⟩ := own_val h.oe
  have RP := Aside0.mk (own_reads' h.op)
  have RE := Aside0.mk (own_reads' h.oe)
  have H := Aside0.mk h
  clear h
  go_enter Try.func74, Try.ntmps74
  go_wp2
  go_loopw [4, 5, 13] (fun p e i wr => ∃ k : Nat, k ≤ ps.length ∧ i = .int .i64 k ∧ Aside0 (Below w.heap.size w wr) ∧ Aside0 (wr.ownsRow w.heap.size 23 1 p (dropR page (ps.take k)).length (nums .u32 ((dropR page (ps.take k)).map Prod.fst))) ∧
    Aside0 (wr.ownsRow w.heap.size 23 1 e (dropR page (ps.take k)).length (nums .u32 ((dropR page (ps.take k)).map Prod.snd))) ∧ Aside0 (NeRow p e)) (fun _ _ i _ => ps.length - (intOf i).toNat)
  case atStart => exact ⟨0, Nat.zero_le _, rfl, ⟨Below.refl _ _⟩, ⟨World.ownsRow_nil _ _ _ _⟩, ⟨World.ownsRow_nil _ _ _ _⟩, ⟨ne_nil _⟩⟩
  case round =>
    obtain ⟨k, hk, rfl, B, OP, OE, NR⟩ := hrel
    obtain ⟨A1, c1, rfl⟩ := own_val OP.out
    obtain ⟨A2, c2, rfl⟩ := own_val OE.out
    have HR := Aside0.mk (H.out.then B.out)
    by_cases hkn : k = ps.length
    · subst hkn
      have q0 := HR.out.f0
      have q1 := HR.out.f1
      have r0 := HR.out.fr 0
      have r1 := HR.out.fr 1
      have OPX := OP.out
      have OEX := OE.out
      have NX := NR.out
      rw [List.take_length] at OPX OEX NX
      have OPX := Aside0.mk OPX
      have OEX := Aside0.mk OEX
      have NX := Aside0.mk NX
      clear OP OE NR
      go_wp2
      go_end0
      have hfl : (dropR page ps).length ≤ 8 := Nat.le_trans (List.length_filter_le _ _) hl
      have p1 : (wr.setCell ⟨g, 0, none⟩ (.slice A1 (dropR page ps).length c1)).heap[g]? = some (.cells #[.slice A1 (dropR page ps).length c1, .slice AE ps.length ce] 94 (0, 0)) := blk_put HR.out.1 0 _ rfl
      have hbs := RefAt.bl H.out
      refine ⟨rfl, ⟨_, _, ref_store HR.out.1 H.out.2.1 (own_less OPX.out hbs) (own_less OEX.out hbs) NX.out hfl, fun i hi => .inr (.inr (own_base OPX.out i hi)), fun i hi => .inr (.inr (own_base OEX.out i hi))⟩, chg_set (chg_set (Chg.of_below B.out _) g 0 _ (fun _ => .inl rfl)) g 1 _ (fun _ => .inl rfl)⟩
    · have hk' : k < ps.length := by omega
      obtain ⟨ad, rfl, hc⟩ := RP.out.2.2 (by omega)
      obtain ⟨ae, rfl, hce⟩ := RE.out.2.2 (by omega)
      have c0 := hc k hk'
      rw [map_fst_getD ps k hk'] at c0
      have e0 := hce k hk'
      rw [map_snd_getD ps k hk'] at e0
      have cl := World.block_lt_of_cell? w _ c0
      have el := World.block_lt_of_cell? w _ e0
      have c0' := (B.out.cell cl).trans c0
      have E0 := Aside0.mk e0
      have EL := Aside0.mk el
      have nx := dropR_next page ps k hk'
      have hfk : (dropR page (ps.take k)).length ≤ 8 := Nat.le_trans (List.length_filter_le _ _) (by rw [List.length_take]; omega)
      clear hc hce c0 e0 cl el f0
      generalize ps.getD k nil2 = q at *
      obtain ⟨x, y⟩ := q
      dsimp only at c0' E0 nx
      by_cases hx : x = page
      · rw [if_pos hx, List.append_nil] at nx
        have hxb : (x != page) = false := by rw [bne_eq_false_iff_eq]; exact hx
        have NX := Aside0.mk nx
        clear nx hx
        go_wp2
        go_roundw
        case rel => exact ⟨k + 1, by omega, rfl, B, by rw [NX.out]; exact OP, by rw [NX.out]; exact OE, NR⟩
        case measure => simp [intOf]; omega
      · rw [if_neg hx] at nx
        have hxb : (x != page) = true := by rw [bne_iff_ne]; exact hx
        have NX := Aside0.mk nx
        clear nx hx
        generalize hF : dropR page (ps.take k) = F at *
        go_wp2_with (first
          | (at_builtin; refine print_append_num (w0 := w) w.heap.size rfl (.tmp 21) (.tmp 23) 58 23 .u32 4 rfl Try.underlying58 info22 (by decide) (.slice A1 F.length c1) (F.map Prod.fst) x rfl (by simp [Act.eval]) (by rw [List.length_map]; exact OP.out) B.out B.out.size (by rw [List.length_map]; omega) ?_; intro o1 w1 ho1 hb1 hg1 hat1; have hl1 : (F.map Prod.fst ++ [x]).length = F.length + 1 := (by simp); rw [hl1] at ho1; obtain ⟨A3, c3, rfl⟩ := own_val ho1; have OP1 := Aside0.mk ho1; have B1 := Aside0.mk hb1; have OE1 := Aside0.mk (own_other OE.out hg1 (ne_other NR.out)); have N1 := Aside0.mk (ne_append NR.out hat1 OE.out); have HR1 := Aside0.mk (H.out.then hb1); have q1 := HR1.out.f1; have e1 := (hb1.cell EL.out).trans E0.out; clear ho1 hb1 hg1 hat1)
          | (at_builtin; refine print_append_num (w0 := w) w.heap.size rfl (.tmp 25) (.tmp 33) 58 23 .u32 4 rfl Try.underlying58 info22 (by decide) (.slice A2 F.length c2) (F.map Prod.snd) y rfl (by simp [Act.eval]) (by rw [List.length_map]; exact OE1.out) B1.out B1.out.size (by rw [List.length_map]; omega) ?_; intro o2 w2 ho2 hb2 hg2 hat2; have hl2 : (F.map Prod.snd ++ [y]).length = F.length + 1 := (by simp); rw [hl2] at ho2; obtain ⟨A4, c4, rfl⟩ := own_val ho2; have OE2 := Aside0.mk ho2; have B2 := Aside0.mk hb2; have OP2 := Aside0.mk (own_other OP1.out hg2 (ne_other (ne_symm N1.out))); have N2 := Aside0.mk (ne_append' N1.out hat2 OP1.out); clear ho2 hb2 hg2 hat2))
        have hlen : (F ++ [(x, y)]).length = F.length + 1 := by simp
        go_roundw
        case rel => exact ⟨k + 1, by omega, by simp [hlen], B2, by rw [NX.out, hlen, List.map_append]; exact OP2, by rw [NX.out, hlen, List.map_append]; exact OE2, N2⟩
        case measure => simp [intOf]; omega
theorem tput_yes (w : World) (base g : Nat) (vp ve : Value) (ps : List (Int × Int)) (page entry : Int) (h : RefAt w base g vp ve ps) (hp : posP page ps < ps.length) :
    Calls Try.prog 62 #[.pointer (some ⟨g, 0, none⟩), .int .u32 page, .int .u32 entry] w fun e w' => e = .returned (.tuple #[]) ∧ TStep w w' base g vp ve (putP page entry ps) := by
  have A' := Aside0.mk (rat_yes w base g vp ve ps page h hp)
  have hpp : putP page entry ps = ps.set (posP page ps) (page, entry) := by
    unfold putP
    rw [if_pos hp]
  have hfst : (putP page entry ps).map Prod.fst = ps.map Prod.fst := by
    have := set_same_fst ps (posP page ps) hp entry
    rw [posP_page page ps hp] at this
    rw [hpp, this]
  have HPP := Aside0.mk hpp
  have HFST := Aside0.mk hfst
  clear hpp hfst
  have f1 := h.f1
  obtain ⟨b, c, rfl⟩ : ∃ b c, ve = .slice (some ⟨b, 0, none⟩) ps.length c := by
    rcases h.oe.2 with ⟨_, h0⟩ | ⟨b, c, cur, rfl, _⟩
    · omega
    · exact ⟨b, c, rfl⟩
  obtain ⟨ad, he, hc⟩ := (own_reads' h.oe).2.2 (by omega)
  have c0 := h.oe.cellAt (posP page ps) (by omega)
  have c1 : ∃ u, w.cell? ⟨b, posP page ps, none⟩ = some u := by
    have hl := h.oe.1
    exact ⟨_, c0.trans (List.getElem?_eq_getElem (by omega))⟩
  obtain ⟨u, hu⟩ := c1
  have hfr := h.oe.frozenAt (posP page ps)
  have hl8 := h.2.2.2.2.2
  have H := Aside0.mk h
  clear h hc he c0
  generalize posP page ps = i at *
  go_enter Try.func62, Try.ntmps62
  go_wp2_with (first | (go_at_call 76; (with_reducible refine (A'.out).mono ?_); rintro e w1 ⟨rfl, rfl⟩))
  refine bodyPost_ret (results_none rfl _ _ _) rfl ?_
  have hs := H.out.oe.stored i (.int .u32 entry)
  have hlen : (putP page entry ps).length = ps.length := by rw [HPP.out, List.length_set]
  have hsnd : (nums .u32 (ps.map Prod.snd)).set i (.int .u32 entry) = nums .u32 ((putP page entry ps).map Prod.snd) := by
    rw [HPP.out, List.map_set]; simp [nums, List.map_set]
  rw [hsnd] at hs
  have hbb := H.out.oe
  refine ⟨rfl, ⟨_, _, ⟨(hs.2.block g H.out.lt (fun e => own_ne54 H.out.oe H.out.1 (by simpa [Value.ownBlock] using e.symm))).trans H.out.1, H.out.2.1, ?_, ?_, H.out.2.2.2.2.1, by omega⟩, Nx.p _ _ _, Nx.e _ _ _⟩, chg_grown (Chg.refl w _) hs.2 (fun i hi _ => .inr (.inr hi))⟩
  · rw [hlen, HFST.out]
    exact own_other H.out.op hs.2 (ne_other (ne_symm H.out.2.2.2.2.1))
  · rw [hlen]; exact hs.1
set_option maxHeartbeats 2000000 in
theorem tput_add (w : World) (base g : Nat) (vp ve : Value) (ps : List (Int × Int)) (page entry : Int) (h : RefAt w base g vp ve ps) (hp : ¬ posP page ps < ps.length) (h8 : ¬ ps.length = 8) :
    Calls Try.prog 62 #[.pointer (some ⟨g, 0, none⟩), .int .u32 page, .int .u32 entry] w fun e w' => e = .returned (.tuple #[]) ∧ TStep w w' base g vp ve (putP page entry ps) := by
  have A' := Aside0.mk (rat_no w _ g vp ve ps page h hp)
  have hpp : putP page entry ps = ps ++ [(page, entry)] := by
    unfold putP
    rw [if_neg hp, if_neg h8]
  have HPP := Aside0.mk hpp
  have h8' : ((ps.length : Int) == 8) = false := beq_eq_false_iff_ne.mpr (by omega)
  have f0 := h.f0
  have hl8 := h.2.2.2.2.2
  obtain ⟨A1, c1, rfl⟩ := own_val h.op
  obtain ⟨A2, c2, rfl⟩ := own_val h.oe
  have H := Aside0.mk h
  have B0 := Aside0.mk (Below.refl base w)
  have HBL := Aside0.mk (RefAt.bl h)
  clear h hpp
  go_enter Try.func62, Try.ntmps62
  go_wp2_with (first
    | (go_at_call 76; (with_reducible refine (A'.out).mono ?_); rintro e w1 ⟨rfl, rfl⟩)
    | (at_builtin; refine print_append_num (w0 := w) base rfl (.tmp 37) (.tmp 39) 58 23 .u32 4 rfl Try.underlying58 info22 (by decide) (.slice A1 ps.length c1) (ps.map Prod.fst) page rfl (by simp [Act.eval]) (by rw [List.length_map]; exact H.out.op) B0.out HBL.out (by rw [List.length_map]; omega) ?_; intro o3 w3 ho3 hb3 hg3 hat3; have hl3 : (ps.map Prod.fst ++ [page]).length = ps.length + 1 := (by simp); rw [hl3] at ho3; obtain ⟨A3, c3, rfl⟩ := own_val ho3; have OP3 := Aside0.mk ho3; have B3 := Aside0.mk hb3; have OE3 := Aside0.mk (own_other H.out.oe hg3 (ne_other H.out.2.2.2.2.1)); have N3 := Aside0.mk (ne_append H.out.2.2.2.2.1 hat3 H.out.oe); have CG3 := Aside0.mk (chg_grown (Chg.refl w (tfoot g (.slice A1 ps.length c1) (.slice A2 ps.length c2))) hg3 (fun i hi _ => .inr (.inl hi))); have NP3 := Aside0.mk ((Nx.p w (.slice A1 ps.length c1) (.slice A2 ps.length c2)).app hat3 (Nat.le_refl _)); have hblk := (hg3.block _ (Array.getElem?_eq_some_iff.1 H.out.1).1 (fun e => own_ne54 H.out.op H.out.1 e.symm)).trans H.out.1; have BK3 := Aside0.mk hblk; have q30 := cell_of_row w3 g 0 _ _ _ hblk; have q31 := cell_of_row w3 g 1 _ _ _ hblk; have r30 := frozen_of_row w3 g 0 _ _ hblk; have r31 := frozen_of_row w3 g 1 _ _ hblk; clear hblk ho3 hb3 hg3 hat3)
    | (at_builtin; refine print_append_num (w0 := w) (W := w3.setCell ⟨g, 0, none⟩ (.slice A3 (ps.length + 1) c3)) base rfl (.tmp 47) (.tmp 49) 58 23 .u32 4 rfl Try.underlying58 info22 (by decide) (.slice A2 ps.length c2) (ps.map Prod.snd) entry rfl (by simp [Act.eval, World.setCell]) (by rw [List.length_map]; exact ownsRow_setCell_other (a := ⟨g, 0, none⟩) OE3.out (own_ne54 OE3.out BK3.out) _) (B3.out.setCell H.out.2.1 _) (Nat.le_trans HBL.out (B3.out.setCell H.out.2.1 _).size) (by rw [List.length_map]; omega) ?_; intro o4 w4 ho4 hb4 hg4 hat4; have hl4 : (ps.map Prod.snd ++ [entry]).length = ps.length + 1 := (by simp); rw [hl4] at ho4; obtain ⟨A4, c4, rfl⟩ := own_val ho4; have oe' := ownsRow_setCell_other (a := ⟨g, 0, none⟩) OE3.out (own_ne54 OE3.out BK3.out) (.slice A3 (ps.length + 1) c3); have op' := ownsRow_setCell_other (a := ⟨g, 0, none⟩) OP3.out (own_ne54 OP3.out BK3.out) (.slice A3 (ps.length + 1) c3); have OE4 := Aside0.mk ho4; have B4 := Aside0.mk hb4; have OP4 := Aside0.mk (own_other op' hg4 (ne_other (ne_symm N3.out))); have N4 := Aside0.mk (ne_append' N3.out hat4 op'); have bk3 : (w3.setCell ⟨g, 0, none⟩ (.slice A3 (ps.length + 1) c3)).heap[g]? = some (.cells #[.slice A3 (ps.length + 1) c3, .slice A2 ps.length c2] 94 (0, 0)) := blk_put BK3.out 0 _ rfl; have CG4 := Aside0.mk (chg_grown (chg_set CG3.out g 0 (.slice A3 (ps.length + 1) c3) (fun _ => .inl rfl)) hg4 (fun i hi _ => .inr (.inr hi))); have NE4 := Aside0.mk ((Nx.e w (.slice A1 ps.length c1) (.slice A2 ps.length c2)).app hat4 (chg_set CG3.out g 0 (.slice A3 (ps.length + 1) c3) (fun _ => .inl rfl)).size); have hblk := (hg4.block g (Array.getElem?_eq_some_iff.1 bk3).1 (fun e => own_ne54 oe' bk3 e.symm)).trans bk3; have BK4 := Aside0.mk hblk; have q41 := cell_of_row w4 g 1 _ _ _ hblk; have r41 := frozen_of_row w4 g 1 _ _ hblk; clear hblk ho4 hb4 hg4 hat4 oe' op' bk3))
  go_end0
  have hlen : (ps ++ [(page, entry)]).length = ps.length + 1 := by simp
  have p4 : (w4.setCell ⟨g, 1, none⟩ (.slice A4 (ps.length + 1) c4)).heap[g]? = some (.cells #[.slice A3 (ps.length + 1) c3, .slice A4 (ps.length + 1) c4] 94 (0, 0)) := blk_put BK4.out 1 _ rfl
  have e1 : nums .u32 ((ps ++ [(page, entry)]).map Prod.fst) = nums .u32 (ps.map Prod.fst ++ [page]) := by rw [List.map_append]; rfl
  have e2 : nums .u32 ((ps ++ [(page, entry)]).map Prod.snd) = nums .u32 (ps.map Prod.snd ++ [entry]) := by rw [List.map_append]; rfl
  refine ⟨rfl, ⟨.slice A3 (ps.length + 1) c3, .slice A4 (ps.length + 1) c4, ?_, NP3.out, NE4.out⟩, chg_set CG4.out g 1 _ (fun _ => .inl rfl)⟩
  rw [HPP.out]
  exact ⟨p4, H.out.2.1, by rw [hlen, e1]; exact ownsRow_setCell_other (a := ⟨g, 1, none⟩) OP4.out (own_ne54 OP4.out BK4.out) _, by rw [hlen, e2]; exact ownsRow_setCell_other (a := ⟨g, 1, none⟩) OE4.out (own_ne54 OE4.out BK4.out) _, N4.out, by rw [hlen]; omega⟩

set_option maxHeartbeats 2000000 in
theorem tput_full (w : World) (base g : Nat) (vp ve : Value) (ps : List (Int × Int)) (page entry : Int) (h : RefAt w base g vp ve ps) (hp : ¬ posP page ps < ps.length) (h8 : ps.length = 8) (hd : dropR (ps.getD 0 nil2).1 ps = ps.drop 1) :
    Calls Try.prog 62 #[.pointer (some ⟨g, 0, none⟩), .int .u32 page, .int .u32 entry] w fun e w' => e = .returned (.tuple #[]) ∧ TStep w w' base g vp ve (putP page entry ps) := by
  have A' := Aside0.mk (rat_no w _ g vp ve ps page h hp)
  have D := Aside0.mk (tdrop_call w base g vp ve ps (ps.getD 0 nil2).1 h)
  rw [hd] at D
  have hpp : putP page entry ps = ps.drop 1 ++ [(page, entry)] := by
    unfold putP
    rw [if_neg hp, if_pos h8]
  have hql : (ps.drop 1).length = 7 := by rw [List.length_drop]; omega
  generalize hqs : ps.drop 1 = qs at *
  have HPP := Aside0.mk hpp
  have h8' : ((ps.length : Int) == 8) = true := beq_iff_eq.mpr (by omega)
  have f0 := h.f0
  obtain ⟨A1, c1, rfl⟩ := own_val h.op
  obtain ⟨ad, rfl, hc⟩ := (own_reads' h.op).2.2 (by omega)
  have c0 := hc 0 (by omega)
  rw [map_fst_getD ps 0 (by omega), show ad.add 0 = ad from by unfold Addr.add; rw [if_pos rfl]] at c0
  generalize (ps.getD 0 nil2).1 = p0 at *
  have HQL := Aside0.mk hql
  have hps := Aside0.mk h8
  have HBL := Aside0.mk (RefAt.bl h)
  clear h hpp hc hqs hd hql h8
  go_enter Try.func62, Try.ntmps62
  have hp8 : (0 : Int) < (ps.length : Int) := by have := hps.out; omega
  have hp8' : 0 < ps.length := by have := hps.out; omega
  go_wp2_with (first
    | (go_at_call 76; (with_reducible refine (A'.out).mono ?_); rintro e w1 ⟨rfl, rfl⟩)
    | (go_at_call 74; (with_reducible refine (D.out).mono ?_); rintro e w2 ⟨rfl, ⟨vp2, ve2, hr2, np2, ne2⟩, cg2⟩; obtain ⟨A5, c5, rfl⟩ := own_val hr2.op; obtain ⟨A6, c6, rfl⟩ := own_val hr2.oe; have q20 := hr2.f0; have H2 := Aside0.mk hr2; have B2 := Aside0.mk (Below.refl base w2); have HB2 := Aside0.mk (RefAt.bl hr2); have NP2 := Aside0.mk np2; have NE2 := Aside0.mk ne2; have CG2 := Aside0.mk cg2; clear hr2 np2 ne2 cg2)
    | (at_builtin; refine print_append_num (w0 := w2) base rfl (.tmp 37) (.tmp 39) 58 23 .u32 4 rfl Try.underlying58 info22 (by decide) (.slice A5 qs.length c5) (qs.map Prod.fst) page rfl (by simp [Act.eval]) (by rw [List.length_map]; exact H2.out.op) B2.out HB2.out (by rw [List.length_map]; have := HQL.out; omega) ?_; intro o3 w3 ho3 hb3 hg3 hat3; have hl3 : (qs.map Prod.fst ++ [page]).length = qs.length + 1 := (by simp); rw [hl3] at ho3; obtain ⟨A3, c3, rfl⟩ := own_val ho3; have OP3 := Aside0.mk ho3; have B3 := Aside0.mk hb3; have OE3 := Aside0.mk (own_other H2.out.oe hg3 (ne_other H2.out.2.2.2.2.1)); have N3 := Aside0.mk (ne_append H2.out.2.2.2.2.1 hat3 H2.out.oe); have CG3 := Aside0.mk (chg_grown CG2.out hg3 (fun i hi hl => by rcases NP2.out i hi with h | h | h; exact .inr (.inl h); exact .inr (.inr h); omega)); have NP3 := Aside0.mk (NP2.out.app hat3 CG2.out.size); have hblk := (hg3.block _ (Array.getElem?_eq_some_iff.1 H2.out.1).1 (fun e => own_ne54 H2.out.op H2.out.1 e.symm)).trans H2.out.1; have BK3 := Aside0.mk hblk; have q30 := cell_of_row w3 g 0 _ _ _ hblk; have q31 := cell_of_row w3 g 1 _ _ _ hblk; have r30 := frozen_of_row w3 g 0 _ _ hblk; have r31 := frozen_of_row w3 g 1 _ _ hblk; clear hblk ho3 hb3 hg3 hat3)
    | (at_builtin; refine print_append_num (w0 := w2) (W := w3.setCell ⟨g, 0, none⟩ (.slice A3 (qs.length + 1) c3)) base rfl (.tmp 47) (.tmp 49) 58 23 .u32 4 rfl Try.underlying58 info22 (by decide) (.slice A6 qs.length c6) (qs.map Prod.snd) entry rfl (by simp [Act.eval, World.setCell]) (by rw [List.length_map]; exact ownsRow_setCell_other (a := ⟨g, 0, none⟩) OE3.out (own_ne54 OE3.out BK3.out) _) (B3.out.setCell H2.out.2.1 _) (Nat.le_trans HB2.out (B3.out.setCell H2.out.2.1 _).size) (by rw [List.length_map]; have := HQL.out; omega) ?_; intro o4 w4 ho4 hb4 hg4 hat4; have hl4 : (qs.map Prod.snd ++ [entry]).length = qs.length + 1 := (by simp); rw [hl4] at ho4; obtain ⟨A4, c4, rfl⟩ := own_val ho4; have oe' := ownsRow_setCell_other (a := ⟨g, 0, none⟩) OE3.out (own_ne54 OE3.out BK3.out) (.slice A3 (qs.length + 1) c3); have op' := ownsRow_setCell_other (a := ⟨g, 0, none⟩) OP3.out (own_ne54 OP3.out BK3.out) (.slice A3 (qs.length + 1) c3); have OE4 := Aside0.mk ho4; have B4 := Aside0.mk hb4; have OP4 := Aside0.mk (own_other op' hg4 (ne_other (ne_symm N3.out))); have N4 := Aside0.mk (ne_append' N3.out hat4 op'); have bk3 : (w3.setCell ⟨g, 0, none⟩ (.slice A3 (qs.length + 1) c3)).heap[g]? = some (.cells #[.slice A3 (qs.length + 1) c3, .slice A6 qs.length c6] 94 (0, 0)) := blk_put BK3.out 0 _ rfl; have CG4 := Aside0.mk (chg_grown (chg_set CG3.out g 0 (.slice A3 (qs.length + 1) c3) (fun _ => .inl rfl)) hg4 (fun i hi hl => by rcases NE2.out i hi with h | h | h; exact .inr (.inl h); exact .inr (.inr h); omega)); have NE4 := Aside0.mk (NE2.out.app hat4 (chg_set CG3.out g 0 (.slice A3 (qs.length + 1) c3) (fun _ => .inl rfl)).size); have hblk := (hg4.block g (Array.getElem?_eq_some_iff.1 bk3).1 (fun e => own_ne54 oe' bk3 e.symm)).trans bk3; have BK4 := Aside0.mk hblk; have q41 := cell_of_row w4 g 1 _ _ _ hblk; have r41 := frozen_of_row w4 g 1 _ _ hblk; clear hblk ho4 hb4 hg4 hat4 oe' op' bk3))
  go_end0
  have hlen : (qs ++ [(page, entry)]).length = qs.length + 1 := by simp
  have p4 : (w4.setCell ⟨g, 1, none⟩ (.slice A4 (qs.length + 1) c4)).heap[g]? = some (.cells #[.slice A3 (qs.length + 1) c3, .slice A4 (qs.length + 1) c4] 94 (0, 0)) := blk_put BK4.out 1 _ rfl
  have e1 : nums .u32 ((qs ++ [(page, entry)]).map Prod.fst) = nums .u32 (qs.map Prod.fst ++ [page]) := by rw [List.map_append]; rfl
  have e2 : nums .u32 ((qs ++ [(page, entry)]).map Prod.snd) = nums .u32 (qs.map Prod.snd ++ [entry]) := by rw [List.map_append]; rfl
  refine ⟨rfl, ⟨.slice A3 (qs.length + 1) c3, .slice A4 (qs.length + 1) c4, ?_, NP3.out, NE4.out⟩, chg_set CG4.out g 1 _ (fun _ => .inl rfl)⟩
  rw [HPP.out]
  exact ⟨p4, H2.out.2.1, by rw [hlen, e1]; exact ownsRow_setCell_other (a := ⟨g, 1, none⟩) OP4.out (own_ne54 OP4.out BK4.out) _, by rw [hlen, e2]; exact ownsRow_setCell_other (a := ⟨g, 1, none⟩) OE4.out (own_ne54 OE4.out BK4.out) _, N4.out, by rw [hlen]; have := HQL.out; omega⟩

theorem dropR_none (page : Int) : ∀ ps : List (Int × Int), (∀ q ∈ ps, q.1 ≠ page) → dropR page ps = ps
  | [], _ => rfl
  | q :: ps, h => by
    have h0 := h q List.mem_cons_self
    have := dropR_none page ps (fun x hx => h x (List.mem_cons_of_mem _ hx))
    unfold dropR at this ⊢
    rw [List.filter_cons_of_pos (p := fun q : Int × Int => decide (q.1 ≠ page)) (decide_eq_true h0), this]
theorem dropR_cons (q : Int × Int) (ps : List (Int × Int)) (h : ((q :: ps).map Prod.fst).Nodup) : dropR q.1 (q :: ps) = ps := by
  have hn : ∀ x ∈ ps, x.1 ≠ q.1 := by
    intro x hx he
    rw [List.map_cons, List.nodup_cons] at h
    exact h.1 (he ▸ List.mem_map_of_mem hx)
  have := dropR_none q.1 ps hn
  unfold dropR at this ⊢
  rw [List.filter_cons_of_neg (by simp), this]
theorem tput_call (w : World) (base g : Nat) (vp ve : Value) (ps : List (Int × Int)) (page entry : Int) (hn : (ps.map Prod.fst).Nodup) (h : RefAt w base g vp ve ps) :
    Calls Try.prog 62 #[.pointer (some ⟨g, 0, none⟩), .int .u32 page, .int .u32 entry] w fun e w' => e = .returned (.tuple #[]) ∧ TStep w w' base g vp ve (putP page entry ps) := by
  by_cases hp : posP page ps < ps.length
  · exact tput_yes w base g vp ve ps page entry h hp
  · by_cases h8 : ps.length = 8
    · refine tput_full w base g vp ve ps page entry h hp h8 ?_
      match ps, h8 with
      | q :: qs', _ => exact dropR_cons q qs' hn
    · exact tput_add w base g vp ve ps page entry h hp h8
end Go.Proofs.Ytiogbgjeimdgmaa.RefWalk
