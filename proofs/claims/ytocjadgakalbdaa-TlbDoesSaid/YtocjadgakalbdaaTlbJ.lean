/- The document's buffer (camshaftref04), walked: Put. -/
import Derived.Test.YtocjadgakalbdaaTlbI
namespace Go.Proofs.Ytocjadgakalbdaa.TlbWalk
open Go.RowKit Go.Proofs.Ytocjadgakalbdaa.Aid Go.Proofs.YtocjadgakalbdaaW.PrintWords Go.Proofs.YtocjadgakalbdaaW.PrintLast Go.Proofs.YtocjadgakalbdaaW.PrintMore
attribute [local go_sem] max2_int min2_int max_two min_two max_three min_three max_four min_four   -- for this text's walks alone
set_option linter.unusedVariables false
set_option linter.unusedSimpArgs false

theorem rat_no (w : World) (base g : Nat) (vp ve : Value) (ps : List (Int × Int)) (page : Int) (h : RefAt w base g vp ve ps) (hp : ¬ posP page ps < ps.length) :
    Calls Try.prog 36 #[.pointer (some ⟨g, 0, none⟩), .int .u32 page] w fun e w' => e = .returned (.int .i64 (-1)) ∧ w = w' := by
  have := rat_call w base g vp ve ps page h
  unfold atI at this
  rwa [if_neg hp] at this
theorem rat_yes (w : World) (base g : Nat) (vp ve : Value) (ps : List (Int × Int)) (page : Int) (h : RefAt w base g vp ve ps) (hp : posP page ps < ps.length) :
    Calls Try.prog 36 #[.pointer (some ⟨g, 0, none⟩), .int .u32 page] w fun e w' => e = .returned (.int .i64 (posP page ps)) ∧ w = w' := by
  have := rat_call w base g vp ve ps page h
  unfold atI at this
  rwa [if_pos hp] at this

theorem rput_yes (w0 w : World) (g : Nat) (vp ve : Value) (ps : List (Int × Int)) (page entry : Int) (hb : Below w0.heap.size w0 w) (h : RefAt w w0.heap.size g vp ve ps) (hp : posP page ps < ps.length) :
    Calls Try.prog 27 #[.pointer (some ⟨g, 0, none⟩), .int .u32 page, .int .u32 entry] w fun e w' => e = .returned (.tuple #[]) ∧ Below w0.heap.size w0 w' ∧ (∃ vp' ve', RefAt w' w0.heap.size g vp' ve' (putP page entry ps)) ∧ KeepR w w' := by
  have A' := Aside0.mk (rat_yes w _ g vp ve ps page h hp)
  have hpp : putP page entry ps = ps.set (posP page ps) (page, entry) := by
    unfold putP
    rw [if_pos hp]
  have hfst : (putP page entry ps).map Prod.fst = ps.map Prod.fst := by
    have := set_same_fst ps (posP page ps) hp entry
    rw [posP_page page ps hp] at this
    rw [hpp, this]
  have HPP := Aside0.mk hpp
  have HFST := Aside0.mk hfst
  clear hpp hfst
  have f1 := h.f1
  obtain ⟨b, c, rfl⟩ : ∃ b c, ve = .slice (some ⟨b, 0, none⟩) ps.length c := by
    rcases h.oe.2 with ⟨_, h0⟩ | ⟨b, c, cur, rfl, _⟩
    · omega
    · exact ⟨b, c, rfl⟩
  obtain ⟨ad, he, hc⟩ := (own_reads' h.oe).2.2 (by omega)
  have c0 := h.oe.cellAt (posP page ps) (by omega)
  have c1 : ∃ u, w.cell? ⟨b, posP page ps, none⟩ = some u := by
    have hl := h.oe.1
    exact ⟨_, c0.trans (List.getElem?_eq_getElem (by omega))⟩
  obtain ⟨u, hu⟩ := c1
  have hfr := h.oe.frozenAt (posP page ps)
  have hl8 := h.2.2.2.2.2
  have H := Aside0.mk h
  have B0 := Aside0.mk hb
  clear h hb hc he c0
  generalize posP page ps = i at *
  go_enter Try.func27, Try.ntmps27
  go_wp2_with (first | (go_at_call 36; (with_reducible refine (A'.out).mono ?_); rintro e w1 ⟨rfl, rfl⟩))
  refine bodyPost_ret (results_none rfl _ _ _) rfl ?_
  have hs := H.out.oe.stored i (.int .u32 entry)
  have hlen : (putP page entry ps).length = ps.length := by rw [HPP.out, List.length_set]
  have hsnd : (nums .u32 (ps.map Prod.snd)).set i (.int .u32 entry) = nums .u32 ((putP page entry ps).map Prod.snd) := by
    rw [HPP.out, List.map_set]; simp [nums, List.map_set]
  rw [hsnd] at hs
  have hbb : w0.heap.size ≤ b := own_base H.out.oe b rfl
  refine ⟨rfl, B0.out.setCell hbb _, ⟨_, _, (hs.2.block g H.out.lt (fun e => own_ne54 H.out.oe H.out.1 (by simpa [Value.ownBlock] using e.symm))).trans H.out.1, H.out.2.1, ?_, ?_, H.out.2.2.2.2.1, by omega⟩, ?_⟩
  · rw [hlen, HFST.out]
    exact own_other H.out.op hs.2 (ne_other (ne_symm H.out.2.2.2.2.1))
  · rw [hlen]; exact hs.1
  · exact KeepR.grown (KeepR.refl _) H.out.oe hs.2

set_option maxHeartbeats 2000000 in
theorem rput_add (w0 w : World) (g : Nat) (vp ve : Value) (ps : List (Int × Int)) (page entry : Int) (hb : Below w0.heap.size w0 w) (h : RefAt w w0.heap.size g vp ve ps) (hp : ¬ posP page ps < ps.length) (h8 : ¬ ps.length = 8) :
    Calls Try.prog 27 #[.pointer (some ⟨g, 0, none⟩), .int .u32 page, .int .u32 entry] w fun e w' => e = .returned (.tuple #[]) ∧ Below w0.heap.size w0 w' ∧ (∃ vp' ve', RefAt w' w0.heap.size g vp' ve' (putP page entry ps)) ∧ KeepR w w' := by
  have A' := Aside0.mk (rat_no w _ g vp ve ps page h hp)
  have hpp : putP page entry ps = ps ++ [(page, entry)] := by
    unfold putP
    rw [if_neg hp, if_neg h8]
  have HPP := Aside0.mk hpp
  have h8' : ((ps.length : Int) == 8) = false := beq_eq_false_iff_ne.mpr (by omega)
  have f0 := h.f0
  have hl8 := h.2.2.2.2.2
  obtain ⟨A1, c1, rfl⟩ := own_val h.op
  obtain ⟨A2, c2, rfl⟩ := own_val h.oe
  have H := Aside0.mk h
  have B0 := Aside0.mk hb
  clear h hb hpp
  go_enter Try.func27, Try.ntmps27
  go_wp2_with (first
    | (go_at_call 36; (with_reducible refine (A'.out).mono ?_); rintro e w1 ⟨rfl, rfl⟩)
    | (at_builtin; refine print_append_num (w0 := w0) w0.heap.size rfl (.tmp 37) (.tmp 39) 23 22 .u32 4 rfl Try.underlying23 info22 (by decide) (.slice A1 ps.length c1) (ps.map Prod.fst) page rfl (by simp [Act.eval]) (by rw [List.length_map]; exact H.out.op) B0.out B0.out.size (by rw [List.length_map]; omega) ?_; intro o3 w3 ho3 hb3 hg3 hat3; have hl3 : (ps.map Prod.fst ++ [page]).length = ps.length + 1 := (by simp); rw [hl3] at ho3; obtain ⟨A3, c3, rfl⟩ := own_val ho3; have OP3 := Aside0.mk ho3; have B3 := Aside0.mk hb3; have OE3 := Aside0.mk (own_other H.out.oe hg3 (ne_other H.out.2.2.2.2.1)); have N3 := Aside0.mk (ne_append H.out.2.2.2.2.1 hat3 H.out.oe); have KR3 := Aside0.mk (KeepR.grown (KeepR.refl _) H.out.op hg3); have hblk := (hg3.block _ (Array.getElem?_eq_some_iff.1 H.out.1).1 (fun e => own_ne54 H.out.op H.out.1 e.symm)).trans H.out.1; have BK3 := Aside0.mk hblk; have q30 := cell_of_row w3 g 0 _ _ _ hblk; have q31 := cell_of_row w3 g 1 _ _ _ hblk; have r30 := frozen_of_row w3 g 0 _ _ hblk; have r31 := frozen_of_row w3 g 1 _ _ hblk; clear hblk ho3 hb3 hg3 hat3)
    | (at_builtin; refine print_append_num (w0 := w0) (W := w3.setCell ⟨g, 0, none⟩ (.slice A3 (ps.length + 1) c3)) w0.heap.size rfl (.tmp 47) (.tmp 49) 23 22 .u32 4 rfl Try.underlying23 info22 (by decide) (.slice A2 ps.length c2) (ps.map Prod.snd) entry rfl (by simp [Act.eval, World.setCell]) (by rw [List.length_map]; exact ownsRow_setCell_other (a := ⟨g, 0, none⟩) OE3.out (own_ne54 OE3.out BK3.out) _) (B3.out.setCell H.out.2.1 _) (B3.out.setCell H.out.2.1 _).size (by rw [List.length_map]; omega) ?_; intro o4 w4 ho4 hb4 hg4 hat4; have hl4 : (ps.map Prod.snd ++ [entry]).length = ps.length + 1 := (by simp); rw [hl4] at ho4; obtain ⟨A4, c4, rfl⟩ := own_val ho4; have oe' := ownsRow_setCell_other (a := ⟨g, 0, none⟩) OE3.out (own_ne54 OE3.out BK3.out) (.slice A3 (ps.length + 1) c3); have op' := ownsRow_setCell_other (a := ⟨g, 0, none⟩) OP3.out (own_ne54 OP3.out BK3.out) (.slice A3 (ps.length + 1) c3); have OE4 := Aside0.mk ho4; have B4 := Aside0.mk hb4; have OP4 := Aside0.mk (own_other op' hg4 (ne_other (ne_symm N3.out))); have N4 := Aside0.mk (ne_append' N3.out hat4 op'); have bk3 : (w3.setCell ⟨g, 0, none⟩ (.slice A3 (ps.length + 1) c3)).heap[g]? = some (.cells #[.slice A3 (ps.length + 1) c3, .slice A2 ps.length c2] 54 (0, 0)) := blk_put BK3.out 0 _ rfl; have KR4 := Aside0.mk (KeepR.grown ((KeepR.refl w3).set BK3.out 0 (.slice A3 (ps.length + 1) c3)) oe' hg4); have hblk := (hg4.block g (Array.getElem?_eq_some_iff.1 bk3).1 (fun e => own_ne54 oe' bk3 e.symm)).trans bk3; have BK4 := Aside0.mk hblk; have q41 := cell_of_row w4 g 1 _ _ _ hblk; have r41 := frozen_of_row w4 g 1 _ _ hblk; clear hblk ho4 hb4 hg4 hat4 oe' op' bk3))
  go_end0
  have hlen : (ps ++ [(page, entry)]).length = ps.length + 1 := by simp
  have p4 : (w4.setCell ⟨g, 1, none⟩ (.slice A4 (ps.length + 1) c4)).heap[g]? = some (.cells #[.slice A3 (ps.length + 1) c3, .slice A4 (ps.length + 1) c4] 54 (0, 0)) := blk_put BK4.out 1 _ rfl
  have e1 : nums .u32 ((ps ++ [(page, entry)]).map Prod.fst) = nums .u32 (ps.map Prod.fst ++ [page]) := by rw [List.map_append]; rfl
  have e2 : nums .u32 ((ps ++ [(page, entry)]).map Prod.snd) = nums .u32 (ps.map Prod.snd ++ [entry]) := by rw [List.map_append]; rfl
  refine ⟨rfl, B4.out.setCell H.out.2.1 _, ⟨.slice A3 (ps.length + 1) c3, .slice A4 (ps.length + 1) c4, ?_⟩, (KR3.out.trans KR4.out).set BK4.out 1 _⟩
  rw [HPP.out]
  exact ⟨p4, H.out.2.1, by rw [hlen, e1]; exact ownsRow_setCell_other (a := ⟨g, 1, none⟩) OP4.out (own_ne54 OP4.out BK4.out) _, by rw [hlen, e2]; exact ownsRow_setCell_other (a := ⟨g, 1, none⟩) OE4.out (own_ne54 OE4.out BK4.out) _, N4.out, by rw [hlen]; omega⟩

set_option maxHeartbeats 2000000 in
theorem rput_full (w0 w : World) (g : Nat) (vp ve : Value) (ps : List (Int × Int)) (page entry : Int) (hb : Below w0.heap.size w0 w) (h : RefAt w w0.heap.size g vp ve ps) (hp : ¬ posP page ps < ps.length) (h8 : ps.length = 8) (hd : dropR (ps.getD 0 nil2).1 ps = ps.drop 1) :
    Calls Try.prog 27 #[.pointer (some ⟨g, 0, none⟩), .int .u32 page, .int .u32 entry] w fun e w' => e = .returned (.tuple #[]) ∧ Below w0.heap.size w0 w' ∧ (∃ vp' ve', RefAt w' w0.heap.size g vp' ve' (putP page entry ps)) ∧ KeepR w w' := by
  have A' := Aside0.mk (rat_no w _ g vp ve ps page h hp)
  have D := Aside0.mk (rdrop_call w0 w g vp ve ps (ps.getD 0 nil2).1 hb h)
  rw [hd] at D
  have hpp : putP page entry ps = ps.drop 1 ++ [(page, entry)] := by
    unfold putP
    rw [if_neg hp, if_pos h8]
  have hql : (ps.drop 1).length = 7 := by rw [List.length_drop]; omega
  generalize hqs : ps.drop 1 = qs at *
  have HPP := Aside0.mk hpp
  have h8' : ((ps.length : Int) == 8) = true := beq_iff_eq.mpr (by omega)
  have f0 := h.f0
  obtain ⟨A1, c1, rfl⟩ := own_val h.op
  obtain ⟨ad, rfl, hc⟩ := (own_reads' h.op).2.2 (by omega)
  have c0 := hc 0 (by omega)
  rw [map_fst_getD ps 0 (by omega), show ad.add 0 = ad from by unfold Addr.add; rw [if_pos rfl]] at c0
  generalize (ps.getD 0 nil2).1 = p0 at *
  have HQL := Aside0.mk hql
  have hps := Aside0.mk h8
  clear h hb hpp hc hqs hd hql h8
  go_enter Try.func27, Try.ntmps27
  have hp8 : (0 : Int) < (ps.length : Int) := by have := hps.out; omega
  have hp8' : 0 < ps.length := by have := hps.out; omega
  go_wp2_with (first
    | (go_at_call 36; (with_reducible refine (A'.out).mono ?_); rintro e w1 ⟨rfl, rfl⟩)
    | (go_at_call 28; (with_reducible refine (D.out).mono ?_); rintro e w2 ⟨rfl, hb2, ⟨vp2, ve2, hr2⟩, hk2⟩; obtain ⟨A5, c5, rfl⟩ := own_val hr2.op; obtain ⟨A6, c6, rfl⟩ := own_val hr2.oe; have q20 := hr2.f0; have H2 := Aside0.mk hr2; have B2 := Aside0.mk hb2; have K2 := Aside0.mk hk2; clear hr2 hb2 hk2)
    | (at_builtin; refine print_append_num (w0 := w0) w0.heap.size rfl (.tmp 37) (.tmp 39) 23 22 .u32 4 rfl Try.underlying23 info22 (by decide) (.slice A5 qs.length c5) (qs.map Prod.fst) page rfl (by simp [Act.eval]) (by rw [List.length_map]; exact H2.out.op) B2.out B2.out.size (by rw [List.length_map]; have := HQL.out; omega) ?_; intro o3 w3 ho3 hb3 hg3 hat3; have hl3 : (qs.map Prod.fst ++ [page]).length = qs.length + 1 := (by simp); rw [hl3] at ho3; obtain ⟨A3, c3, rfl⟩ := own_val ho3; have OP3 := Aside0.mk ho3; have B3 := Aside0.mk hb3; have OE3 := Aside0.mk (own_other H2.out.oe hg3 (ne_other H2.out.2.2.2.2.1)); have N3 := Aside0.mk (ne_append H2.out.2.2.2.2.1 hat3 H2.out.oe); have KR3 := Aside0.mk (KeepR.grown (KeepR.refl _) H2.out.op hg3); have hblk := (hg3.block _ (Array.getElem?_eq_some_iff.1 H2.out.1).1 (fun e => own_ne54 H2.out.op H2.out.1 e.symm)).trans H2.out.1; have BK3 := Aside0.mk hblk; have q30 := cell_of_row w3 g 0 _ _ _ hblk; have q31 := cell_of_row w3 g 1 _ _ _ hblk; have r30 := frozen_of_row w3 g 0 _ _ hblk; have r31 := frozen_of_row w3 g 1 _ _ hblk; clear hblk ho3 hb3 hg3 hat3)
    | (at_builtin; refine print_append_num (w0 := w0) (W := w3.setCell ⟨g, 0, none⟩ (.slice A3 (qs.length + 1) c3)) w0.heap.size rfl (.tmp 47) (.tmp 49) 23 22 .u32 4 rfl Try.underlying23 info22 (by decide) (.slice A6 qs.length c6) (qs.map Prod.snd) entry rfl (by simp [Act.eval, World.setCell]) (by rw [List.length_map]; exact ownsRow_setCell_other (a := ⟨g, 0, none⟩) OE3.out (own_ne54 OE3.out BK3.out) _) (B3.out.setCell H2.out.2.1 _) (B3.out.setCell H2.out.2.1 _).size (by rw [List.length_map]; have := HQL.out; omega) ?_; intro o4 w4 ho4 hb4 hg4 hat4; have hl4 : (qs.map Prod.snd ++ [entry]).length = qs.length + 1 := (by simp); rw [hl4] at ho4; obtain ⟨A4, c4, rfl⟩ := own_val ho4; have oe' := ownsRow_setCell_other (a := ⟨g, 0, none⟩) OE3.out (own_ne54 OE3.out BK3.out) (.slice A3 (qs.length + 1) c3); have op' := ownsRow_setCell_other (a := ⟨g, 0, none⟩) OP3.out (own_ne54 OP3.out BK3.out) (.slice A3 (qs.length + 1) c3); have OE4 := Aside0.mk ho4; have B4 := Aside0.mk hb4; have OP4 := Aside0.mk (own_other op' hg4 (ne_other (ne_symm N3.out))); have N4 := Aside0.mk (ne_append' N3.out hat4 op'); have bk3 : (w3.setCell ⟨g, 0, none⟩ (.slice A3 (qs.length + 1) c3)).heap[g]? = some (.cells #[.slice A3 (qs.length + 1) c3, .slice A6 qs.length c6] 54 (0, 0)) := blk_put BK3.out 0 _ rfl; have KR4 := Aside0.mk (KeepR.grown ((KeepR.refl w3).set BK3.out 0 (.slice A3 (qs.length + 1) c3)) oe' hg4); have hblk := (hg4.block g (Array.getElem?_eq_some_iff.1 bk3).1 (fun e => own_ne54 oe' bk3 e.symm)).trans bk3; have BK4 := Aside0.mk hblk; have q41 := cell_of_row w4 g 1 _ _ _ hblk; have r41 := frozen_of_row w4 g 1 _ _ hblk; clear hblk ho4 hb4 hg4 hat4 oe' op' bk3))
  go_end0
  have hlen : (qs ++ [(page, entry)]).length = qs.length + 1 := by simp
  have p4 : (w4.setCell ⟨g, 1, none⟩ (.slice A4 (qs.length + 1) c4)).heap[g]? = some (.cells #[.slice A3 (qs.length + 1) c3, .slice A4 (qs.length + 1) c4] 54 (0, 0)) := blk_put BK4.out 1 _ rfl
  have e1 : nums .u32 ((qs ++ [(page, entry)]).map Prod.fst) = nums .u32 (qs.map Prod.fst ++ [page]) := by rw [List.map_append]; rfl
  have e2 : nums .u32 ((qs ++ [(page, entry)]).map Prod.snd) = nums .u32 (qs.map Prod.snd ++ [entry]) := by rw [List.map_append]; rfl
  refine ⟨rfl, B4.out.setCell H2.out.2.1 _, ⟨.slice A3 (qs.length + 1) c3, .slice A4 (qs.length + 1) c4, ?_⟩, ((K2.out.trans KR3.out).trans KR4.out).set BK4.out 1 _⟩
  rw [HPP.out]
  exact ⟨p4, H2.out.2.1, by rw [hlen, e1]; exact ownsRow_setCell_other (a := ⟨g, 1, none⟩) OP4.out (own_ne54 OP4.out BK4.out) _, by rw [hlen, e2]; exact ownsRow_setCell_other (a := ⟨g, 1, none⟩) OE4.out (own_ne54 OE4.out BK4.out) _, N4.out, by rw [hlen]; have := HQL.out; omega⟩

end Go.Proofs.Ytocjadgakalbdaa.TlbWalk
