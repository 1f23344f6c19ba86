/- The translation buffer's functions of layer 4, walked: Put, Pages. -/
import Derived.Test.YtiogbgjeimdgmaaTlbC
namespace Go.Proofs.Ytiogbgjeimdgmaa.TlbWalk
open Go.RowKit Go.Proofs.Ytiogbgjeimdgmaa.Aid Go.Proofs.YtiogbgjeimdgmaaW.PrintWords Go.Proofs.YtiogbgjeimdgmaaW.PrintLast Go.Proofs.YtiogbgjeimdgmaaW.PrintMore
attribute [local go_sem] max2_int min2_int max_two min_two max_three min_three max_four min_four   -- for this text's walks alone
set_option linter.unusedVariables false
set_option linter.unusedSimpArgs false

theorem put_yes (w : World) (base g : Nat) (v : Value) (ps : List (Int × Int)) (page entry : Int) (h : TlbAt w base g v ps) (hp : posP page ps < ps.length) :
    Calls Try.prog 86 #[.pointer (some ⟨g, 0, none⟩), .int .u32 page, .int .u32 entry] w fun e w' => e = .returned (.tuple #[]) ∧ TlbAt w' base g v (putP page entry ps) ∧ Kept2 w w' g v.ownBlock := by
  have A := Aside0.mk (at_yes w base g v ps page h hp)
  obtain ⟨b, c, rfl, hc, hm, hb0, hbl⟩ : ∃ b c, v = .slice (some ⟨b, 0, none⟩) ps.length c ∧ ps.length ≤ c ∧ c ≤ maxLen ∧ base ≤ b ∧ b < w.heap.size := by
    rcases h.shape with ⟨rfl, rfl⟩ | h'
    · exact absurd hp (Nat.not_lt_zero _)
    · exact h'
  have H := Aside0.mk h
  have hl8 := h.2.2.2
  have hpp : putP page entry ps = ps.set (posP page ps) ((ps.getD (posP page ps) nil2).1, entry) := by
    unfold putP
    rw [if_pos hp, posP_page page ps hp]
  have HPP := Aside0.mk hpp
  clear hpp
  generalize posP page ps = i at *
  clear h
  go_enter Try.func86, Try.ntmps86
  go_wp2_with (first
    | (go_at_call 78; (with_reducible refine (A.out).mono ?_); rintro e w1 ⟨rfl, hb⟩; have B := Aside0.mk hb; have H1 := Aside0.mk (H.out.then hb); have hf := H1.out.field; have hx1 := (H1.out.cells i hp).2; have hfr := H1.out.own.frozenAt (i * 2 + 1); clear hb))
  go_end0
  have hs := H1.out.own.stored (i * 2 + 1) (.int .u32 entry)
  rw [cells2_set ps i entry hp, ← HPP.out] at hs
  have hlen : (putP page entry ps).length = ps.length := by rw [HPP.out, List.length_set]
  refine ⟨rfl, ⟨(hs.2.block g H1.out.lt (by have := (H1.out.row b rfl).2.2; simp; omega)).trans H1.out.blk, H.out.2.1, by rw [hlen]; exact hs.1, by omega⟩, ?_⟩
  exact (Kept2.of_below B.out _ _).grown hs.2 (.inl rfl)

theorem own_some {W : World} {base e s n : Nat} {v : Value} {xs : List Value} (h : W.ownsRow base e s v (n + 1) xs) : ∃ b c, v = .slice (some ⟨b, 0, none⟩) (n + 1) c := by
  rcases h.2 with ⟨_, h0⟩ | ⟨b, c, cur, rfl, _⟩
  · omega
  · exact ⟨b, c, rfl⟩
theorem TlbAt.ne {W : World} {base g : Nat} {v : Value} {ps : List (Int × Int)} (h : TlbAt W base g v ps) : some g ≠ v.ownBlock := fun e => (h.row g e.symm).2.2 rfl
theorem put_add (w : World) (base g : Nat) (v : Value) (ps : List (Int × Int)) (page entry : Int) (h : TlbAt w base g v ps) (hp : ¬ posP page ps < ps.length) (h8 : ¬ ps.length = 8) :
    Calls Try.prog 86 #[.pointer (some ⟨g, 0, none⟩), .int .u32 page, .int .u32 entry] w fun e w' => e = .returned (.tuple #[]) ∧ ∃ v', TlbAt w' base g v' (putP page entry ps) ∧ Kept2 w w' g v.ownBlock ∧ (v'.ownBlock = v.ownBlock ∨ ∃ b, v'.ownBlock = some b ∧ w.heap.size ≤ b) := by
  have A := Aside0.mk (at_no w base g v ps page h hp)
  obtain ⟨A0, c, hv⟩ := h.val
  have HV := Aside0.mk hv
  have H := Aside0.mk h
  have hl8 := h.2.2.2
  have hpp : putP page entry ps = ps ++ [(page, entry)] := by
    unfold putP
    rw [if_neg hp, if_neg h8]
  have HPP := Aside0.mk hpp
  have h8' : ((ps.length : Int) == 8) = false := beq_eq_false_iff_ne.mpr (by omega)
  clear hpp h hv
  go_enter Try.func86, Try.ntmps86
  go_wp2_with (first
    | (go_at_call 78; (with_reducible refine (A.out).mono ?_); rintro e w1 ⟨rfl, hb⟩; have B := Aside0.mk hb; have H1 := Aside0.mk (H.out.then hb); have hf := H1.out.field; rw [HV.out] at hf; clear hb)
    | (at_builtin; refine print_append_cells (w0 := w1) (W := w1) base rfl (.tmp 28) (.tmp 32) 130 136 (.agg #[.int .u32 0, .int .u32 0]) 2 8 rfl Try.underlying130 infoS rfl (by decide) (by decide) v ps.length (cells2 ps) [.int .u32 page, .int .u32 entry] HV.out.symm rfl rfl (by simp [Value.oneCell']) H1.out.own (Below.refl _ _) (by have := H1.out.lt; have := H1.out.2.1; omega) (by omega) ?_; intro v1 w2 ho hb hg hat; obtain ⟨b1, c1, rfl⟩ := own_some ho; have hblk := (hg.block g H1.out.lt H1.out.ne).trans H1.out.blk; have hf2 := cell_of_row w2 g 0 _ _ _ hblk; have hfr2 := frozen_of_row w2 g 0 _ _ hblk; have HB2 := Aside0.mk hblk; have HO2 := Aside0.mk ho; have HG2 := Aside0.mk hg; have HAT := Aside0.mk hat; clear hblk ho hb hg hat))
  go_end0
  have hne : (Value.slice (some ⟨b1, 0, none⟩) (ps.length + 1) c1).ownBlock ≠ some g := by
    rcases HAT.out with e | ⟨b, e, hb⟩
    · rw [e]; exact fun q => H1.out.ne q.symm
    · rw [e]
      have := H1.out.lt
      intro q
      simp only [Option.some.injEq] at q
      omega
  have hcat : cells2 ps ++ [.int .u32 page, .int .u32 entry] = cells2 (putP page entry ps) := by rw [HPP.out, cells2_append]; rfl
  have ho := HO2.out
  rw [hcat] at ho
  refine ⟨rfl, _, tlb_store HB2.out H.out.2.1 ho (by rw [HPP.out, List.length_append]; rfl) (by omega) hne, ((Kept2.of_below B.out _ _).grown HG2.out (.inl rfl)).set _ _, ?_⟩
  rcases HAT.out with e | ⟨b, e, hb⟩
  · exact .inl e
  · exact .inr ⟨b, e, Nat.le_trans B.out.size hb⟩
theorem TlbAt.own_n {W : World} {base g b n c : Nat} {ps : List (Int × Int)} (h : TlbAt W base g (.slice (some ⟨b, 0, none⟩) n c) ps) : W.ownsRow base 136 2 (.slice (some ⟨b, 0, none⟩) n c) n (cells2 ps) := by
  have ho := h.own
  have hn : n = ps.length := by
    rcases ho.2 with ⟨hv, _⟩ | ⟨b', c', cur, hv, _⟩
    · simp at hv
    · simp only [Value.slice.injEq] at hv
      exact hv.2.1
  rw [← hn] at ho
  exact ho
theorem del8 (w : World) (base b c : Nat) (ps : List (Int × Int)) (h : w.ownsRow base 136 2 (.slice (some ⟨b, 0, none⟩) 8 c) 8 (cells2 ps)) :
    Calls Try.prog 79 #[.slice (some ⟨b, 0, none⟩) 8 c, .int .i64 0, .int .i64 1] w fun e w' =>
      e = .returned (.slice (some ⟨b, 0, none⟩) 7 c) ∧ w'.ownsRow base 136 2 (.slice (some ⟨b, 0, none⟩) 7 c) 7 (cells2 (ps.drop 1)) ∧ w.grownBy w' (some b) :=
  del_call w base b 8 c 0 ps h (by decide) (by decide)
theorem put_full (w : World) (base g : Nat) (v : Value) (ps : List (Int × Int)) (page entry : Int) (h : TlbAt w base g v ps) (hp : ¬ posP page ps < ps.length) (h8 : ps.length = 8) :
    Calls Try.prog 86 #[.pointer (some ⟨g, 0, none⟩), .int .u32 page, .int .u32 entry] w fun e w' => e = .returned (.tuple #[]) ∧ ∃ v', TlbAt w' base g v' (putP page entry ps) ∧ Kept2 w w' g v.ownBlock ∧ (v'.ownBlock = v.ownBlock ∨ ∃ b, v'.ownBlock = some b ∧ w.heap.size ≤ b) := by
  have A := Aside0.mk (at_no w base g v ps page h hp)
  obtain ⟨b, c, rfl, hc, hm, hb0, hbl⟩ : ∃ b c, v = .slice (some ⟨b, 0, none⟩) ps.length c ∧ ps.length ≤ c ∧ c ≤ maxLen ∧ base ≤ b ∧ b < w.heap.size := by
    rcases h.shape with ⟨rfl, rfl⟩ | h'
    · exact absurd h8 (by decide)
    · exact h'
  rw [h8] at h
  have H := Aside0.mk h
  have hpp : putP page entry ps = ps.drop 1 ++ [(page, entry)] := by
    unfold putP
    rw [if_neg hp, if_pos h8]
  have HPP := Aside0.mk hpp
  have HL := Aside0.mk h8
  rw [h8] at hc ⊢
  clear hpp h hp h8
  go_enter Try.func86, Try.ntmps86
  go_wp2_with (first
    | (go_at_call 78; (with_reducible refine (A.out).mono ?_); rintro e w1 ⟨rfl, hb⟩; have B := Aside0.mk hb; have H1 := Aside0.mk (H.out.then hb); have hf := H1.out.field; clear hb)
    | (go_at_call 79; (with_reducible refine (del8 _ _ _ _ _ H1.out.own_n).mono ?_); rintro e w2 ⟨rfl, ho, hg⟩; have hgb := (H1.out.row b rfl).2.2; have hblk := (hg.block g H1.out.lt (by simp; omega)).trans H1.out.blk; have hf2 := cell_of_row w2 g 0 _ _ _ hblk; have hfr2 := frozen_of_row w2 g 0 _ _ hblk; have HB2 := Aside0.mk hblk; have HO2 := Aside0.mk ho; have HG2 := Aside0.mk hg; have HGB := Aside0.mk hgb; have hbs := Aside0.mk (Below.refl w2.heap.size w2); clear hblk ho hg hgb)
    | (at_builtin; refine print_append_cells (w0 := w2.setCell ⟨g, 0, none⟩ (.slice (some ⟨b, 0, none⟩) 7 c)) (W := w2.setCell ⟨g, 0, none⟩ (.slice (some ⟨b, 0, none⟩) 7 c)) base rfl (.tmp 28) (.tmp 32) 130 136 (.agg #[.int .u32 0, .int .u32 0]) 2 8 rfl Try.underlying130 infoS rfl (by decide) (by decide) (.slice (some ⟨b, 0, none⟩) 7 c) 7 (cells2 (ps.drop 1)) [.int .u32 page, .int .u32 entry] rfl (by simp [World.setCell, Act.eval]) rfl (by simp [Value.oneCell']) (ownsRow_setCell_other HO2.out (by have := HGB.out; simp [Value.ownBlock]; omega) _) (Below.refl _ _) (by have := HG2.out.size; have := H1.out.lt; have := H.out.2.1; simp [World.setCell]; omega) (by omega) ?_; intro v1 w3 ho hb hg hat; obtain ⟨b1, c1, rfl⟩ := own_some ho; have hblk := (hg.block g (by have := HG2.out.size; have := H1.out.lt; simp [World.setCell]; omega) (by have := HGB.out; simp [Value.ownBlock]; omega)).trans (blk_put HB2.out 0 (.slice (some ⟨b, 0, none⟩) 7 c) rfl); have hf3 := cell_of_row w3 g 0 _ _ _ hblk; have hfr3 := frozen_of_row w3 g 0 _ _ hblk; have HB3 := Aside0.mk hblk; have HO3 := Aside0.mk ho; have HG3 := Aside0.mk hg; have HAT := Aside0.mk hat; clear hblk ho hb hg hat))
  go_end0
  have hne : (Value.slice (some ⟨b1, 0, none⟩) (7 + 1) c1).ownBlock ≠ some g := by
    rcases HAT.out with e | ⟨b', e, hb⟩
    · rw [e]; have := HGB.out; simp [Value.ownBlock]; omega
    · rw [e]
      have := HG2.out.size
      have := H1.out.lt
      simp [World.setCell] at hb
      intro q
      simp only [Option.some.injEq] at q
      omega
  have hcat : cells2 (ps.drop 1) ++ [.int .u32 page, .int .u32 entry] = cells2 (putP page entry ps) := by rw [HPP.out, cells2_append]; rfl
  have ho := HO3.out
  rw [hcat] at ho
  have hlen := HL.out
  refine ⟨rfl, _, tlb_store HB3.out H.out.2.1 ho (by rw [HPP.out, List.length_append, List.length_drop, hlen]; rfl) (by omega) hne, ((((Kept2.of_below B.out _ _).grown HG2.out (.inl rfl)).set _ _).grown HG3.out (.inl rfl)).set _ _, ?_⟩
  rcases HAT.out with e | ⟨b', e, hb⟩
  · exact .inl e
  · refine .inr ⟨b', e, Nat.le_trans B.out.size (Nat.le_trans HG2.out.size ?_)⟩
    simpa [World.setCell] using hb
end Go.Proofs.Ytiogbgjeimdgmaa.TlbWalk
