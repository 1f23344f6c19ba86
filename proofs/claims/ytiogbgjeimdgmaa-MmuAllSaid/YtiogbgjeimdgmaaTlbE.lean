/- The translation buffer's functions of layer 4, walked: Pages; alive. -/
import Derived.Test.YtiogbgjeimdgmaaTlbD
namespace Go.Proofs.Ytiogbgjeimdgmaa.TlbWalk
open Go.RowKit Go.Proofs.Ytiogbgjeimdgmaa.Aid Go.Proofs.YtiogbgjeimdgmaaW.PrintWords Go.Proofs.YtiogbgjeimdgmaaW.PrintLast Go.Proofs.YtiogbgjeimdgmaaW.PrintMore
attribute [local go_sem] max2_int min2_int max_two min_two max_three min_three max_four min_four   -- for this text's walks alone
set_option linter.unusedVariables false
set_option linter.unusedSimpArgs false

theorem info22 : (Try.prog.info? 23).map (fun i => (i.zero, i.size, i.bytes)) = some (some (.int .u32 0), 1, 4) := by kernel_rfl
theorem own_val {W : World} {base e s n : Nat} {v : Value} {xs : List Value} (h : W.ownsRow base e s v n xs) : ∃ A c, v = .slice A n c := by
  rcases h.2 with ⟨rfl, rfl⟩ | ⟨b, c, cur, rfl, _⟩
  · exact ⟨none, 0, rfl⟩
  · exact ⟨_, c, rfl⟩
theorem take_next (ps : List (Int × Int)) (k : Nat) (hk : k < ps.length) : ps.take (k + 1) = ps.take k ++ [ps.getD k nil2] := by
  rw [List.take_add_one, List.getElem?_eq_getElem hk, List.getD_eq_getElem?_getD, List.getElem?_eq_getElem hk]
  rfl
theorem pages_call (w : World) (base g : Nat) (v : Value) (ps : List (Int × Int)) (h : TlbAt w base g v ps) :
    Calls Try.prog 67 #[.pointer (some ⟨g, 0, none⟩)] w fun e w' => ∃ A c, e = .returned (.slice A ps.length c) ∧ w'.ownsRow w.heap.size 23 1 (.slice A ps.length c) ps.length (nums .u32 (ps.map Prod.fst)) ∧ Below w.heap.size w w' := by
  obtain ⟨A0, c, hv⟩ := h.val
  have hf := h.field
  have H := Aside0.mk h
  have hl8 := h.2.2.2
  have HA : Aside0 (0 < ps.length → ∃ b, A0 = some ⟨b, 0, none⟩ ∧ b < w.heap.size ∧ ∀ k, k < ps.length → w.cell? ⟨b, k * 2, none⟩ = some (.int .u32 (ps.getD k nil2).1) ∧ w.cell? ⟨b, k * 2 + 1, none⟩ = some (.int .u32 (ps.getD k nil2).2)) := by
    refine ⟨fun q => ?_⟩
    rcases h.shape with ⟨rfl, rfl⟩ | ⟨b, c', hv', _, _, _, hb⟩
    · exact absurd q (by simp)
    · subst hv'
      simp only [Value.slice.injEq] at hv
      exact ⟨b, hv.1.symm, hb, fun k hk => h.cells k hk⟩
  rw [hv] at hf
  clear h hv
  go_enter Try.func67, Try.ntmps67
  go_wp2
  go_loopw [3, 13] (fun o i wr => ∃ k : Nat, k ≤ ps.length ∧ i = .int .i64 k ∧ Below w.heap.size w wr ∧ wr.ownsRow w.heap.size 23 1 o k (nums .u32 ((ps.take k).map Prod.fst))) (fun _ i _ => ps.length - (intOf i).toNat)
  case atStart => exact ⟨0, Nat.zero_le _, rfl, Below.refl _ _, World.ownsRow_nil _ _ _ _⟩
  case round =>
    obtain ⟨k, hk, rfl, hb, ho⟩ := hrel
    have B := Aside0.mk hb
    have O := Aside0.mk ho
    obtain ⟨A1, c1, rfl⟩ := own_val ho
    clear hb ho
    by_cases hkn : k = ps.length
    · subst hkn
      go_wp2
      go_ret
      refine ⟨_, _, rfl, ?_, B.out⟩
      have := O.out
      rwa [List.take_length] at this
    · obtain ⟨b, rfl, hbl, hc⟩ := HA.out (by omega)
      have c0 := (B.out.cell (p := ⟨b, k * 2, none⟩) hbl).trans (hc k (by omega)).1
      have c1' := (B.out.cell (p := ⟨b, k * 2 + 1, none⟩) hbl).trans (hc k (by omega)).2
      have hk' : k < ps.length := by omega
      clear hc
      generalize hy1 : (ps.getD k nil2).1 = y1 at *
      generalize (ps.getD k nil2).2 = y2 at *
      have HY1 := Aside0.mk hy1
      clear hy1
      go_wp2_with (first
        | (at_builtin; refine print_append_num (w0 := w) w.heap.size rfl (.tmp 17) (.tmp 20) 58 23 .u32 4 rfl Try.underlying58 info22 (by decide) (.slice A1 k c1) ((ps.take k).map Prod.fst) y1 rfl (by simp [Act.eval]) (by have := O.out; rw [List.length_map, List.length_take, Nat.min_eq_left (by omega)]; exact own_alloc this _) (below_alloc B.out _) (by have := B.out.size; simp; omega) (by rw [List.length_map, List.length_take]; omega) ?_; intro v1 w2 ho2 hb2 hg2 hat2; have O2 := Aside0.mk ho2; have B2 := Aside0.mk hb2; clear ho2 hb2 hg2 hat2))
      have et : (ps.take (k + 1)).map Prod.fst = (ps.take k).map Prod.fst ++ [y1] := by
        rw [take_next ps k hk', List.map_append, ← HY1.out]; rfl
      have o2 := O2.out
      rw [← et] at o2
      have hl : ((ps.take (k + 1)).map Prod.fst).length = k + 1 := by rw [List.length_map, List.length_take]; omega
      rw [hl] at o2
      go_roundw
      case rel => exact ⟨k + 1, by omega, rfl, B2.out, o2⟩
      case measure => simp [intOf]; omega
/-- Put, in one word. -/
theorem put_call (w : World) (base g : Nat) (v : Value) (ps : List (Int × Int)) (page entry : Int) (h : TlbAt w base g v ps) :
    Calls Try.prog 86 #[.pointer (some ⟨g, 0, none⟩), .int .u32 page, .int .u32 entry] w fun e w' => e = .returned (.tuple #[]) ∧ ∃ v', TlbAt w' base g v' (putP page entry ps) ∧ Kept2 w w' g v.ownBlock ∧ (v'.ownBlock = v.ownBlock ∨ ∃ b, v'.ownBlock = some b ∧ w.heap.size ≤ b) := by
  by_cases hp : posP page ps < ps.length
  · exact (put_yes w base g v ps page entry h hp).mono fun e w' ⟨h1, h2, h3⟩ => ⟨h1, v, h2, h3, .inl rfl⟩
  · by_cases h8 : ps.length = 8
    · exact put_full w base g v ps page entry h hp h8
    · exact put_add w base g v ps page entry h hp h8
theorem drop_call (w : World) (base g : Nat) (v : Value) (ps : List (Int × Int)) (page : Int) (h : TlbAt w base g v ps) :
    Calls Try.prog 65 #[.pointer (some ⟨g, 0, none⟩), .int .u32 page] w fun e w' => e = .returned (.tuple #[]) ∧ ∃ v', TlbAt w' base g v' (dropP page ps) ∧ Kept2 w w' g v.ownBlock ∧ (v'.ownBlock = v.ownBlock ∨ ∃ b, v'.ownBlock = some b ∧ w.heap.size ≤ b) := by
  unfold dropP
  by_cases hp : posP page ps < ps.length
  · rw [if_pos hp]
    exact (drop_yes w base g v ps page h hp).mono fun e w' ⟨h1, v', h2, h3, h4⟩ => ⟨h1, v', h2, h3, .inl h4⟩
  · rw [if_neg hp]
    exact (drop_no w base g v ps page h hp).mono fun e w' ⟨h1, h2⟩ => ⟨h1, v, h.then h2, Kept2.of_below h2 _ _, .inl rfl⟩
def entP (page : Int) (ps : List (Int × Int)) : Int := if posP page ps < ps.length then (ps.getD (posP page ps) nil2).2 else 0
theorem get_call (w : World) (base g : Nat) (v : Value) (ps : List (Int × Int)) (page : Int) (h : TlbAt w base g v ps) :
    Calls Try.prog 84 #[.pointer (some ⟨g, 0, none⟩), .int .u32 page] w fun e w' => e = .returned (.tuple #[.int .u32 (entP page ps), .bool (decide (posP page ps < ps.length))]) ∧ Below w.heap.size w w' := by
  unfold entP
  by_cases hp : posP page ps < ps.length
  · rw [if_pos hp, decide_eq_true hp]; exact get_yes w base g v ps page h hp
  · rw [if_neg hp, decide_eq_false hp]; exact get_no w base g v ps page h hp

end Go.Proofs.Ytiogbgjeimdgmaa.TlbWalk
