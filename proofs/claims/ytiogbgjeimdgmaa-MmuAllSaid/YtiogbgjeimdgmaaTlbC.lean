/- The translation buffer's functions of layer 4, walked: Get, Clear, Drop, Put. -/
import Derived.Test.YtiogbgjeimdgmaaTlbB
import Derived.OneCell
namespace Go.Proofs.Ytiogbgjeimdgmaa.TlbWalk
open Go.RowKit Go.Proofs.Ytiogbgjeimdgmaa.Aid Go.Proofs.YtiogbgjeimdgmaaW.PrintWords Go.Proofs.YtiogbgjeimdgmaaW.PrintLast Go.Proofs.YtiogbgjeimdgmaaW.PrintMore
attribute [local go_sem] max2_int min2_int max_two min_two max_three min_three max_four min_four   -- for this text's walks alone
set_option linter.unusedVariables false
set_option linter.unusedSimpArgs false
/-- Of what was there, blocks g and row alone may have turned. -/
structure Kept2 (w w' : World) (g : Nat) (row : Option Nat) : Prop where
  os : w'.os = w.os
  tape : w'.tape = w.tape
  output : w'.output = w.output
  size : w.heap.size ≤ w'.heap.size
  block : ∀ k, k < w.heap.size → k ≠ g → some k ≠ row → w'.heap[k]? = w.heap[k]?
theorem Kept2.of_below {w w' : World} (h : Below w.heap.size w w') (g : Nat) (row : Option Nat) : Kept2 w w' g row := ⟨h.os, h.tape, h.output, h.size, fun k hk _ _ => h.block k hk⟩
theorem Kept2.grown {w w1 w2 : World} {g : Nat} {row row' : Option Nat} (h : Kept2 w w1 g row) (k : w1.grownBy w2 row') (hr : row' = row ∨ ∀ b, row' = some b → w.heap.size ≤ b) : Kept2 w w2 g row := by
  refine ⟨k.os.trans h.os, k.tape.trans h.tape, k.output.trans h.output, Nat.le_trans h.size k.size, fun i hi h1 h2 => (k.block i (Nat.lt_of_lt_of_le hi h.size) ?_).trans (h.block i hi h1 h2)⟩
  rcases hr with rfl | hr
  · exact h2
  · intro e
    have := hr i e.symm
    omega
theorem Kept2.set {w w1 : World} {g : Nat} {row : Option Nat} (h : Kept2 w w1 g row) (j : Nat) (u : Value) : Kept2 w (w1.setCell ⟨g, j, none⟩ u) g row :=
  ⟨h.os, h.tape, h.output, by simpa [World.setCell] using h.size, fun i hi h1 h2 => (Below.heap_setCell w1 ⟨g, j, none⟩ u i h1).trans (h.block i hi h1 h2)⟩
theorem Kept2.then {w w1 w2 : World} {g : Nat} {row : Option Nat} (h : Kept2 w w1 g row) (k : Below w1.heap.size w1 w2) : Kept2 w w2 g row :=
  ⟨k.os.trans h.os, k.tape.trans h.tape, k.output.trans h.output, Nat.le_trans h.size k.size, fun i hi h1 h2 => (k.block i (Nat.lt_of_lt_of_le hi h.size)).trans (h.block i hi h1 h2)⟩
theorem Kept2.below {w0 w w' : World} {g : Nat} {row : Option Nat} (h : Kept2 w w' g row) (b : Below w0.heap.size w0 w) (hg : w0.heap.size ≤ g) (hr : ∀ k, row = some k → w0.heap.size ≤ k) : Below w0.heap.size w0 w' :=
  ⟨h.os.trans b.os, h.tape.trans b.tape, h.output.trans b.output, Nat.le_trans b.size h.size, fun i hi => (h.block i (Nat.lt_of_lt_of_le hi b.size) (by omega) (fun e => by have := hr i e.symm; omega)).trans (b.block i hi)⟩
theorem TlbAt.row {W : World} {base g : Nat} {v : Value} {ps : List (Int × Int)} (h : TlbAt W base g v ps) : ∀ k, v.ownBlock = some k → base ≤ k ∧ k < W.heap.size ∧ k ≠ g := by
  intro k hk
  rcases h.2.2.1.2 with ⟨rfl, _⟩ | ⟨b, c, cur, rfl, hb, hh, _⟩
  · simp [Value.ownBlock] at hk
  · simp only [Value.ownBlock, Option.some.injEq] at hk
    subst hk
    refine ⟨hb, (Array.getElem?_eq_some_iff.1 hh).1, ?_⟩
    rintro rfl
    rw [h.1] at hh
    simp at hh
/-- Another buffer stays. -/
theorem TlbAt.other {w w' : World} {base base' g g' : Nat} {v v' : Value} {ps ps' : List (Int × Int)} (h' : TlbAt w base' g' v' ps') (h : TlbAt w base g v ps) (k : Kept2 w w' g v.ownBlock) (hne : g' ≠ g) (hr : NeRow v v') : TlbAt w' base' g' v' ps' := by
  have hcross : ∀ b, v.ownBlock = some b → g' ≠ b := by
    rintro b hb rfl
    rcases h.2.2.1.2 with ⟨rfl, _⟩ | ⟨b', c, cur, rfl, _, hh, _⟩
    · simp [Value.ownBlock] at hb
    · simp only [Value.ownBlock, Option.some.injEq] at hb
      subst hb
      rw [h'.1] at hh
      simp at hh
  refine ⟨(k.block g' h'.lt hne (fun e => hcross g' e.symm rfl)).trans h'.1, h'.2.1, ?_, h'.2.2.2⟩
  obtain ⟨o1, o2⟩ := h'.2.2.1
  refine ⟨o1, ?_⟩
  rcases o2 with o2 | ⟨b, c, cur, rfl, hb, hh, r⟩
  · exact .inl o2
  · refine .inr ⟨b, c, cur, rfl, hb, ?_, r⟩
    have hbg : b ≠ g := by
      rintro rfl
      rw [h.1] at hh
      simp at hh
    exact (k.block b (Array.getElem?_eq_some_iff.1 hh).1 hbg (fun e => hr b e.symm rfl)).trans hh
/-- The field is stored. -/
theorem tlb_store {W : World} {base g n : Nat} {v v' : Value} {ps : List (Int × Int)} (h : W.heap[g]? = some (.cells #[v] 132 (0, 0))) (hb : base ≤ g) (ho : W.ownsRow base 136 2 v' n (cells2 ps)) (hn : n = ps.length) (h8 : n ≤ 8) (hne : v'.ownBlock ≠ some g) : TlbAt (W.setCell ⟨g, 0, none⟩ v') base g v' ps := by
  subst hn
  exact ⟨blk_put h 0 v' rfl, hb, ownsRow_setCell_other ho hne _, h8⟩
/-- What Put makes of the slots. -/
def putP (page entry : Int) (ps : List (Int × Int)) : List (Int × Int) :=
  if posP page ps < ps.length then ps.set (posP page ps) (page, entry) else (if ps.length = 8 then ps.drop 1 else ps) ++ [(page, entry)]
def dropP (page : Int) (ps : List (Int × Int)) : List (Int × Int) := if posP page ps < ps.length then ps.take (posP page ps) ++ ps.drop (posP page ps + 1) else ps
theorem cells2_set : ∀ (ps : List (Int × Int)) (k : Nat) (e : Int), k < ps.length → (cells2 ps).set (k * 2 + 1) (.int .u32 e) = cells2 (ps.set k ((ps.getD k nil2).1, e))
  | [], _, _, h => absurd h (Nat.not_lt_zero _)
  | p :: ps, 0, e, _ => rfl
  | p :: ps, k + 1, e, h => by
    rw [cells2_cons, show (k + 1) * 2 + 1 = k * 2 + 1 + 1 + 1 from by omega, List.set_cons_succ, List.set_cons_succ, cells2_set ps k e (by simpa using h), List.set_cons_succ, List.getD_cons_succ, cells2_cons]
theorem putP_length (page entry : Int) (ps : List (Int × Int)) (h : ps.length ≤ 8) : (putP page entry ps).length ≤ 8 := by
  unfold putP
  split
  · rw [List.length_set]; exact h
  · rw [List.length_append]
    split
    · rw [List.length_drop]; simp; omega
    · simp; omega

theorem TlbAt.own {W : World} {base g : Nat} {v : Value} {ps : List (Int × Int)} (h : TlbAt W base g v ps) : W.ownsRow base 136 2 v ps.length (cells2 ps) := h.2.2.1
theorem TlbAt.blk {W : World} {base g : Nat} {v : Value} {ps : List (Int × Int)} (h : TlbAt W base g v ps) : W.heap[g]? = some (.cells #[v] 132 (0, 0)) := h.1
theorem TlbAt.val {W : World} {base g : Nat} {v : Value} {ps : List (Int × Int)} (h : TlbAt W base g v ps) : ∃ A c, v = .slice A ps.length c := by
  rcases h.shape with ⟨rfl, rfl⟩ | ⟨b, c, rfl, _⟩
  · exact ⟨none, 0, rfl⟩
  · exact ⟨_, c, rfl⟩
theorem at_yes (w : World) (base g : Nat) (v : Value) (ps : List (Int × Int)) (page : Int) (h : TlbAt w base g v ps) (hp : posP page ps < ps.length) :
    Calls Try.prog 78 #[.pointer (some ⟨g, 0, none⟩), .int .u32 page] w fun e w' => e = .returned (.int .i64 (posP page ps)) ∧ Below w.heap.size w w' := by
  have := at_call w base g v ps page h
  unfold atI at this
  rwa [if_pos hp] at this
theorem at_no (w : World) (base g : Nat) (v : Value) (ps : List (Int × Int)) (page : Int) (h : TlbAt w base g v ps) (hp : ¬ posP page ps < ps.length) :
    Calls Try.prog 78 #[.pointer (some ⟨g, 0, none⟩), .int .u32 page] w fun e w' => e = .returned (.int .i64 (-1)) ∧ Below w.heap.size w w' := by
  have := at_call w base g v ps page h
  unfold atI at this
  rwa [if_neg hp] at this

theorem get_yes (w : World) (base g : Nat) (v : Value) (ps : List (Int × Int)) (page : Int) (h : TlbAt w base g v ps) (hp : posP page ps < ps.length) :
    Calls Try.prog 84 #[.pointer (some ⟨g, 0, none⟩), .int .u32 page] w fun e w' => e = .returned (.tuple #[.int .u32 (ps.getD (posP page ps) nil2).2, .bool true]) ∧ Below w.heap.size w w' := by
  have A := Aside0.mk (at_yes w base g v ps page h hp)
  obtain ⟨b, c, rfl, hc, hm, hb0, hbl⟩ : ∃ b c, v = .slice (some ⟨b, 0, none⟩) ps.length c ∧ ps.length ≤ c ∧ c ≤ maxLen ∧ base ≤ b ∧ b < w.heap.size := by
    rcases h.shape with ⟨rfl, rfl⟩ | h'
    · exact absurd hp (Nat.not_lt_zero _)
    · exact h'
  have H := Aside0.mk h
  generalize posP page ps = i at *
  generalize hx : (ps.getD i nil2).2 = x
  have HX := Aside0.mk hx
  clear h hx
  go_enter Try.func84, Try.ntmps84
  go_wp2_with (first | (go_at_call 78; (with_reducible refine (A.out).mono ?_); rintro e w1 ⟨rfl, hb⟩; have B := Aside0.mk hb; have H1 := Aside0.mk (H.out.then hb); have hf := H1.out.field; have hx1 := (H1.out.cells i hp).2; rw [HX.out] at hx1; clear hb))
  go_ret2
  exact ⟨rfl, B.out⟩
theorem get_no (w : World) (base g : Nat) (v : Value) (ps : List (Int × Int)) (page : Int) (h : TlbAt w base g v ps) (hp : ¬ posP page ps < ps.length) :
    Calls Try.prog 84 #[.pointer (some ⟨g, 0, none⟩), .int .u32 page] w fun e w' => e = .returned (.tuple #[.int .u32 0, .bool false]) ∧ Below w.heap.size w w' := by
  have A := Aside0.mk (at_no w base g v ps page h hp)
  clear h
  go_enter Try.func84, Try.ntmps84
  go_wp2_with (first | (go_at_call 78; (with_reducible refine (A.out).mono ?_); rintro e w1 ⟨rfl, hb⟩; have B := Aside0.mk hb; clear hb))
  go_ret2
  exact ⟨rfl, B.out⟩

theorem clear_call (w : World) (base g : Nat) (v : Value) (ps : List (Int × Int)) (h : TlbAt w base g v ps) :
    Calls Try.prog 57 #[.pointer (some ⟨g, 0, none⟩)] w fun e w' => e = .returned (.tuple #[]) ∧ TlbAt w' base g (.slice none 0 0) [] ∧ Kept2 w w' g v.ownBlock := by
  have hf := h.field
  have hfr := h.free
  have H := Aside0.mk h
  clear h
  go_enter Try.func57, Try.ntmps57
  go_wp2
  go_end0
  exact ⟨rfl, tlb_store (n := 0) H.out.1 H.out.2.1 (World.ownsRow_nil _ _ _ _) rfl (by decide) (by simp [Value.ownBlock]), (Kept2.of_below (Below.refl _ _) _ _).set _ _⟩

theorem drop_no (w : World) (base g : Nat) (v : Value) (ps : List (Int × Int)) (page : Int) (h : TlbAt w base g v ps) (hp : ¬ posP page ps < ps.length) :
    Calls Try.prog 65 #[.pointer (some ⟨g, 0, none⟩), .int .u32 page] w fun e w' => e = .returned (.tuple #[]) ∧ Below w.heap.size w w' := by
  have A := Aside0.mk (at_no w base g v ps page h hp)
  clear h
  go_enter Try.func65, Try.ntmps65
  go_wp2_with (first | (go_at_call 78; (with_reducible refine (A.out).mono ?_); rintro e w1 ⟨rfl, hb⟩; have B := Aside0.mk hb; clear hb))
  go_end0
  exact ⟨rfl, B.out⟩
theorem drop_yes (w : World) (base g : Nat) (v : Value) (ps : List (Int × Int)) (page : Int) (h : TlbAt w base g v ps) (hp : posP page ps < ps.length) :
    Calls Try.prog 65 #[.pointer (some ⟨g, 0, none⟩), .int .u32 page] w fun e w' => e = .returned (.tuple #[]) ∧ ∃ v', TlbAt w' base g v' (ps.take (posP page ps) ++ ps.drop (posP page ps + 1)) ∧ Kept2 w w' g v.ownBlock ∧ v'.ownBlock = v.ownBlock := by
  have A := Aside0.mk (at_yes w base g v ps page h hp)
  obtain ⟨b, c, rfl, hc, hm, hb0, hbl⟩ : ∃ b c, v = .slice (some ⟨b, 0, none⟩) ps.length c ∧ ps.length ≤ c ∧ c ≤ maxLen ∧ base ≤ b ∧ b < w.heap.size := by
    rcases h.shape with ⟨rfl, rfl⟩ | h'
    · exact absurd hp (Nat.not_lt_zero _)
    · exact h'
  have H := Aside0.mk h
  have hl8 := h.2.2.2
  generalize posP page ps = i at *
  have D := Aside0.mk (fun (w : World) (hw : w.ownsRow base 136 2 (.slice (some ⟨b, 0, none⟩) ps.length c) ps.length (cells2 ps)) => del_call w base b ps.length c i ps hw hp hl8)
  clear h
  go_enter Try.func65, Try.ntmps65
  go_wp2_with (first
    | (go_at_call 78; (with_reducible refine (A.out).mono ?_); rintro e w1 ⟨rfl, hb⟩; have B := Aside0.mk hb; have H1 := Aside0.mk (H.out.then hb); have hf := H1.out.field; clear hb)
    | (go_at_call 79; (with_reducible refine (D.out _ H1.out.own).mono ?_); rintro e w2 ⟨rfl, ho, hg⟩; have hgb := (H1.out.row b rfl).2.2; have hblk := (hg.block g H1.out.lt (by simp; omega)).trans H1.out.1; have hf2 := cell_of_row w2 g 0 _ _ _ hblk; have hfr2 := frozen_of_row w2 g 0 _ _ hblk; have HB2 := Aside0.mk hblk; have HO2 := Aside0.mk ho; have HG2 := Aside0.mk hg; have HGB := Aside0.mk hgb; clear hblk ho hg hgb))
  go_end0
  refine ⟨rfl, _, tlb_store HB2.out H.out.2.1 HO2.out (by rw [List.length_append, List.length_take, List.length_drop]; omega) (by omega) (by have := HGB.out; simp [Value.ownBlock]; omega), ((Kept2.of_below B.out _ _).grown HG2.out (.inl rfl)).set _ _, rfl⟩
end Go.Proofs.Ytiogbgjeimdgmaa.TlbWalk
