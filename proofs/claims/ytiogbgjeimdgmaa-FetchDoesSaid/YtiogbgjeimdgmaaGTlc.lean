/- Three buffers that know nothing of one another: what each function of layer 4 leaves of them. -/
import Derived.Test.YtiogbgjeimdgmaaGTlb
namespace Go.Proofs.Ytiogbgjeimdgmaa.TlbWalk
open Go.RowKit Go.Proofs.Ytiogbgjeimdgmaa.Aid Go.Proofs.YtiogbgjeimdgmaaW.PrintWords Go.Proofs.YtiogbgjeimdgmaaW.PrintLast Go.Proofs.YtiogbgjeimdgmaaW.PrintMore
set_option linter.unusedVariables false

theorem other_step {w w' : World} {base base' g g' : Nat} {v v1 v' : Value} {ps ps' : List (Int × Int)} (t : TlbAt w base g v ps) (u : TlbAt w base' g' v' ps') (hne : g' ≠ g) (hr : NeRow v v') (k : Kept2 w w' g v.ownBlock)
    (hv1 : v1.ownBlock = v.ownBlock ∨ ∃ b, v1.ownBlock = some b ∧ w.heap.size ≤ b) : TlbAt w' base' g' v' ps' ∧ NeRow v1 v' := by
  refine ⟨u.other t k hne hr, fun b hb hb' => ?_⟩
  rcases hv1 with e | ⟨c, e, hc⟩
  · exact hr b (e ▸ hb) hb'
  · have := (u.row b hb').2.1
    rw [e] at hb
    simp only [Option.some.injEq] at hb
    omega
/-- Blocks of other types stay. -/
def KeepTy (w w' : World) : Prop := ∀ (b : Nat) (cs : Array Value) (ty : TypeId) (fr : Nat × Nat), w.heap[b]? = some (Obj.cells cs ty fr) → ty ≠ 132 → ty ≠ 136 → w'.heap[b]? = some (Obj.cells cs ty fr)
theorem KeepTy.of {w w' : World} {base g : Nat} {v : Value} {ps : List (Int × Int)} (t : TlbAt w base g v ps) (k : Kept2 w w' g v.ownBlock) : KeepTy w w' := by
  intro b cs ty fr h h1 h2
  refine (k.block b (Array.getElem?_eq_some_iff.1 h).1 ?_ ?_).trans h
  · rintro rfl
    rw [t.1] at h
    simp only [Option.some.injEq, Obj.cells.injEq] at h
    exact h1 h.2.1.symm
  · intro e
    rcases t.2.2.1.2 with ⟨rfl, _⟩ | ⟨b', c, cur, rfl, _, hh, _⟩
    · simp [Value.ownBlock] at e
    · simp only [Value.ownBlock, Option.some.injEq] at e
      subst e
      rw [hh] at h
      simp only [Option.some.injEq, Obj.cells.injEq] at h
      exact h2 h.2.1.symm
theorem KeepTy.of_below {w w' : World} (h : Below w.heap.size w w') : KeepTy w w' := fun b cs ty fr hb _ _ => (h.block b (Array.getElem?_eq_some_iff.1 hb).1).trans hb

def Trio (w wr : World) (g gu gv : Nat) (ps qs rs : List (Int × Int)) : Prop :=
  Below w.heap.size w wr ∧ g ≠ gu ∧ g ≠ gv ∧ gu ≠ gv ∧ ∃ v1 v2 v3, TlbAt wr w.heap.size g v1 ps ∧ TlbAt wr w.heap.size gu v2 qs ∧ TlbAt wr w.heap.size gv v3 rs ∧ NeRow v1 v2 ∧ NeRow v1 v3 ∧ NeRow v2 v3
theorem Trio.swap {w wr : World} {g gu gv : Nat} {ps qs rs : List (Int × Int)} (h : Trio w wr g gu gv ps qs rs) : Trio w wr gu g gv qs ps rs := by
  obtain ⟨h0, h1, h2, h3, v1, v2, v3, t1, t2, t3, n1, n2, n3⟩ := h
  exact ⟨h0, h1.symm, h3, h2, v2, v1, v3, t2, t1, t3, ne_symm n1, n3, n2⟩
theorem Trio.last {w wr : World} {g gu gv : Nat} {ps qs rs : List (Int × Int)} (h : Trio w wr g gu gv ps qs rs) : Trio w wr gv gu g rs qs ps := by
  obtain ⟨h0, h1, h2, h3, v1, v2, v3, t1, t2, t3, n1, n2, n3⟩ := h
  exact ⟨h0, h3.symm, h2.symm, h1.symm, v3, v2, v1, t3, t2, t1, ne_symm n3, ne_symm n2, ne_symm n1⟩
theorem Trio.then {w wr wr' : World} {g gu gv : Nat} {ps qs rs : List (Int × Int)} (h : Trio w wr g gu gv ps qs rs) (hb : Below wr.heap.size wr wr') : Trio w wr' g gu gv ps qs rs := by
  obtain ⟨h0, h1, h2, h3, v1, v2, v3, t1, t2, t3, n1, n2, n3⟩ := h
  exact ⟨below_step h0 hb, h1, h2, h3, v1, v2, v3, t1.then hb, t2.then hb, t3.then hb, n1, n2, n3⟩
theorem Trio.step {w wr w' : World} {g gu gv : Nat} {v1 v1' : Value} {ps ps' qs rs : List (Int × Int)} (h : Trio w wr g gu gv ps qs rs) (hv : TlbAt wr w.heap.size g v1 ps)
    (ht : TlbAt w' w.heap.size g v1' ps') (k : Kept2 wr w' g v1.ownBlock) (hv1 : v1'.ownBlock = v1.ownBlock ∨ ∃ b, v1'.ownBlock = some b ∧ wr.heap.size ≤ b) : Trio w w' g gu gv ps' qs rs ∧ KeepTy wr w' := by
  obtain ⟨h0, h1, h2, h3, x1, x2, x3, t1, t2, t3, n1, n2, n3⟩ := h
  have ev : x1 = v1 := by
    have := t1.1
    rw [hv.1] at this
    simpa using this.symm
  subst ev
  obtain ⟨a2, b2⟩ := other_step t1 t2 h1.symm n1 k hv1
  obtain ⟨a3, b3⟩ := other_step t1 t3 h2.symm n2 k hv1
  exact ⟨⟨k.below h0 t1.2.1 (fun b hb => (t1.row b hb).1), h1, h2, h3, v1', x2, x3, ht, a2, a3, b2, b3, n3⟩, KeepTy.of t1 k⟩
end Go.Proofs.Ytiogbgjeimdgmaa.TlbWalk
/- No buffer at all, asked; the document's buffer (camshaftref04), walked: At, Get, Clear, Drop. -/
namespace Go.Proofs.Ytiogbgjeimdgmaa.TlbWalk
open Go.RowKit Go.Proofs.Ytiogbgjeimdgmaa.Aid Go.Proofs.YtiogbgjeimdgmaaW.PrintWords Go.Proofs.YtiogbgjeimdgmaaW.PrintLast Go.Proofs.YtiogbgjeimdgmaaW.PrintMore
attribute [local go_sem] max2_int min2_int max_two min_two max_three min_three max_four min_four   -- for this text's walks alone
set_option linter.unusedVariables false
set_option linter.unusedSimpArgs false

/-- The document's buffer: block g holds its two fields, rows of pages and of entries. -/
def RefAt (W : World) (base g : Nat) (vp ve : Value) (ps : List (Int × Int)) : Prop :=
  W.heap[g]? = some (.cells #[vp, ve] 94 (0, 0)) ∧ base ≤ g ∧ W.ownsRow base 23 1 vp ps.length (nums .u32 (ps.map Prod.fst)) ∧ W.ownsRow base 23 1 ve ps.length (nums .u32 (ps.map Prod.snd)) ∧ NeRow vp ve ∧ ps.length ≤ 8
theorem RefAt.then {W W' : World} {base g : Nat} {vp ve : Value} {ps : List (Int × Int)} (h : RefAt W base g vp ve ps) (k : Below W.heap.size W W') : RefAt W' base g vp ve ps :=
  ⟨(k.block g (Array.getElem?_eq_some_iff.1 h.1).1).trans h.1, h.2.1, own_then h.2.2.1 k, own_then h.2.2.2.1 k, h.2.2.2.2⟩
theorem RefAt.lt {W : World} {base g : Nat} {vp ve : Value} {ps : List (Int × Int)} (h : RefAt W base g vp ve ps) : g < W.heap.size := (Array.getElem?_eq_some_iff.1 h.1).1
theorem RefAt.f0 {W : World} {base g : Nat} {vp ve : Value} {ps : List (Int × Int)} (h : RefAt W base g vp ve ps) : W.cell? ⟨g, 0, none⟩ = some vp := cell_of_row W g 0 _ _ _ h.1
theorem RefAt.f1 {W : World} {base g : Nat} {vp ve : Value} {ps : List (Int × Int)} (h : RefAt W base g vp ve ps) : W.cell? ⟨g, 1, none⟩ = some ve := cell_of_row W g 1 _ _ _ h.1
theorem RefAt.fr {W : World} {base g : Nat} {vp ve : Value} {ps : List (Int × Int)} (h : RefAt W base g vp ve ps) (j : Nat) : W.frozen? ⟨g, j, none⟩ = false := frozen_of_row W g j _ _ h.1
theorem RefAt.op {W : World} {base g : Nat} {vp ve : Value} {ps : List (Int × Int)} (h : RefAt W base g vp ve ps) : W.ownsRow base 23 1 vp ps.length (nums .u32 (ps.map Prod.fst)) := h.2.2.1
theorem RefAt.oe {W : World} {base g : Nat} {vp ve : Value} {ps : List (Int × Int)} (h : RefAt W base g vp ve ps) : W.ownsRow base 23 1 ve ps.length (nums .u32 (ps.map Prod.snd)) := h.2.2.2.1

theorem map_fst_getD (ps : List (Int × Int)) (k : Nat) (hk : k < ps.length) : (ps.map Prod.fst).getD k 0 = (ps.getD k nil2).1 := by
  rw [List.getD_eq_getElem?_getD, List.getElem?_map, List.getElem?_eq_getElem hk, List.getD_eq_getElem?_getD, List.getElem?_eq_getElem hk]; rfl
theorem map_snd_getD (ps : List (Int × Int)) (k : Nat) (hk : k < ps.length) : (ps.map Prod.snd).getD k 0 = (ps.getD k nil2).2 := by
  rw [List.getD_eq_getElem?_getD, List.getElem?_map, List.getElem?_eq_getElem hk, List.getD_eq_getElem?_getD, List.getElem?_eq_getElem hk]; rfl

theorem rat_call (w : World) (base g : Nat) (vp ve : Value) (ps : List (Int × Int)) (page : Int) (h : RefAt w base g vp ve ps) :
    Calls Try.prog 76 #[.pointer (some ⟨g, 0, none⟩), .int .u32 page] w fun e w' => e = .returned (.int .i64 (atI page ps)) ∧ w = w' := by
  have hf := h.f0
  have hl := h.2.2.2.2.2
  obtain ⟨A, c, rfl⟩ := own_val h.op
  have RD := Aside0.mk (own_reads' h.op)
  clear h
  go_enter Try.func76, Try.ntmps76
  go_wp2
  go_loopw [12] (fun i wr => ∃ k : Nat, k ≤ ps.length ∧ i = .int .i64 k ∧ w = wr ∧ Aside0 (∀ j, j < k → (ps.getD j nil2).1 ≠ page)) (fun i _ => ps.length - (intOf i).toNat)
  case atStart => exact ⟨0, Nat.zero_le _, rfl, rfl, ⟨fun j hj => absurd hj (Nat.not_lt_zero _)⟩⟩
  case round =>
    obtain ⟨k, hk, rfl, rfl, hn⟩ := hrel
    by_cases hkn : k = ps.length
    · go_wp2
      go_ret
      refine ⟨?_, rfl⟩
      have e : atI page ps = -1 := by
        unfold atI
        rw [posP_none page ps (fun j hj => hn.out j (by omega)), if_neg (Nat.lt_irrefl _)]
      rw [e]
      rfl
    · have hk' : k < ps.length := by omega
      obtain ⟨ad, rfl, hc⟩ := RD.out.2.2 (by omega)
      have c0 := hc k hk'
      rw [map_fst_getD ps k hk'] at c0
      clear hc
      generalize hy1 : (ps.getD k nil2).1 = y1 at *
      have HY1 := Aside0.mk hy1
      clear hy1
      by_cases he : y1 = page
      · subst he
        have e : atI y1 ps = k := by
          unfold atI
          rw [posP_at y1 ps k hk' HY1.out hn.out, if_pos hk']
        have E := Aside0.mk e
        clear e
        go_wp2
        go_ret
        refine ⟨?_, rfl⟩
        rw [E.out]
        rfl
      · have he' : (y1 == page) = false := beq_eq_false_iff_ne.mpr he
        go_wp2
        go_roundw
        case rel =>
          refine ⟨k + 1, by omega, rfl, trivial, ⟨fun j hj => ?_⟩⟩
          by_cases hjk : j = k
          · subst hjk; rw [HY1.out]; exact he
          · exact hn.out j (by omega)
        case measure => simp [intOf]; omega

theorem rget_call (w : World) (base g : Nat) (vp ve : Value) (ps : List (Int × Int)) (page : Int) (h : RefAt w base g vp ve ps) :
    Calls Try.prog 58 #[.pointer (some ⟨g, 0, none⟩), .int .u32 page] w fun e w' => e = .returned (.tuple #[.int .u32 (entP page ps), .bool (decide (posP page ps < ps.length))]) ∧ w = w' := by
  have A := rat_call w base g vp ve ps page h
  have hf := h.f1
  obtain ⟨A1, c, rfl⟩ := own_val h.oe
  unfold atI at A
  unfold entP
  by_cases hp : posP page ps < ps.length
  · rw [if_pos hp] at A ⊢
    rw [decide_eq_true hp]
    have A' := Aside0.mk A
    obtain ⟨ad, rfl, hc⟩ := (own_reads' h.oe).2.2 (by omega)
    have c0 := hc (posP page ps) hp
    rw [map_snd_getD ps _ hp] at c0
    clear A hc h
    generalize (ps.getD (posP page ps) nil2).2 = y at *
    generalize posP page ps = i at *
    go_enter Try.func58, Try.ntmps58
    go_wp2_with (first | (go_at_call 76; (with_reducible refine (A'.out).mono ?_); rintro e w1 ⟨rfl, rfl⟩))
    go_ret2
    exact ⟨rfl, rfl⟩
  · rw [if_neg hp] at A ⊢
    rw [decide_eq_false hp]
    have A' := Aside0.mk A
    clear A h
    go_enter Try.func58, Try.ntmps58
    go_wp2_with (first | (go_at_call 76; (with_reducible refine (A'.out).mono ?_); rintro e w1 ⟨rfl, rfl⟩))
    go_ret2
    exact ⟨rfl, rfl⟩
end Go.Proofs.Ytiogbgjeimdgmaa.TlbWalk
/- The document's buffer (camshaftref04), walked: Clear, Drop. -/
namespace Go.Proofs.Ytiogbgjeimdgmaa.TlbWalk
open Go.RowKit Go.Proofs.Ytiogbgjeimdgmaa.Aid Go.Proofs.YtiogbgjeimdgmaaW.PrintWords Go.Proofs.YtiogbgjeimdgmaaW.PrintLast Go.Proofs.YtiogbgjeimdgmaaW.PrintMore
attribute [local go_sem] max2_int min2_int max_two min_two max_three min_three max_four min_four   -- for this text's walks alone
set_option linter.unusedVariables false
set_option linter.unusedSimpArgs false

/-- Blocks of other types than the document's stay. -/
def KeepR (w w' : World) : Prop := ∀ (b : Nat) (cs : Array Value) (ty : TypeId) (fr : Nat × Nat), w.heap[b]? = some (Obj.cells cs ty fr) → ty ≠ 94 → ty ≠ 23 → w'.heap[b]? = some (Obj.cells cs ty fr)
theorem KeepR.refl (w : World) : KeepR w w := fun b cs ty fr h _ _ => h
theorem KeepR.trans {a b c : World} (h : KeepR a b) (k : KeepR b c) : KeepR a c := fun i cs ty fr hi h1 h2 => k i cs ty fr (h i cs ty fr hi h1 h2) h1 h2
theorem KeepR.of_below {w w' : World} (h : Below w.heap.size w w') : KeepR w w' := fun b cs ty fr hb _ _ => (h.block b (Array.getElem?_eq_some_iff.1 hb).1).trans hb
theorem KeepR.set {w w' : World} {g : Nat} {cs : Array Value} (h : KeepR w w') (hg : w'.heap[g]? = some (.cells cs 94 (0, 0))) (j : Nat) (u : Value) : KeepR w (w'.setCell ⟨g, j, none⟩ u) := by
  intro b cs' ty fr hb h1 h2
  have := h b cs' ty fr hb h1 h2
  refine (Below.heap_setCell w' ⟨g, j, none⟩ u b ?_).trans this
  rintro rfl
  have hg' : w'.heap[b]? = some (.cells cs 94 (0, 0)) := hg
  rw [this] at hg'
  simp only [Option.some.injEq, Obj.cells.injEq] at hg'
  exact h1 hg'.2.1
theorem KeepR.grown {w w1 w2 : World} {base n : Nat} {v : Value} {xs : List Value} (h : KeepR w w1) (ho : w1.ownsRow base 23 1 v n xs) (hg : w1.grownBy w2 v.ownBlock) : KeepR w w2 := by
  intro b cs ty fr hb h1 h2
  have := h b cs ty fr hb h1 h2
  refine (hg.block b (Array.getElem?_eq_some_iff.1 this).1 fun e => ?_).trans this
  rcases ho.2 with ⟨rfl, _⟩ | ⟨b', c, cur, rfl, _, hh, _⟩
  · simp [Value.ownBlock] at e
  · simp only [Value.ownBlock, Option.some.injEq] at e
    subst e
    rw [this] at hh
    simp only [Option.some.injEq, Obj.cells.injEq] at hh
    exact h2 hh.2.1
/-- A row of numbers is no block of the document's buffer itself. -/
theorem own_ne54 {W : World} {base n g : Nat} {v : Value} {xs : List Value} {cs : Array Value} (h : W.ownsRow base 23 1 v n xs) (hg : W.heap[g]? = some (.cells cs 94 (0, 0))) : v.ownBlock ≠ some g := by
  intro e
  rcases h.2 with ⟨rfl, _⟩ | ⟨b, c, cur, rfl, _, hh, _⟩
  · simp [Value.ownBlock] at e
  · simp only [Value.ownBlock, Option.some.injEq] at e
    subst e
    rw [hg] at hh
    simp at hh

def dropR (page : Int) (ps : List (Int × Int)) : List (Int × Int) := ps.filter fun q => decide (q.1 ≠ page)
theorem dropR_next (page : Int) (ps : List (Int × Int)) (k : Nat) (hk : k < ps.length) : dropR page (ps.take (k + 1)) = dropR page (ps.take k) ++ (if (ps.getD k nil2).1 = page then [] else [ps.getD k nil2]) := by
  unfold dropR
  rw [take_next ps k hk, List.filter_append]
  congr 1
  by_cases h : (ps.getD k nil2).1 = page
  · rw [if_pos h, List.filter_cons_of_neg (by rw [decide_eq_true_eq]; exact fun q => q h), List.filter_nil]
  · rw [if_neg h, List.filter_cons_of_pos (p := fun q : Int × Int => decide (q.1 ≠ page)) (decide_eq_true h), List.filter_nil]
theorem ref_store {W : World} {base g : Nat} {vp ve vp' ve' : Value} {ps' : List (Int × Int)} (h : W.heap[g]? = some (.cells #[vp, ve] 94 (0, 0))) (hb : base ≤ g)
    (op : W.ownsRow base 23 1 vp' ps'.length (nums .u32 (ps'.map Prod.fst))) (oe : W.ownsRow base 23 1 ve' ps'.length (nums .u32 (ps'.map Prod.snd))) (hn : NeRow vp' ve') (h8 : ps'.length ≤ 8) :
    RefAt ((W.setCell ⟨g, 0, none⟩ vp').setCell ⟨g, 1, none⟩ ve') base g vp' ve' ps' := by
  have p1 : (W.setCell ⟨g, 0, none⟩ vp').heap[g]? = some (.cells #[vp', ve] 94 (0, 0)) := blk_put h 0 _ rfl
  have p2 : ((W.setCell ⟨g, 0, none⟩ vp').setCell ⟨g, 1, none⟩ ve').heap[g]? = some (.cells #[vp', ve'] 94 (0, 0)) := blk_put p1 1 _ rfl
  have n1 := own_ne54 op h
  have n2 := own_ne54 oe h
  exact ⟨p2, hb, ownsRow_setCell_other (ownsRow_setCell_other op n1 _) n1 _, ownsRow_setCell_other (ownsRow_setCell_other oe n2 _) n2 _, hn, h8⟩

end Go.Proofs.Ytiogbgjeimdgmaa.TlbWalk
/- The document's buffer (camshaftref04), walked: Put. -/
namespace Go.Proofs.Ytiogbgjeimdgmaa.TlbWalk
open Go.RowKit Go.Proofs.Ytiogbgjeimdgmaa.Aid Go.Proofs.YtiogbgjeimdgmaaW.PrintWords Go.Proofs.YtiogbgjeimdgmaaW.PrintLast Go.Proofs.YtiogbgjeimdgmaaW.PrintMore
attribute [local go_sem] max2_int min2_int max_two min_two max_three min_three max_four min_four   -- for this text's walks alone
set_option linter.unusedVariables false
set_option linter.unusedSimpArgs false

theorem rat_no (w : World) (base g : Nat) (vp ve : Value) (ps : List (Int × Int)) (page : Int) (h : RefAt w base g vp ve ps) (hp : ¬ posP page ps < ps.length) :
    Calls Try.prog 76 #[.pointer (some ⟨g, 0, none⟩), .int .u32 page] w fun e w' => e = .returned (.int .i64 (-1)) ∧ w = w' := by
  have := rat_call w base g vp ve ps page h
  unfold atI at this
  rwa [if_neg hp] at this
theorem rat_yes (w : World) (base g : Nat) (vp ve : Value) (ps : List (Int × Int)) (page : Int) (h : RefAt w base g vp ve ps) (hp : posP page ps < ps.length) :
    Calls Try.prog 76 #[.pointer (some ⟨g, 0, none⟩), .int .u32 page] w fun e w' => e = .returned (.int .i64 (posP page ps)) ∧ w = w' := by
  have := rat_call w base g vp ve ps page h
  unfold atI at this
  rwa [if_pos hp] at this

end Go.Proofs.Ytiogbgjeimdgmaa.TlbWalk
