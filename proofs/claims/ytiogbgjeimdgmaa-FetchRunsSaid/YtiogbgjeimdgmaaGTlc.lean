/- Three buffers that know nothing of one another: what each function of layer 4 leaves of them. -/
import Derived.Test.YtiogbgjeimdgmaaGTlb
namespace Go.Proofs.Ytiogbgjeimdgmaa.TlbWalk
open Go.RowKit Go.Proofs.Ytiogbgjeimdgmaa.Aid Go.Proofs.YtiogbgjeimdgmaaW.PrintWords Go.Proofs.YtiogbgjeimdgmaaW.PrintLast Go.Proofs.YtiogbgjeimdgmaaW.PrintMore
set_option linter.unusedVariables false

theorem other_step {w w' : World} {base base' g g' : Nat} {v v1 v' : Value} {ps ps' : List (Int × Int)} (t : TlbAt w base g v ps) (u : TlbAt w base' g' v' ps') (hne : g' ≠ g) (hr : NeRow v v') (k : Kept2 w w' g v.ownBlock)
    (hv1 : v1.ownBlock = v.ownBlock ∨ ∃ b, v1.ownBlock = some b ∧ w.heap.size ≤ b) : TlbAt w' base' g' v' ps' ∧ NeRow v1 v' := by
  refine ⟨u.other t k hne hr, fun b hb hb' => ?_⟩
  rcases hv1 with e | ⟨c, e, hc⟩
  · exact hr b (e ▸ hb) hb'
  · have := (u.row b hb').2.1
    rw [e] at hb
    simp only [Option.some.injEq] at hb
    omega
/-- Blocks of other types stay. -/
def KeepTy (w w' : World) : Prop := ∀ (b : Nat) (cs : Array Value) (ty : TypeId) (fr : Nat × Nat), w.heap[b]? = some (Obj.cells cs ty fr) → ty ≠ 132 → ty ≠ 136 → w'.heap[b]? = some (Obj.cells cs ty fr)
theorem KeepTy.of {w w' : World} {base g : Nat} {v : Value} {ps : List (Int × Int)} (t : TlbAt w base g v ps) (k : Kept2 w w' g v.ownBlock) : KeepTy w w' := by
  intro b cs ty fr h h1 h2
  refine (k.block b (Array.getElem?_eq_some_iff.1 h).1 ?_ ?_).trans h
  · rintro rfl
    rw [t.1] at h
    simp only [Option.some.injEq, Obj.cells.injEq] at h
    exact h1 h.2.1.symm
  · intro e
    rcases t.2.2.1.2 with ⟨rfl, _⟩ | ⟨b', c, cur, rfl, _, hh, _⟩
    · simp [Value.ownBlock] at e
    · simp only [Value.ownBlock, Option.some.injEq] at e
      subst e
      rw [hh] at h
      simp only [Option.some.injEq, Obj.cells.injEq] at h
      exact h2 h.2.1.symm
theorem KeepTy.of_below {w w' : World} (h : Below w.heap.size w w') : KeepTy w w' := fun b cs ty fr hb _ _ => (h.block b (Array.getElem?_eq_some_iff.1 hb).1).trans hb

def Trio (w wr : World) (g gu gv : Nat) (ps qs rs : List (Int × Int)) : Prop :=
  Below w.heap.size w wr ∧ g ≠ gu ∧ g ≠ gv ∧ gu ≠ gv ∧ ∃ v1 v2 v3, TlbAt wr w.heap.size g v1 ps ∧ TlbAt wr w.heap.size gu v2 qs ∧ TlbAt wr w.heap.size gv v3 rs ∧ NeRow v1 v2 ∧ NeRow v1 v3 ∧ NeRow v2 v3
theorem Trio.swap {w wr : World} {g gu gv : Nat} {ps qs rs : List (Int × Int)} (h : Trio w wr g gu gv ps qs rs) : Trio w wr gu g gv qs ps rs := by
  obtain ⟨h0, h1, h2, h3, v1, v2, v3, t1, t2, t3, n1, n2, n3⟩ := h
  exact ⟨h0, h1.symm, h3, h2, v2, v1, v3, t2, t1, t3, ne_symm n1, n3, n2⟩
theorem Trio.last {w wr : World} {g gu gv : Nat} {ps qs rs : List (Int × Int)} (h : Trio w wr g gu gv ps qs rs) : Trio w wr gv gu g rs qs ps := by
  obtain ⟨h0, h1, h2, h3, v1, v2, v3, t1, t2, t3, n1, n2, n3⟩ := h
  exact ⟨h0, h3.symm, h2.symm, h1.symm, v3, v2, v1, t3, t2, t1, ne_symm n3, ne_symm n2, ne_symm n1⟩
theorem Trio.then {w wr wr' : World} {g gu gv : Nat} {ps qs rs : List (Int × Int)} (h : Trio w wr g gu gv ps qs rs) (hb : Below wr.heap.size wr wr') : Trio w wr' g gu gv ps qs rs := by
  obtain ⟨h0, h1, h2, h3, v1, v2, v3, t1, t2, t3, n1, n2, n3⟩ := h
  exact ⟨below_step h0 hb, h1, h2, h3, v1, v2, v3, t1.then hb, t2.then hb, t3.then hb, n1, n2, n3⟩
theorem Trio.step {w wr w' : World} {g gu gv : Nat} {v1 v1' : Value} {ps ps' qs rs : List (Int × Int)} (h : Trio w wr g gu gv ps qs rs) (hv : TlbAt wr w.heap.size g v1 ps)
    (ht : TlbAt w' w.heap.size g v1' ps') (k : Kept2 wr w' g v1.ownBlock) (hv1 : v1'.ownBlock = v1.ownBlock ∨ ∃ b, v1'.ownBlock = some b ∧ wr.heap.size ≤ b) : Trio w w' g gu gv ps' qs rs ∧ KeepTy wr w' := by
  obtain ⟨h0, h1, h2, h3, x1, x2, x3, t1, t2, t3, n1, n2, n3⟩ := h
  have ev : x1 = v1 := by
    have := t1.1
    rw [hv.1] at this
    simpa using this.symm
  subst ev
  obtain ⟨a2, b2⟩ := other_step t1 t2 h1.symm n1 k hv1
  obtain ⟨a3, b3⟩ := other_step t1 t3 h2.symm n2 k hv1
  exact ⟨⟨k.below h0 t1.2.1 (fun b hb => (t1.row b hb).1), h1, h2, h3, v1', x2, x3, ht, a2, a3, b2, b3, n3⟩, KeepTy.of t1 k⟩
theorem trio_put (w wr : World) (g gu gv : Nat) (ps qs rs : List (Int × Int)) (page entry : Int) (h : Trio w wr g gu gv ps qs rs) :
    Calls Try.prog 86 #[.pointer (some ⟨g, 0, none⟩), .int .u32 page, .int .u32 entry] wr fun e w' => e = .returned (.tuple #[]) ∧ Trio w w' g gu gv (putP page entry ps) qs rs ∧ KeepTy wr w' := by
  obtain ⟨v1, v2, v3, t1, _⟩ := h.2.2.2.2
  exact (put_call wr _ g v1 ps page entry t1).mono fun e w' ⟨he, v', ht, k, hv⟩ => ⟨he, h.step t1 ht k hv⟩
theorem trio_drop (w wr : World) (g gu gv : Nat) (ps qs rs : List (Int × Int)) (page : Int) (h : Trio w wr g gu gv ps qs rs) :
    Calls Try.prog 65 #[.pointer (some ⟨g, 0, none⟩), .int .u32 page] wr fun e w' => e = .returned (.tuple #[]) ∧ Trio w w' g gu gv (dropP page ps) qs rs ∧ KeepTy wr w' := by
  obtain ⟨v1, v2, v3, t1, _⟩ := h.2.2.2.2
  exact (drop_call wr _ g v1 ps page t1).mono fun e w' ⟨he, v', ht, k, hv⟩ => ⟨he, h.step t1 ht k hv⟩
theorem trio_clear (w wr : World) (g gu gv : Nat) (ps qs rs : List (Int × Int)) (h : Trio w wr g gu gv ps qs rs) :
    Calls Try.prog 57 #[.pointer (some ⟨g, 0, none⟩)] wr fun e w' => e = .returned (.tuple #[]) ∧ Trio w w' g gu gv [] qs rs ∧ KeepTy wr w' := by
  obtain ⟨v1, v2, v3, t1, h0, h1, h2, h3, h4⟩ := h.2.2.2.2
  refine (clear_call wr _ g v1 ps t1).mono fun e w' ⟨he, ht, k⟩ => ⟨he, ?_, KeepTy.of t1 k⟩
  exact ⟨k.below h.1 t1.2.1 (fun b hb => (t1.row b hb).1), h.2.1, h.2.2.1, h.2.2.2.1, _, v2, v3, ht, h0.other t1 k h.2.1.symm h2, h1.other t1 k h.2.2.1.symm h3, ne_nil _, ne_nil _, h4⟩
theorem trio_get (w wr : World) (g gu gv : Nat) (ps qs rs : List (Int × Int)) (page : Int) (h : Trio w wr g gu gv ps qs rs) :
    Calls Try.prog 84 #[.pointer (some ⟨g, 0, none⟩), .int .u32 page] wr fun e w' => e = .returned (.tuple #[.int .u32 (entP page ps), .bool (decide (posP page ps < ps.length))]) ∧ Trio w w' g gu gv ps qs rs ∧ Below wr.heap.size wr w' := by
  obtain ⟨v1, v2, v3, t1, _⟩ := h.2.2.2.2
  exact (get_call wr _ g v1 ps page t1).mono fun e w' ⟨he, hb⟩ => ⟨he, h.then hb, hb⟩
theorem trio_pages (w wr : World) (g gu gv : Nat) (ps qs rs : List (Int × Int)) (h : Trio w wr g gu gv ps qs rs) :
    Calls Try.prog 67 #[.pointer (some ⟨g, 0, none⟩)] wr fun e w' => ∃ A c, e = .returned (.slice A ps.length c) ∧ w'.ownsRow wr.heap.size 23 1 (.slice A ps.length c) ps.length (nums .u32 (ps.map Prod.fst)) ∧ Trio w w' g gu gv ps qs rs ∧ Below wr.heap.size wr w' := by
  obtain ⟨v1, v2, v3, t1, _⟩ := h.2.2.2.2
  exact (pages_call wr _ g v1 ps t1).mono fun e w' ⟨A, c, he, ho, hb⟩ => ⟨A, c, he, ho, h.then hb, hb⟩
theorem trio_len {w wr : World} {g gu gv : Nat} {ps qs rs : List (Int × Int)} (h : Trio w wr g gu gv ps qs rs) : ps.length ≤ 8 := by
  obtain ⟨v1, v2, v3, t1, _⟩ := h.2.2.2.2
  exact t1.2.2.2
end Go.Proofs.Ytiogbgjeimdgmaa.TlbWalk
/- No buffer at all, asked; the document's buffer (camshaftref04), walked: At, Get, Clear, Drop. -/
namespace Go.Proofs.Ytiogbgjeimdgmaa.TlbWalk
open Go.RowKit Go.Proofs.Ytiogbgjeimdgmaa.Aid Go.Proofs.YtiogbgjeimdgmaaW.PrintWords Go.Proofs.YtiogbgjeimdgmaaW.PrintLast Go.Proofs.YtiogbgjeimdgmaaW.PrintMore
attribute [local go_sem] max2_int min2_int max_two min_two max_three min_three max_four min_four   -- for this text's walks alone
set_option linter.unusedVariables false
set_option linter.unusedSimpArgs false

theorem nil_at (w : World) (page : Int) : Calls Try.prog 78 #[.pointer none, .int .u32 page] w fun e w' => e = .returned (.int .i64 (-1)) ∧ Below w.heap.size w w' := by
  go_enter Try.func78, Try.ntmps78
  go_wp2
  go_ret
  exact ⟨rfl, below_alloc (Below.refl _ _) _⟩
theorem nil_get (w : World) (page : Int) : Calls Try.prog 84 #[.pointer none, .int .u32 page] w fun e w' => e = .returned (.tuple #[.int .u32 0, .bool false]) ∧ Below w.heap.size w w' := by
  go_enter Try.func84, Try.ntmps84
  go_wp2_with (first | (go_at_call 78; (with_reducible refine (nil_at _ _).mono ?_); rintro e w1 ⟨rfl, hb⟩; have B := Aside0.mk hb; clear hb))
  go_ret2
  exact ⟨rfl, B.out⟩
theorem nil_put (w : World) (page entry : Int) : Calls Try.prog 86 #[.pointer none, .int .u32 page, .int .u32 entry] w fun e w' => e = .returned (.tuple #[]) ∧ Below w.heap.size w w' := by
  go_enter Try.func86, Try.ntmps86
  go_wp2_with (first | (go_at_call 78; (with_reducible refine (nil_at _ _).mono ?_); rintro e w1 ⟨rfl, hb⟩; have B := Aside0.mk hb; clear hb))
  go_end0
  exact ⟨rfl, B.out⟩
theorem nil_drop (w : World) (page : Int) : Calls Try.prog 65 #[.pointer none, .int .u32 page] w fun e w' => e = .returned (.tuple #[]) ∧ Below w.heap.size w w' := by
  go_enter Try.func65, Try.ntmps65
  go_wp2_with (first | (go_at_call 78; (with_reducible refine (nil_at _ _).mono ?_); rintro e w1 ⟨rfl, hb⟩; have B := Aside0.mk hb; clear hb))
  go_end0
  exact ⟨rfl, B.out⟩
theorem nil_clear (w : World) : Calls Try.prog 57 #[.pointer none] w fun e w' => e = .returned (.tuple #[]) ∧ w = w' := by
  go_enter Try.func57, Try.ntmps57
  go_wp2
  go_end0
  exact ⟨rfl, rfl⟩
theorem nil_pages (w : World) : Calls Try.prog 67 #[.pointer none] w fun e w' => e = .returned (.slice none 0 0) ∧ w = w' := by
  go_enter Try.func67, Try.ntmps67
  go_wp2
  go_ret
  exact ⟨rfl, rfl⟩

/-- The document's buffer: block g holds its two fields, rows of pages and of entries. -/
def RefAt (W : World) (base g : Nat) (vp ve : Value) (ps : List (Int × Int)) : Prop :=
  W.heap[g]? = some (.cells #[vp, ve] 94 (0, 0)) ∧ base ≤ g ∧ W.ownsRow base 23 1 vp ps.length (nums .u32 (ps.map Prod.fst)) ∧ W.ownsRow base 23 1 ve ps.length (nums .u32 (ps.map Prod.snd)) ∧ NeRow vp ve ∧ ps.length ≤ 8
theorem RefAt.then {W W' : World} {base g : Nat} {vp ve : Value} {ps : List (Int × Int)} (h : RefAt W base g vp ve ps) (k : Below W.heap.size W W') : RefAt W' base g vp ve ps :=
  ⟨(k.block g (Array.getElem?_eq_some_iff.1 h.1).1).trans h.1, h.2.1, own_then h.2.2.1 k, own_then h.2.2.2.1 k, h.2.2.2.2⟩
theorem RefAt.lt {W : World} {base g : Nat} {vp ve : Value} {ps : List (Int × Int)} (h : RefAt W base g vp ve ps) : g < W.heap.size := (Array.getElem?_eq_some_iff.1 h.1).1
theorem RefAt.f0 {W : World} {base g : Nat} {vp ve : Value} {ps : List (Int × Int)} (h : RefAt W base g vp ve ps) : W.cell? ⟨g, 0, none⟩ = some vp := cell_of_row W g 0 _ _ _ h.1
theorem RefAt.f1 {W : World} {base g : Nat} {vp ve : Value} {ps : List (Int × Int)} (h : RefAt W base g vp ve ps) : W.cell? ⟨g, 1, none⟩ = some ve := cell_of_row W g 1 _ _ _ h.1
theorem RefAt.fr {W : World} {base g : Nat} {vp ve : Value} {ps : List (Int × Int)} (h : RefAt W base g vp ve ps) (j : Nat) : W.frozen? ⟨g, j, none⟩ = false := frozen_of_row W g j _ _ h.1
theorem RefAt.op {W : World} {base g : Nat} {vp ve : Value} {ps : List (Int × Int)} (h : RefAt W base g vp ve ps) : W.ownsRow base 23 1 vp ps.length (nums .u32 (ps.map Prod.fst)) := h.2.2.1
theorem RefAt.oe {W : World} {base g : Nat} {vp ve : Value} {ps : List (Int × Int)} (h : RefAt W base g vp ve ps) : W.ownsRow base 23 1 ve ps.length (nums .u32 (ps.map Prod.snd)) := h.2.2.2.1

theorem map_fst_getD (ps : List (Int × Int)) (k : Nat) (hk : k < ps.length) : (ps.map Prod.fst).getD k 0 = (ps.getD k nil2).1 := by
  rw [List.getD_eq_getElem?_getD, List.getElem?_map, List.getElem?_eq_getElem hk, List.getD_eq_getElem?_getD, List.getElem?_eq_getElem hk]; rfl
theorem map_snd_getD (ps : List (Int × Int)) (k : Nat) (hk : k < ps.length) : (ps.map Prod.snd).getD k 0 = (ps.getD k nil2).2 := by
  rw [List.getD_eq_getElem?_getD, List.getElem?_map, List.getElem?_eq_getElem hk, List.getD_eq_getElem?_getD, List.getElem?_eq_getElem hk]; rfl

theorem rat_call (w : World) (base g : Nat) (vp ve : Value) (ps : List (Int × Int)) (page : Int) (h : RefAt w base g vp ve ps) :
    Calls Try.prog 76 #[.pointer (some ⟨g, 0, none⟩), .int .u32 page] w fun e w' => e = .returned (.int .i64 (atI page ps)) ∧ w = w' := by
  have hf := h.f0
  have hl := h.2.2.2.2.2
  obtain ⟨A, c, rfl⟩ := own_val h.op
  have RD := Aside0.mk (own_reads' h.op)
  clear h
  go_enter Try.func76, Try.ntmps76
  go_wp2
  go_loopw [12] (fun i wr => ∃ k : Nat, k ≤ ps.length ∧ i = .int .i64 k ∧ w = wr ∧ Aside0 (∀ j, j < k → (ps.getD j nil2).1 ≠ page)) (fun i _ => ps.length - (intOf i).toNat)
  case atStart => exact ⟨0, Nat.zero_le _, rfl, rfl, ⟨fun j hj => absurd hj (Nat.not_lt_zero _)⟩⟩
  case round =>
    obtain ⟨k, hk, rfl, rfl, hn⟩ := hrel
    by_cases hkn : k = ps.length
    · go_wp2
      go_ret
      refine ⟨?_, rfl⟩
      have e : atI page ps = -1 := by
        unfold atI
        rw [posP_none page ps (fun j hj => hn.out j (by omega)), if_neg (Nat.lt_irrefl _)]
      rw [e]
      rfl
    · have hk' : k < ps.length := by omega
      obtain ⟨ad, rfl, hc⟩ := RD.out.2.2 (by omega)
      have c0 := hc k hk'
      rw [map_fst_getD ps k hk'] at c0
      clear hc
      generalize hy1 : (ps.getD k nil2).1 = y1 at *
      have HY1 := Aside0.mk hy1
      clear hy1
      by_cases he : y1 = page
      · subst he
        have e : atI y1 ps = k := by
          unfold atI
          rw [posP_at y1 ps k hk' HY1.out hn.out, if_pos hk']
        have E := Aside0.mk e
        clear e
        go_wp2
        go_ret
        refine ⟨?_, rfl⟩
        rw [E.out]
        rfl
      · have he' : (y1 == page) = false := beq_eq_false_iff_ne.mpr he
        go_wp2
        go_roundw
        case rel =>
          refine ⟨k + 1, by omega, rfl, trivial, ⟨fun j hj => ?_⟩⟩
          by_cases hjk : j = k
          · subst hjk; rw [HY1.out]; exact he
          · exact hn.out j (by omega)
        case measure => simp [intOf]; omega

theorem rget_call (w : World) (base g : Nat) (vp ve : Value) (ps : List (Int × Int)) (page : Int) (h : RefAt w base g vp ve ps) :
    Calls Try.prog 58 #[.pointer (some ⟨g, 0, none⟩), .int .u32 page] w fun e w' => e = .returned (.tuple #[.int .u32 (entP page ps), .bool (decide (posP page ps < ps.length))]) ∧ w = w' := by
  have A := rat_call w base g vp ve ps page h
  have hf := h.f1
  obtain ⟨A1, c, rfl⟩ := own_val h.oe
  unfold atI at A
  unfold entP
  by_cases hp : posP page ps < ps.length
  · rw [if_pos hp] at A ⊢
    rw [decide_eq_true hp]
    have A' := Aside0.mk A
    obtain ⟨ad, rfl, hc⟩ := (own_reads' h.oe).2.2 (by omega)
    have c0 := hc (posP page ps) hp
    rw [map_snd_getD ps _ hp] at c0
    clear A hc h
    generalize (ps.getD (posP page ps) nil2).2 = y at *
    generalize posP page ps = i at *
    go_enter Try.func58, Try.ntmps58
    go_wp2_with (first | (go_at_call 76; (with_reducible refine (A'.out).mono ?_); rintro e w1 ⟨rfl, rfl⟩))
    go_ret2
    exact ⟨rfl, rfl⟩
  · rw [if_neg hp] at A ⊢
    rw [decide_eq_false hp]
    have A' := Aside0.mk A
    clear A h
    go_enter Try.func58, Try.ntmps58
    go_wp2_with (first | (go_at_call 76; (with_reducible refine (A'.out).mono ?_); rintro e w1 ⟨rfl, rfl⟩))
    go_ret2
    exact ⟨rfl, rfl⟩
end Go.Proofs.Ytiogbgjeimdgmaa.TlbWalk
/- The document's buffer (camshaftref04), walked: Clear, Drop. -/
namespace Go.Proofs.Ytiogbgjeimdgmaa.TlbWalk
open Go.RowKit Go.Proofs.Ytiogbgjeimdgmaa.Aid Go.Proofs.YtiogbgjeimdgmaaW.PrintWords Go.Proofs.YtiogbgjeimdgmaaW.PrintLast Go.Proofs.YtiogbgjeimdgmaaW.PrintMore
attribute [local go_sem] max2_int min2_int max_two min_two max_three min_three max_four min_four   -- for this text's walks alone
set_option linter.unusedVariables false
set_option linter.unusedSimpArgs false

/-- Blocks of other types than the document's stay. -/
def KeepR (w w' : World) : Prop := ∀ (b : Nat) (cs : Array Value) (ty : TypeId) (fr : Nat × Nat), w.heap[b]? = some (Obj.cells cs ty fr) → ty ≠ 94 → ty ≠ 23 → w'.heap[b]? = some (Obj.cells cs ty fr)
theorem KeepR.refl (w : World) : KeepR w w := fun b cs ty fr h _ _ => h
theorem KeepR.trans {a b c : World} (h : KeepR a b) (k : KeepR b c) : KeepR a c := fun i cs ty fr hi h1 h2 => k i cs ty fr (h i cs ty fr hi h1 h2) h1 h2
theorem KeepR.of_below {w w' : World} (h : Below w.heap.size w w') : KeepR w w' := fun b cs ty fr hb _ _ => (h.block b (Array.getElem?_eq_some_iff.1 hb).1).trans hb
theorem KeepR.set {w w' : World} {g : Nat} {cs : Array Value} (h : KeepR w w') (hg : w'.heap[g]? = some (.cells cs 94 (0, 0))) (j : Nat) (u : Value) : KeepR w (w'.setCell ⟨g, j, none⟩ u) := by
  intro b cs' ty fr hb h1 h2
  have := h b cs' ty fr hb h1 h2
  refine (Below.heap_setCell w' ⟨g, j, none⟩ u b ?_).trans this
  rintro rfl
  have hg' : w'.heap[b]? = some (.cells cs 94 (0, 0)) := hg
  rw [this] at hg'
  simp only [Option.some.injEq, Obj.cells.injEq] at hg'
  exact h1 hg'.2.1
theorem KeepR.grown {w w1 w2 : World} {base n : Nat} {v : Value} {xs : List Value} (h : KeepR w w1) (ho : w1.ownsRow base 23 1 v n xs) (hg : w1.grownBy w2 v.ownBlock) : KeepR w w2 := by
  intro b cs ty fr hb h1 h2
  have := h b cs ty fr hb h1 h2
  refine (hg.block b (Array.getElem?_eq_some_iff.1 this).1 fun e => ?_).trans this
  rcases ho.2 with ⟨rfl, _⟩ | ⟨b', c, cur, rfl, _, hh, _⟩
  · simp [Value.ownBlock] at e
  · simp only [Value.ownBlock, Option.some.injEq] at e
    subst e
    rw [this] at hh
    simp only [Option.some.injEq, Obj.cells.injEq] at hh
    exact h2 hh.2.1
/-- A row of numbers is no block of the document's buffer itself. -/
theorem own_ne54 {W : World} {base n g : Nat} {v : Value} {xs : List Value} {cs : Array Value} (h : W.ownsRow base 23 1 v n xs) (hg : W.heap[g]? = some (.cells cs 94 (0, 0))) : v.ownBlock ≠ some g := by
  intro e
  rcases h.2 with ⟨rfl, _⟩ | ⟨b, c, cur, rfl, _, hh, _⟩
  · simp [Value.ownBlock] at e
  · simp only [Value.ownBlock, Option.some.injEq] at e
    subst e
    rw [hg] at hh
    simp at hh

theorem rclear_call (w0 w : World) (g : Nat) (vp ve : Value) (ps : List (Int × Int)) (hb : Below w0.heap.size w0 w) (h : RefAt w w0.heap.size g vp ve ps) :
    Calls Try.prog 47 #[.pointer (some ⟨g, 0, none⟩)] w fun e w' => e = .returned (.tuple #[]) ∧ Below w0.heap.size w0 w' ∧ (∃ vp' ve', RefAt w' w0.heap.size g vp' ve' []) ∧ KeepR w w' := by
  have f0 := h.f0
  have f1 := h.f1
  have r0 := h.fr 0
  have r1 := h.fr 1
  have H := Aside0.mk h
  have B := Aside0.mk hb
  clear h hb
  go_enter Try.func47, Try.ntmps47
  go_wp2
  go_end0
  have p1 : (w.setCell ⟨g, 0, none⟩ (.slice none 0 0)).heap[g]? = some (.cells #[.slice none 0 0, ve] 94 (0, 0)) := blk_put H.out.1 0 _ rfl
  have p2 : ((w.setCell ⟨g, 0, none⟩ (.slice none 0 0)).setCell ⟨g, 1, none⟩ (.slice none 0 0)).heap[g]? = some (.cells #[.slice none 0 0, .slice none 0 0] 94 (0, 0)) := blk_put p1 1 _ rfl
  exact ⟨rfl, (B.out.setCell H.out.2.1 _).setCell H.out.2.1 _, ⟨_, _, p2, H.out.2.1, World.ownsRow_nil _ _ _ _, World.ownsRow_nil _ _ _ _, ne_nil _, Nat.zero_le _⟩, ((KeepR.refl w).set H.out.1 0 _).set p1 1 _⟩

def dropR (page : Int) (ps : List (Int × Int)) : List (Int × Int) := ps.filter fun q => decide (q.1 ≠ page)
theorem dropR_next (page : Int) (ps : List (Int × Int)) (k : Nat) (hk : k < ps.length) : dropR page (ps.take (k + 1)) = dropR page (ps.take k) ++ (if (ps.getD k nil2).1 = page then [] else [ps.getD k nil2]) := by
  unfold dropR
  rw [take_next ps k hk, List.filter_append]
  congr 1
  by_cases h : (ps.getD k nil2).1 = page
  · rw [if_pos h, List.filter_cons_of_neg (by rw [decide_eq_true_eq]; exact fun q => q h), List.filter_nil]
  · rw [if_neg h, List.filter_cons_of_pos (p := fun q : Int × Int => decide (q.1 ≠ page)) (decide_eq_true h), List.filter_nil]
theorem ref_store {W : World} {base g : Nat} {vp ve vp' ve' : Value} {ps' : List (Int × Int)} (h : W.heap[g]? = some (.cells #[vp, ve] 94 (0, 0))) (hb : base ≤ g)
    (op : W.ownsRow base 23 1 vp' ps'.length (nums .u32 (ps'.map Prod.fst))) (oe : W.ownsRow base 23 1 ve' ps'.length (nums .u32 (ps'.map Prod.snd))) (hn : NeRow vp' ve') (h8 : ps'.length ≤ 8) :
    RefAt ((W.setCell ⟨g, 0, none⟩ vp').setCell ⟨g, 1, none⟩ ve') base g vp' ve' ps' := by
  have p1 : (W.setCell ⟨g, 0, none⟩ vp').heap[g]? = some (.cells #[vp', ve] 94 (0, 0)) := blk_put h 0 _ rfl
  have p2 : ((W.setCell ⟨g, 0, none⟩ vp').setCell ⟨g, 1, none⟩ ve').heap[g]? = some (.cells #[vp', ve'] 94 (0, 0)) := blk_put p1 1 _ rfl
  have n1 := own_ne54 op h
  have n2 := own_ne54 oe h
  exact ⟨p2, hb, ownsRow_setCell_other (ownsRow_setCell_other op n1 _) n1 _, ownsRow_setCell_other (ownsRow_setCell_other oe n2 _) n2 _, hn, h8⟩

set_option maxHeartbeats 2000000 in
theorem rdrop_call (w0 w : World) (g : Nat) (vp ve : Value) (ps : List (Int × Int)) (page : Int) (hb : Below w0.heap.size w0 w) (h : RefAt w w0.heap.size g vp ve ps) :
    Calls Try.prog 74 #[.pointer (some ⟨g, 0, none⟩), .int .u32 page] w fun e w' => e = .returned (.tuple #[]) ∧ Below w0.heap.size w0 w' ∧ (∃ vp' ve', RefAt w' w0.heap.size g vp' ve' (dropR page ps)) ∧ KeepR w w' := by
  have f0 := h.f0
  have hl := h.2.2.2.2.2
  obtain ⟨A, c, rfl⟩ := own_val h.op
  obtain ⟨AE, ce, rfl⟩ := own_val h.oe
  have RP := Aside0.mk (own_reads' h.op)
  have RE := Aside0.mk (own_reads' h.oe)
  have H := Aside0.mk h
  have B0 := Aside0.mk hb
  clear h hb
  go_enter Try.func74, Try.ntmps74
  go_wp2
  go_loopw [4, 5, 13] (fun p e i wr => ∃ k : Nat, k ≤ ps.length ∧ i = .int .i64 k ∧ Aside0 (Below w.heap.size w wr) ∧ Aside0 (wr.ownsRow w.heap.size 23 1 p (dropR page (ps.take k)).length (nums .u32 ((dropR page (ps.take k)).map Prod.fst))) ∧
    Aside0 (wr.ownsRow w.heap.size 23 1 e (dropR page (ps.take k)).length (nums .u32 ((dropR page (ps.take k)).map Prod.snd))) ∧ Aside0 (NeRow p e)) (fun _ _ i _ => ps.length - (intOf i).toNat)
  case atStart => exact ⟨0, Nat.zero_le _, rfl, ⟨Below.refl _ _⟩, ⟨World.ownsRow_nil _ _ _ _⟩, ⟨World.ownsRow_nil _ _ _ _⟩, ⟨ne_nil _⟩⟩
  case round =>
    obtain ⟨k, hk, rfl, B, OP, OE, NR⟩ := hrel
    obtain ⟨A1, c1, rfl⟩ := own_val OP.out
    obtain ⟨A2, c2, rfl⟩ := own_val OE.out
    have HR := Aside0.mk (H.out.then B.out)
    by_cases hkn : k = ps.length
    · subst hkn
      have q0 := HR.out.f0
      have q1 := HR.out.f1
      have r0 := HR.out.fr 0
      have r1 := HR.out.fr 1
      have OPX := OP.out
      have OEX := OE.out
      have NX := NR.out
      rw [List.take_length] at OPX OEX NX
      have OPX := Aside0.mk OPX
      have OEX := Aside0.mk OEX
      have NX := Aside0.mk NX
      clear OP OE NR
      go_wp2
      go_end0
      have hfl : (dropR page ps).length ≤ 8 := Nat.le_trans (List.length_filter_le _ _) hl
      have p1 : (wr.setCell ⟨g, 0, none⟩ (.slice A1 (dropR page ps).length c1)).heap[g]? = some (.cells #[.slice A1 (dropR page ps).length c1, .slice AE ps.length ce] 94 (0, 0)) := blk_put HR.out.1 0 _ rfl
      refine ⟨rfl, ((below_weaken B0.out B0.out.size B.out).setCell H.out.2.1 _).setCell H.out.2.1 _, ⟨_, _, ref_store HR.out.1 H.out.2.1 (own_less OPX.out B0.out.size) (own_less OEX.out B0.out.size) NX.out hfl⟩, ((KeepR.of_below B.out).set HR.out.1 0 _).set p1 1 _⟩
    · have hk' : k < ps.length := by omega
      obtain ⟨ad, rfl, hc⟩ := RP.out.2.2 (by omega)
      obtain ⟨ae, rfl, hce⟩ := RE.out.2.2 (by omega)
      have c0 := hc k hk'
      rw [map_fst_getD ps k hk'] at c0
      have e0 := hce k hk'
      rw [map_snd_getD ps k hk'] at e0
      have cl := World.block_lt_of_cell? w _ c0
      have el := World.block_lt_of_cell? w _ e0
      have c0' := (B.out.cell cl).trans c0
      have E0 := Aside0.mk e0
      have EL := Aside0.mk el
      have nx := dropR_next page ps k hk'
      have hfk : (dropR page (ps.take k)).length ≤ 8 := Nat.le_trans (List.length_filter_le _ _) (by rw [List.length_take]; omega)
      clear hc hce c0 e0 cl el f0
      generalize ps.getD k nil2 = q at *
      obtain ⟨x, y⟩ := q
      dsimp only at c0' E0 nx
      by_cases hx : x = page
      · rw [if_pos hx, List.append_nil] at nx
        have hxb : (x != page) = false := by rw [bne_eq_false_iff_eq]; exact hx
        have NX := Aside0.mk nx
        clear nx hx
        go_wp2
        go_roundw
        case rel => exact ⟨k + 1, by omega, rfl, B, by rw [NX.out]; exact OP, by rw [NX.out]; exact OE, NR⟩
        case measure => simp [intOf]; omega
      · rw [if_neg hx] at nx
        have hxb : (x != page) = true := by rw [bne_iff_ne]; exact hx
        have NX := Aside0.mk nx
        clear nx hx
        generalize hF : dropR page (ps.take k) = F at *
        go_wp2_with (first
          | (at_builtin; refine print_append_num (w0 := w) w.heap.size rfl (.tmp 21) (.tmp 23) 58 23 .u32 4 rfl Try.underlying58 info22 (by decide) (.slice A1 F.length c1) (F.map Prod.fst) x rfl (by simp [Act.eval]) (by rw [List.length_map]; exact OP.out) B.out B.out.size (by rw [List.length_map]; omega) ?_; intro o1 w1 ho1 hb1 hg1 hat1; have hl1 : (F.map Prod.fst ++ [x]).length = F.length + 1 := (by simp); rw [hl1] at ho1; obtain ⟨A3, c3, rfl⟩ := own_val ho1; have OP1 := Aside0.mk ho1; have B1 := Aside0.mk hb1; have OE1 := Aside0.mk (own_other OE.out hg1 (ne_other NR.out)); have N1 := Aside0.mk (ne_append NR.out hat1 OE.out); have HR1 := Aside0.mk (H.out.then hb1); have q1 := HR1.out.f1; have e1 := (hb1.cell EL.out).trans E0.out; clear ho1 hb1 hg1 hat1)
          | (at_builtin; refine print_append_num (w0 := w) w.heap.size rfl (.tmp 25) (.tmp 33) 58 23 .u32 4 rfl Try.underlying58 info22 (by decide) (.slice A2 F.length c2) (F.map Prod.snd) y rfl (by simp [Act.eval]) (by rw [List.length_map]; exact OE1.out) B1.out B1.out.size (by rw [List.length_map]; omega) ?_; intro o2 w2 ho2 hb2 hg2 hat2; have hl2 : (F.map Prod.snd ++ [y]).length = F.length + 1 := (by simp); rw [hl2] at ho2; obtain ⟨A4, c4, rfl⟩ := own_val ho2; have OE2 := Aside0.mk ho2; have B2 := Aside0.mk hb2; have OP2 := Aside0.mk (own_other OP1.out hg2 (ne_other (ne_symm N1.out))); have N2 := Aside0.mk (ne_append' N1.out hat2 OP1.out); clear ho2 hb2 hg2 hat2))
        have hlen : (F ++ [(x, y)]).length = F.length + 1 := by simp
        go_roundw
        case rel => exact ⟨k + 1, by omega, by simp [hlen], B2, by rw [NX.out, hlen, List.map_append]; exact OP2, by rw [NX.out, hlen, List.map_append]; exact OE2, N2⟩
        case measure => simp [intOf]; omega
end Go.Proofs.Ytiogbgjeimdgmaa.TlbWalk
/- The document's buffer (camshaftref04), walked: Put. -/
namespace Go.Proofs.Ytiogbgjeimdgmaa.TlbWalk
open Go.RowKit Go.Proofs.Ytiogbgjeimdgmaa.Aid Go.Proofs.YtiogbgjeimdgmaaW.PrintWords Go.Proofs.YtiogbgjeimdgmaaW.PrintLast Go.Proofs.YtiogbgjeimdgmaaW.PrintMore
attribute [local go_sem] max2_int min2_int max_two min_two max_three min_three max_four min_four   -- for this text's walks alone
set_option linter.unusedVariables false
set_option linter.unusedSimpArgs false

theorem rat_no (w : World) (base g : Nat) (vp ve : Value) (ps : List (Int × Int)) (page : Int) (h : RefAt w base g vp ve ps) (hp : ¬ posP page ps < ps.length) :
    Calls Try.prog 76 #[.pointer (some ⟨g, 0, none⟩), .int .u32 page] w fun e w' => e = .returned (.int .i64 (-1)) ∧ w = w' := by
  have := rat_call w base g vp ve ps page h
  unfold atI at this
  rwa [if_neg hp] at this
theorem rat_yes (w : World) (base g : Nat) (vp ve : Value) (ps : List (Int × Int)) (page : Int) (h : RefAt w base g vp ve ps) (hp : posP page ps < ps.length) :
    Calls Try.prog 76 #[.pointer (some ⟨g, 0, none⟩), .int .u32 page] w fun e w' => e = .returned (.int .i64 (posP page ps)) ∧ w = w' := by
  have := rat_call w base g vp ve ps page h
  unfold atI at this
  rwa [if_pos hp] at this

theorem rput_yes (w0 w : World) (g : Nat) (vp ve : Value) (ps : List (Int × Int)) (page entry : Int) (hb : Below w0.heap.size w0 w) (h : RefAt w w0.heap.size g vp ve ps) (hp : posP page ps < ps.length) :
    Calls Try.prog 62 #[.pointer (some ⟨g, 0, none⟩), .int .u32 page, .int .u32 entry] w fun e w' => e = .returned (.tuple #[]) ∧ Below w0.heap.size w0 w' ∧ (∃ vp' ve', RefAt w' w0.heap.size g vp' ve' (putP page entry ps)) ∧ KeepR w w' := by
  have A' := Aside0.mk (rat_yes w _ g vp ve ps page h hp)
  have hpp : putP page entry ps = ps.set (posP page ps) (page, entry) := by
    unfold putP
    rw [if_pos hp]
  have hfst : (putP page entry ps).map Prod.fst = ps.map Prod.fst := by
    have := set_same_fst ps (posP page ps) hp entry
    rw [posP_page page ps hp] at this
    rw [hpp, this]
  have HPP := Aside0.mk hpp
  have HFST := Aside0.mk hfst
  clear hpp hfst
  have f1 := h.f1
  obtain ⟨b, c, rfl⟩ : ∃ b c, ve = .slice (some ⟨b, 0, none⟩) ps.length c := by
    rcases h.oe.2 with ⟨_, h0⟩ | ⟨b, c, cur, rfl, _⟩
    · omega
    · exact ⟨b, c, rfl⟩
  obtain ⟨ad, he, hc⟩ := (own_reads' h.oe).2.2 (by omega)
  have c0 := h.oe.cellAt (posP page ps) (by omega)
  have c1 : ∃ u, w.cell? ⟨b, posP page ps, none⟩ = some u := by
    have hl := h.oe.1
    exact ⟨_, c0.trans (List.getElem?_eq_getElem (by omega))⟩
  obtain ⟨u, hu⟩ := c1
  have hfr := h.oe.frozenAt (posP page ps)
  have hl8 := h.2.2.2.2.2
  have H := Aside0.mk h
  have B0 := Aside0.mk hb
  clear h hb hc he c0
  generalize posP page ps = i at *
  go_enter Try.func62, Try.ntmps62
  go_wp2_with (first | (go_at_call 76; (with_reducible refine (A'.out).mono ?_); rintro e w1 ⟨rfl, rfl⟩))
  refine bodyPost_ret (results_none rfl _ _ _) rfl ?_
  have hs := H.out.oe.stored i (.int .u32 entry)
  have hlen : (putP page entry ps).length = ps.length := by rw [HPP.out, List.length_set]
  have hsnd : (nums .u32 (ps.map Prod.snd)).set i (.int .u32 entry) = nums .u32 ((putP page entry ps).map Prod.snd) := by
    rw [HPP.out, List.map_set]; simp [nums, List.map_set]
  rw [hsnd] at hs
  have hbb : w0.heap.size ≤ b := own_base H.out.oe b rfl
  refine ⟨rfl, B0.out.setCell hbb _, ⟨_, _, (hs.2.block g H.out.lt (fun e => own_ne54 H.out.oe H.out.1 (by simpa [Value.ownBlock] using e.symm))).trans H.out.1, H.out.2.1, ?_, ?_, H.out.2.2.2.2.1, by omega⟩, ?_⟩
  · rw [hlen, HFST.out]
    exact own_other H.out.op hs.2 (ne_other (ne_symm H.out.2.2.2.2.1))
  · rw [hlen]; exact hs.1
  · exact KeepR.grown (KeepR.refl _) H.out.oe hs.2

set_option maxHeartbeats 2000000 in
theorem rput_add (w0 w : World) (g : Nat) (vp ve : Value) (ps : List (Int × Int)) (page entry : Int) (hb : Below w0.heap.size w0 w) (h : RefAt w w0.heap.size g vp ve ps) (hp : ¬ posP page ps < ps.length) (h8 : ¬ ps.length = 8) :
    Calls Try.prog 62 #[.pointer (some ⟨g, 0, none⟩), .int .u32 page, .int .u32 entry] w fun e w' => e = .returned (.tuple #[]) ∧ Below w0.heap.size w0 w' ∧ (∃ vp' ve', RefAt w' w0.heap.size g vp' ve' (putP page entry ps)) ∧ KeepR w w' := by
  have A' := Aside0.mk (rat_no w _ g vp ve ps page h hp)
  have hpp : putP page entry ps = ps ++ [(page, entry)] := by
    unfold putP
    rw [if_neg hp, if_neg h8]
  have HPP := Aside0.mk hpp
  have h8' : ((ps.length : Int) == 8) = false := beq_eq_false_iff_ne.mpr (by omega)
  have f0 := h.f0
  have hl8 := h.2.2.2.2.2
  obtain ⟨A1, c1, rfl⟩ := own_val h.op
  obtain ⟨A2, c2, rfl⟩ := own_val h.oe
  have H := Aside0.mk h
  have B0 := Aside0.mk hb
  clear h hb hpp
  go_enter Try.func62, Try.ntmps62
  go_wp2_with (first
    | (go_at_call 76; (with_reducible refine (A'.out).mono ?_); rintro e w1 ⟨rfl, rfl⟩)
    | (at_builtin; refine print_append_num (w0 := w0) w0.heap.size rfl (.tmp 37) (.tmp 39) 58 23 .u32 4 rfl Try.underlying58 info22 (by decide) (.slice A1 ps.length c1) (ps.map Prod.fst) page rfl (by simp [Act.eval]) (by rw [List.length_map]; exact H.out.op) B0.out B0.out.size (by rw [List.length_map]; omega) ?_; intro o3 w3 ho3 hb3 hg3 hat3; have hl3 : (ps.map Prod.fst ++ [page]).length = ps.length + 1 := (by simp); rw [hl3] at ho3; obtain ⟨A3, c3, rfl⟩ := own_val ho3; have OP3 := Aside0.mk ho3; have B3 := Aside0.mk hb3; have OE3 := Aside0.mk (own_other H.out.oe hg3 (ne_other H.out.2.2.2.2.1)); have N3 := Aside0.mk (ne_append H.out.2.2.2.2.1 hat3 H.out.oe); have KR3 := Aside0.mk (KeepR.grown (KeepR.refl _) H.out.op hg3); have hblk := (hg3.block _ (Array.getElem?_eq_some_iff.1 H.out.1).1 (fun e => own_ne54 H.out.op H.out.1 e.symm)).trans H.out.1; have BK3 := Aside0.mk hblk; have q30 := cell_of_row w3 g 0 _ _ _ hblk; have q31 := cell_of_row w3 g 1 _ _ _ hblk; have r30 := frozen_of_row w3 g 0 _ _ hblk; have r31 := frozen_of_row w3 g 1 _ _ hblk; clear hblk ho3 hb3 hg3 hat3)
    | (at_builtin; refine print_append_num (w0 := w0) (W := w3.setCell ⟨g, 0, none⟩ (.slice A3 (ps.length + 1) c3)) w0.heap.size rfl (.tmp 47) (.tmp 49) 58 23 .u32 4 rfl Try.underlying58 info22 (by decide) (.slice A2 ps.length c2) (ps.map Prod.snd) entry rfl (by simp [Act.eval, World.setCell]) (by rw [List.length_map]; exact ownsRow_setCell_other (a := ⟨g, 0, none⟩) OE3.out (own_ne54 OE3.out BK3.out) _) (B3.out.setCell H.out.2.1 _) (B3.out.setCell H.out.2.1 _).size (by rw [List.length_map]; omega) ?_; intro o4 w4 ho4 hb4 hg4 hat4; have hl4 : (ps.map Prod.snd ++ [entry]).length = ps.length + 1 := (by simp); rw [hl4] at ho4; obtain ⟨A4, c4, rfl⟩ := own_val ho4; have oe' := ownsRow_setCell_other (a := ⟨g, 0, none⟩) OE3.out (own_ne54 OE3.out BK3.out) (.slice A3 (ps.length + 1) c3); have op' := ownsRow_setCell_other (a := ⟨g, 0, none⟩) OP3.out (own_ne54 OP3.out BK3.out) (.slice A3 (ps.length + 1) c3); have OE4 := Aside0.mk ho4; have B4 := Aside0.mk hb4; have OP4 := Aside0.mk (own_other op' hg4 (ne_other (ne_symm N3.out))); have N4 := Aside0.mk (ne_append' N3.out hat4 op'); have bk3 : (w3.setCell ⟨g, 0, none⟩ (.slice A3 (ps.length + 1) c3)).heap[g]? = some (.cells #[.slice A3 (ps.length + 1) c3, .slice A2 ps.length c2] 94 (0, 0)) := blk_put BK3.out 0 _ rfl; have KR4 := Aside0.mk (KeepR.grown ((KeepR.refl w3).set BK3.out 0 (.slice A3 (ps.length + 1) c3)) oe' hg4); have hblk := (hg4.block g (Array.getElem?_eq_some_iff.1 bk3).1 (fun e => own_ne54 oe' bk3 e.symm)).trans bk3; have BK4 := Aside0.mk hblk; have q41 := cell_of_row w4 g 1 _ _ _ hblk; have r41 := frozen_of_row w4 g 1 _ _ hblk; clear hblk ho4 hb4 hg4 hat4 oe' op' bk3))
  go_end0
  have hlen : (ps ++ [(page, entry)]).length = ps.length + 1 := by simp
  have p4 : (w4.setCell ⟨g, 1, none⟩ (.slice A4 (ps.length + 1) c4)).heap[g]? = some (.cells #[.slice A3 (ps.length + 1) c3, .slice A4 (ps.length + 1) c4] 94 (0, 0)) := blk_put BK4.out 1 _ rfl
  have e1 : nums .u32 ((ps ++ [(page, entry)]).map Prod.fst) = nums .u32 (ps.map Prod.fst ++ [page]) := by rw [List.map_append]; rfl
  have e2 : nums .u32 ((ps ++ [(page, entry)]).map Prod.snd) = nums .u32 (ps.map Prod.snd ++ [entry]) := by rw [List.map_append]; rfl
  refine ⟨rfl, B4.out.setCell H.out.2.1 _, ⟨.slice A3 (ps.length + 1) c3, .slice A4 (ps.length + 1) c4, ?_⟩, (KR3.out.trans KR4.out).set BK4.out 1 _⟩
  rw [HPP.out]
  exact ⟨p4, H.out.2.1, by rw [hlen, e1]; exact ownsRow_setCell_other (a := ⟨g, 1, none⟩) OP4.out (own_ne54 OP4.out BK4.out) _, by rw [hlen, e2]; exact ownsRow_setCell_other (a := ⟨g, 1, none⟩) OE4.out (own_ne54 OE4.out BK4.out) _, N4.out, by rw [hlen]; omega⟩

set_option maxHeartbeats 2000000 in
theorem rput_full (w0 w : World) (g : Nat) (vp ve : Value) (ps : List (Int × Int)) (page entry : Int) (hb : Below w0.heap.size w0 w) (h : RefAt w w0.heap.size g vp ve ps) (hp : ¬ posP page ps < ps.length) (h8 : ps.length = 8) (hd : dropR (ps.getD 0 nil2).1 ps = ps.drop 1) :
    Calls Try.prog 62 #[.pointer (some ⟨g, 0, none⟩), .int .u32 page, .int .u32 entry] w fun e w' => e = .returned (.tuple #[]) ∧ Below w0.heap.size w0 w' ∧ (∃ vp' ve', RefAt w' w0.heap.size g vp' ve' (putP page entry ps)) ∧ KeepR w w' := by
  have A' := Aside0.mk (rat_no w _ g vp ve ps page h hp)
  have D := Aside0.mk (rdrop_call w0 w g vp ve ps (ps.getD 0 nil2).1 hb h)
  rw [hd] at D
  have hpp : putP page entry ps = ps.drop 1 ++ [(page, entry)] := by
    unfold putP
    rw [if_neg hp, if_pos h8]
  have hql : (ps.drop 1).length = 7 := by rw [List.length_drop]; omega
  generalize hqs : ps.drop 1 = qs at *
  have HPP := Aside0.mk hpp
  have h8' : ((ps.length : Int) == 8) = true := beq_iff_eq.mpr (by omega)
  have f0 := h.f0
  obtain ⟨A1, c1, rfl⟩ := own_val h.op
  obtain ⟨ad, rfl, hc⟩ := (own_reads' h.op).2.2 (by omega)
  have c0 := hc 0 (by omega)
  rw [map_fst_getD ps 0 (by omega), show ad.add 0 = ad from by unfold Addr.add; rw [if_pos rfl]] at c0
  generalize (ps.getD 0 nil2).1 = p0 at *
  have HQL := Aside0.mk hql
  have hps := Aside0.mk h8
  clear h hb hpp hc hqs hd hql h8
  go_enter Try.func62, Try.ntmps62
  have hp8 : (0 : Int) < (ps.length : Int) := by have := hps.out; omega
  have hp8' : 0 < ps.length := by have := hps.out; omega
  go_wp2_with (first
    | (go_at_call 76; (with_reducible refine (A'.out).mono ?_); rintro e w1 ⟨rfl, rfl⟩)
    | (go_at_call 74; (with_reducible refine (D.out).mono ?_); rintro e w2 ⟨rfl, hb2, ⟨vp2, ve2, hr2⟩, hk2⟩; obtain ⟨A5, c5, rfl⟩ := own_val hr2.op; obtain ⟨A6, c6, rfl⟩ := own_val hr2.oe; have q20 := hr2.f0; have H2 := Aside0.mk hr2; have B2 := Aside0.mk hb2; have K2 := Aside0.mk hk2; clear hr2 hb2 hk2)
    | (at_builtin; refine print_append_num (w0 := w0) w0.heap.size rfl (.tmp 37) (.tmp 39) 58 23 .u32 4 rfl Try.underlying58 info22 (by decide) (.slice A5 qs.length c5) (qs.map Prod.fst) page rfl (by simp [Act.eval]) (by rw [List.length_map]; exact H2.out.op) B2.out B2.out.size (by rw [List.length_map]; have := HQL.out; omega) ?_; intro o3 w3 ho3 hb3 hg3 hat3; have hl3 : (qs.map Prod.fst ++ [page]).length = qs.length + 1 := (by simp); rw [hl3] at ho3; obtain ⟨A3, c3, rfl⟩ := own_val ho3; have OP3 := Aside0.mk ho3; have B3 := Aside0.mk hb3; have OE3 := Aside0.mk (own_other H2.out.oe hg3 (ne_other H2.out.2.2.2.2.1)); have N3 := Aside0.mk (ne_append H2.out.2.2.2.2.1 hat3 H2.out.oe); have KR3 := Aside0.mk (KeepR.grown (KeepR.refl _) H2.out.op hg3); have hblk := (hg3.block _ (Array.getElem?_eq_some_iff.1 H2.out.1).1 (fun e => own_ne54 H2.out.op H2.out.1 e.symm)).trans H2.out.1; have BK3 := Aside0.mk hblk; have q30 := cell_of_row w3 g 0 _ _ _ hblk; have q31 := cell_of_row w3 g 1 _ _ _ hblk; have r30 := frozen_of_row w3 g 0 _ _ hblk; have r31 := frozen_of_row w3 g 1 _ _ hblk; clear hblk ho3 hb3 hg3 hat3)
    | (at_builtin; refine print_append_num (w0 := w0) (W := w3.setCell ⟨g, 0, none⟩ (.slice A3 (qs.length + 1) c3)) w0.heap.size rfl (.tmp 47) (.tmp 49) 58 23 .u32 4 rfl Try.underlying58 info22 (by decide) (.slice A6 qs.length c6) (qs.map Prod.snd) entry rfl (by simp [Act.eval, World.setCell]) (by rw [List.length_map]; exact ownsRow_setCell_other (a := ⟨g, 0, none⟩) OE3.out (own_ne54 OE3.out BK3.out) _) (B3.out.setCell H2.out.2.1 _) (B3.out.setCell H2.out.2.1 _).size (by rw [List.length_map]; have := HQL.out; omega) ?_; intro o4 w4 ho4 hb4 hg4 hat4; have hl4 : (qs.map Prod.snd ++ [entry]).length = qs.length + 1 := (by simp); rw [hl4] at ho4; obtain ⟨A4, c4, rfl⟩ := own_val ho4; have oe' := ownsRow_setCell_other (a := ⟨g, 0, none⟩) OE3.out (own_ne54 OE3.out BK3.out) (.slice A3 (qs.length + 1) c3); have op' := ownsRow_setCell_other (a := ⟨g, 0, none⟩) OP3.out (own_ne54 OP3.out BK3.out) (.slice A3 (qs.length + 1) c3); have OE4 := Aside0.mk ho4; have B4 := Aside0.mk hb4; have OP4 := Aside0.mk (own_other op' hg4 (ne_other (ne_symm N3.out))); have N4 := Aside0.mk (ne_append' N3.out hat4 op'); have bk3 : (w3.setCell ⟨g, 0, none⟩ (.slice A3 (qs.length + 1) c3)).heap[g]? = some (.cells #[.slice A3 (qs.length + 1) c3, .slice A6 qs.length c6] 94 (0, 0)) := blk_put BK3.out 0 _ rfl; have KR4 := Aside0.mk (KeepR.grown ((KeepR.refl w3).set BK3.out 0 (.slice A3 (qs.length + 1) c3)) oe' hg4); have hblk := (hg4.block g (Array.getElem?_eq_some_iff.1 bk3).1 (fun e => own_ne54 oe' bk3 e.symm)).trans bk3; have BK4 := Aside0.mk hblk; have q41 := cell_of_row w4 g 1 _ _ _ hblk; have r41 := frozen_of_row w4 g 1 _ _ hblk; clear hblk ho4 hb4 hg4 hat4 oe' op' bk3))
  go_end0
  have hlen : (qs ++ [(page, entry)]).length = qs.length + 1 := by simp
  have p4 : (w4.setCell ⟨g, 1, none⟩ (.slice A4 (qs.length + 1) c4)).heap[g]? = some (.cells #[.slice A3 (qs.length + 1) c3, .slice A4 (qs.length + 1) c4] 94 (0, 0)) := blk_put BK4.out 1 _ rfl
  have e1 : nums .u32 ((qs ++ [(page, entry)]).map Prod.fst) = nums .u32 (qs.map Prod.fst ++ [page]) := by rw [List.map_append]; rfl
  have e2 : nums .u32 ((qs ++ [(page, entry)]).map Prod.snd) = nums .u32 (qs.map Prod.snd ++ [entry]) := by rw [List.map_append]; rfl
  refine ⟨rfl, B4.out.setCell H2.out.2.1 _, ⟨.slice A3 (qs.length + 1) c3, .slice A4 (qs.length + 1) c4, ?_⟩, ((K2.out.trans KR3.out).trans KR4.out).set BK4.out 1 _⟩
  rw [HPP.out]
  exact ⟨p4, H2.out.2.1, by rw [hlen, e1]; exact ownsRow_setCell_other (a := ⟨g, 1, none⟩) OP4.out (own_ne54 OP4.out BK4.out) _, by rw [hlen, e2]; exact ownsRow_setCell_other (a := ⟨g, 1, none⟩) OE4.out (own_ne54 OE4.out BK4.out) _, N4.out, by rw [hlen]; have := HQL.out; omega⟩

end Go.Proofs.Ytiogbgjeimdgmaa.TlbWalk
