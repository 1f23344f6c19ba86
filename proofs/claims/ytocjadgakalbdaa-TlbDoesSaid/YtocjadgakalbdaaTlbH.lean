/- No buffer at all, asked; the document's buffer (camshaftref04), walked: At, Get, Clear, Drop. -/
import Derived.Test.YtocjadgakalbdaaTlbG
namespace Go.Proofs.Ytocjadgakalbdaa.TlbWalk
open Go.RowKit Go.Proofs.Ytocjadgakalbdaa.Aid Go.Proofs.YtocjadgakalbdaaW.PrintWords Go.Proofs.YtocjadgakalbdaaW.PrintLast Go.Proofs.YtocjadgakalbdaaW.PrintMore
attribute [local go_sem] max2_int min2_int max_two min_two max_three min_three max_four min_four   -- for this text's walks alone
set_option linter.unusedVariables false
set_option linter.unusedSimpArgs false

theorem nil_at (w : World) (page : Int) : Calls Try.prog 32 #[.pointer none, .int .u32 page] w fun e w' => e = .returned (.int .i64 (-1)) ∧ Below w.heap.size w w' := by
  go_enter Try.func32, Try.ntmps32
  go_wp2
  go_ret
  exact ⟨rfl, below_alloc (Below.refl _ _) _⟩
theorem nil_get (w : World) (page : Int) : Calls Try.prog 15 #[.pointer none, .int .u32 page] w fun e w' => e = .returned (.tuple #[.int .u32 0, .bool false]) ∧ Below w.heap.size w w' := by
  go_enter Try.func15, Try.ntmps15
  go_wp2_with (first | (go_at_call 32; (with_reducible refine (nil_at _ _).mono ?_); rintro e w1 ⟨rfl, hb⟩; have B := Aside0.mk hb; clear hb))
  go_ret2
  exact ⟨rfl, B.out⟩
theorem nil_put (w : World) (page entry : Int) : Calls Try.prog 14 #[.pointer none, .int .u32 page, .int .u32 entry] w fun e w' => e = .returned (.tuple #[]) ∧ Below w.heap.size w w' := by
  go_enter Try.func14, Try.ntmps14
  go_wp2_with (first | (go_at_call 32; (with_reducible refine (nil_at _ _).mono ?_); rintro e w1 ⟨rfl, hb⟩; have B := Aside0.mk hb; clear hb))
  go_end0
  exact ⟨rfl, B.out⟩
theorem nil_drop (w : World) (page : Int) : Calls Try.prog 25 #[.pointer none, .int .u32 page] w fun e w' => e = .returned (.tuple #[]) ∧ Below w.heap.size w w' := by
  go_enter Try.func25, Try.ntmps25
  go_wp2_with (first | (go_at_call 32; (with_reducible refine (nil_at _ _).mono ?_); rintro e w1 ⟨rfl, hb⟩; have B := Aside0.mk hb; clear hb))
  go_end0
  exact ⟨rfl, B.out⟩
theorem nil_clear (w : World) : Calls Try.prog 29 #[.pointer none] w fun e w' => e = .returned (.tuple #[]) ∧ w = w' := by
  go_enter Try.func29, Try.ntmps29
  go_wp2
  go_end0
  exact ⟨rfl, rfl⟩
theorem nil_pages (w : World) : Calls Try.prog 21 #[.pointer none] w fun e w' => e = .returned (.slice none 0 0) ∧ w = w' := by
  go_enter Try.func21, Try.ntmps21
  go_wp2
  go_ret
  exact ⟨rfl, rfl⟩

/-- The document's buffer: block g holds its two fields, rows of pages and of entries. -/
def RefAt (W : World) (base g : Nat) (vp ve : Value) (ps : List (Int × Int)) : Prop :=
  W.heap[g]? = some (.cells #[vp, ve] 54 (0, 0)) ∧ base ≤ g ∧ W.ownsRow base 22 1 vp ps.length (nums .u32 (ps.map Prod.fst)) ∧ W.ownsRow base 22 1 ve ps.length (nums .u32 (ps.map Prod.snd)) ∧ NeRow vp ve ∧ ps.length ≤ 8
theorem RefAt.then {W W' : World} {base g : Nat} {vp ve : Value} {ps : List (Int × Int)} (h : RefAt W base g vp ve ps) (k : Below W.heap.size W W') : RefAt W' base g vp ve ps :=
  ⟨(k.block g (Array.getElem?_eq_some_iff.1 h.1).1).trans h.1, h.2.1, own_then h.2.2.1 k, own_then h.2.2.2.1 k, h.2.2.2.2⟩
theorem RefAt.lt {W : World} {base g : Nat} {vp ve : Value} {ps : List (Int × Int)} (h : RefAt W base g vp ve ps) : g < W.heap.size := (Array.getElem?_eq_some_iff.1 h.1).1
theorem RefAt.f0 {W : World} {base g : Nat} {vp ve : Value} {ps : List (Int × Int)} (h : RefAt W base g vp ve ps) : W.cell? ⟨g, 0, none⟩ = some vp := cell_of_row W g 0 _ _ _ h.1
theorem RefAt.f1 {W : World} {base g : Nat} {vp ve : Value} {ps : List (Int × Int)} (h : RefAt W base g vp ve ps) : W.cell? ⟨g, 1, none⟩ = some ve := cell_of_row W g 1 _ _ _ h.1
theorem RefAt.fr {W : World} {base g : Nat} {vp ve : Value} {ps : List (Int × Int)} (h : RefAt W base g vp ve ps) (j : Nat) : W.frozen? ⟨g, j, none⟩ = false := frozen_of_row W g j _ _ h.1
theorem RefAt.op {W : World} {base g : Nat} {vp ve : Value} {ps : List (Int × Int)} (h : RefAt W base g vp ve ps) : W.ownsRow base 22 1 vp ps.length (nums .u32 (ps.map Prod.fst)) := h.2.2.1
theorem RefAt.oe {W : World} {base g : Nat} {vp ve : Value} {ps : List (Int × Int)} (h : RefAt W base g vp ve ps) : W.ownsRow base 22 1 ve ps.length (nums .u32 (ps.map Prod.snd)) := h.2.2.2.1

theorem map_fst_getD (ps : List (Int × Int)) (k : Nat) (hk : k < ps.length) : (ps.map Prod.fst).getD k 0 = (ps.getD k nil2).1 := by
  rw [List.getD_eq_getElem?_getD, List.getElem?_map, List.getElem?_eq_getElem hk, List.getD_eq_getElem?_getD, List.getElem?_eq_getElem hk]; rfl
theorem map_snd_getD (ps : List (Int × Int)) (k : Nat) (hk : k < ps.length) : (ps.map Prod.snd).getD k 0 = (ps.getD k nil2).2 := by
  rw [List.getD_eq_getElem?_getD, List.getElem?_map, List.getElem?_eq_getElem hk, List.getD_eq_getElem?_getD, List.getElem?_eq_getElem hk]; rfl

theorem rat_call (w : World) (base g : Nat) (vp ve : Value) (ps : List (Int × Int)) (page : Int) (h : RefAt w base g vp ve ps) :
    Calls Try.prog 36 #[.pointer (some ⟨g, 0, none⟩), .int .u32 page] w fun e w' => e = .returned (.int .i64 (atI page ps)) ∧ w = w' := by
  have hf := h.f0
  have hl := h.2.2.2.2.2
  obtain ⟨A, c, rfl⟩ := own_val h.op
  have RD := Aside0.mk (own_reads' h.op)
  clear h
  go_enter Try.func36, Try.ntmps36
  go_wp2
  go_loopw [12] (fun i wr => ∃ k : Nat, k ≤ ps.length ∧ i = .int .i64 k ∧ w = wr ∧ Aside0 (∀ j, j < k → (ps.getD j nil2).1 ≠ page)) (fun i _ => ps.length - (intOf i).toNat)
  case atStart => exact ⟨0, Nat.zero_le _, rfl, rfl, ⟨fun j hj => absurd hj (Nat.not_lt_zero _)⟩⟩
  case round =>
    obtain ⟨k, hk, rfl, rfl, hn⟩ := hrel
    by_cases hkn : k = ps.length
    · go_wp2
      go_ret
      refine ⟨?_, rfl⟩
      have e : atI page ps = -1 := by
        unfold atI
        rw [posP_none page ps (fun j hj => hn.out j (by omega)), if_neg (Nat.lt_irrefl _)]
      rw [e]
      rfl
    · have hk' : k < ps.length := by omega
      obtain ⟨ad, rfl, hc⟩ := RD.out.2.2 (by omega)
      have c0 := hc k hk'
      rw [map_fst_getD ps k hk'] at c0
      clear hc
      generalize hy1 : (ps.getD k nil2).1 = y1 at *
      have HY1 := Aside0.mk hy1
      clear hy1
      by_cases he : y1 = page
      · subst he
        have e : atI y1 ps = k := by
          unfold atI
          rw [posP_at y1 ps k hk' HY1.out hn.out, if_pos hk']
        have E := Aside0.mk e
        clear e
        go_wp2
        go_ret
        refine ⟨?_, rfl⟩
        rw [E.out]
        rfl
      · have he' : (y1 == page) = false := beq_eq_false_iff_ne.mpr he
        go_wp2
        go_roundw
        case rel =>
          refine ⟨k + 1, by omega, rfl, trivial, ⟨fun j hj => ?_⟩⟩
          by_cases hjk : j = k
          · subst hjk; rw [HY1.out]; exact he
          · exact hn.out j (by omega)
        case measure => simp [intOf]; omega

theorem rget_call (w : World) (base g : Nat) (vp ve : Value) (ps : List (Int × Int)) (page : Int) (h : RefAt w base g vp ve ps) :
    Calls Try.prog 26 #[.pointer (some ⟨g, 0, none⟩), .int .u32 page] w fun e w' => e = .returned (.tuple #[.int .u32 (entP page ps), .bool (decide (posP page ps < ps.length))]) ∧ w = w' := by
  have A := rat_call w base g vp ve ps page h
  have hf := h.f1
  obtain ⟨A1, c, rfl⟩ := own_val h.oe
  unfold atI at A
  unfold entP
  by_cases hp : posP page ps < ps.length
  · rw [if_pos hp] at A ⊢
    rw [decide_eq_true hp]
    have A' := Aside0.mk A
    obtain ⟨ad, rfl, hc⟩ := (own_reads' h.oe).2.2 (by omega)
    have c0 := hc (posP page ps) hp
    rw [map_snd_getD ps _ hp] at c0
    clear A hc h
    generalize (ps.getD (posP page ps) nil2).2 = y at *
    generalize posP page ps = i at *
    go_enter Try.func26, Try.ntmps26
    go_wp2_with (first | (go_at_call 36; (with_reducible refine (A'.out).mono ?_); rintro e w1 ⟨rfl, rfl⟩))
    go_ret2
    exact ⟨rfl, rfl⟩
  · rw [if_neg hp] at A ⊢
    rw [decide_eq_false hp]
    have A' := Aside0.mk A
    clear A h
    go_enter Try.func26, Try.ntmps26
    go_wp2_with (first | (go_at_call 36; (with_reducible refine (A'.out).mono ?_); rintro e w1 ⟨rfl, rfl⟩))
    go_ret2
    exact ⟨rfl, rfl⟩
end Go.Proofs.Ytocjadgakalbdaa.TlbWalk
