/- The MMU's entry: its contract. -/
import Derived.Test.YtiogbgjeimdgmaaMmuD
namespace Go.Proofs.Ytiogbgjeimdgmaa.MmuWalk
open Go.RowKit Go.Proofs.Ytiogbgjeimdgmaa.Aid Go.Proofs.YtiogbgjeimdgmaaW.PrintWords Go.Proofs.YtiogbgjeimdgmaaW.PrintLast Go.Proofs.YtiogbgjeimdgmaaW.PrintMore
open Go.Proofs.Ytiogbgjeimdgmaa.RamWalk (RamAt Bytes leN leN_bounds get_i get_bus_i)
open Go.Proofs.Ytiogbgjeimdgmaa.TlbWalk (TlbAt Kept2 putP dropP posP entP nil2 get_yes get_no put_call mem_getD putP_mem)
set_option linter.unusedVariables false
set_option linter.unusedSimpArgs false
theorem atE_r (T : Tabs) (va : Int) : R32 (atE T va) := by unfold R32 atE; exact ⟨Int.emod_nonneg _ (by decide), Int.emod_lt_of_pos _ (by decide)⟩
theorem lenum_r {l : List Int} (h : Bytes l) (a : Nat) (ha : a + 4 ≤ l.length) : R32 (leN ((l.drop a).take 4)) := by
  have hb := leN_bounds ((l.drop a).take 4) ((h.drop a).take 4)
  have hl : ((l.drop a).take 4).length = 4 := by rw [List.length_take, List.length_drop]; omega
  rw [hl] at hb
  exact hb
theorem entP_r {W : World} {base : Nat} {L : Loc} {v : Value} {T : Tabs} {ps : List (Int × Int)} {l : List Int} (h : MmuAt W base L v T ps l) (pg : Int) : R32 (entP pg ps) := by
  unfold entP
  split
  · rename_i hp
    exact (h.ents _ (mem_getD ps _ hp)).2
  · exact ⟨by decide, by decide⟩
theorem entry_call (w : World) (base : Nat) (L : Loc) (v : Value) (T : Tabs) (ps : List (Int × Int)) (l : List Int) (va : Int) (u wr keep : Bool) (hv : R32 va) (h : MmuAt w base L v T ps l) :
    Calls Try.prog 80 #[.pointer (some ⟨L.m, 0, none⟩), accV va u wr, .bool keep] w fun e w' => e = .returned (.tuple #[.int .u32 (entryF T ps l va u wr).1, fltV (entryF T ps l va u wr).2]) ∧ MStep w w' base L v T (entryP T ps l va u wr keep) l := by
  have F1 := Aside0.mk (fun W => fault_call W va u wr 1 0 (.inl rfl))
  have F2 := Aside0.mk (fun W => fault_call W va u wr 2 0 (.inl rfl))
  have F3 := Aside0.mk (fun W => fault_call W va u wr 3 0 (.inl rfl))
  unfold accV
  by_cases hin : posP (va / 512) ps < ps.length
  · have hl : lookF T ps l va wr = (entP (va / 512) ps, noF) := by unfold lookF; rw [if_pos hin]
    have hP : entryP T ps l va u wr keep = ps := by unfold entryP; rw [if_neg (fun c => c.2.1 hin)]
    have hxr := entP_r h (va / 512)
    rw [hP]
    unfold entryF
    rw [hl]
    have GT : Aside0 (∀ W, Below w.heap.size w W → Calls Try.prog 84 #[.pointer (some ⟨L.t, 0, none⟩), .int .u32 (va / 512)] W fun e w' => e = .returned (.tuple #[.int .u32 (entP (va / 512) ps), .bool true]) ∧ Below W.heap.size W w') := ⟨fun W hW => by
      have := get_yes W base L.t v ps (va / 512) (h.then hW).tlb hin
      unfold entP; rw [if_pos hin]; exact this⟩
    generalize entP (va / 512) ps = x at *
    rw [if_neg (by simp [noF])]
    cases hm : mayE x u wr
    · rw [if_pos rfl]
      exact (entry_a1 w base L v T ps l va x _ u wr keep h GT ⟨fun W => hm ▸ pmay_call W x u wr hxr⟩ F2).mono fun e w' k => ⟨k.1, MStep.of_below h k.2⟩
    · rw [if_neg (by decide)]
      cases hi : isE x
      · rw [if_pos rfl]
        exact (entry_a2 w base L v T ps l va x _ u wr keep h GT ⟨fun W => hm ▸ pmay_call W x u wr hxr⟩ ⟨fun W => hi ▸ pis_call W x hxr⟩ F3).mono fun e w' k => ⟨k.1, MStep.of_below h k.2⟩
      · rw [if_neg (by decide)]
        exact (entry_a3 w base L v T ps l va x 0 u wr keep h GT ⟨fun W => hm ▸ pmay_call W x u wr hxr⟩ ⟨fun W => hi ▸ pis_call W x hxr⟩).mono fun e w' k => ⟨k.1, MStep.of_below h k.2⟩
  · have hl : lookF T ps l va wr = memF T l va wr := by unfold lookF; rw [if_neg hin]
    have GT : Aside0 (∀ W, Below w.heap.size w W → Calls Try.prog 84 #[.pointer (some ⟨L.t, 0, none⟩), .int .u32 (va / 512)] W fun e w' => e = .returned (.tuple #[.int .u32 0, .bool false]) ∧ Below W.heap.size W w') := ⟨fun W hW => get_no W base L.t v ps (va / 512) (h.then hW).tlb hin⟩
    have PL := Aside0.mk (fun W (hW : Below w.heap.size w W) => place_call W base L v T ps l va u wr hv (h.then hW))
    unfold accV at PL
    unfold entryP entryF
    rw [hl]
    unfold memF
    cases hoff : offE T va
    · rw [hoff] at PL
      simp only [Bool.false_eq_true, if_false] at PL ⊢
      by_cases hb : atE T va + 4 ≤ l.length
      · rw [if_pos hb]
        have ha := atE_r T va
        have hxr := lenum_r h.by_ (atE T va).toNat (by have := ha.1; omega)
        have RG : Aside0 (∀ W, Below w.heap.size w W → Calls Try.prog 41 #[.pointer (some ⟨L.r, 0, none⟩), .int .u32 (atE T va), .int .i64 4] W fun e w' => e = .returned (.tuple #[.int .u32 (leN ((l.drop (atE T va).toNat).take 4)), .int .i64 0]) ∧ W = w') :=
          ⟨fun W hW => get_i W base L.r L.b l.length L.c l h.by_ (atE T va) 4 ha.1 ha.2 (h.then hW).ram (by decide) hb (by decide) _ rfl⟩
        generalize leN ((l.drop (atE T va).toNat).take 4) = x at *
        have e0 : ¬ (((x, noF) : Int × Flt).2.1 ≠ 0) := by simp [noF]
        rw [if_neg e0]
        cases hm : mayE x u wr
        · simp only [if_true]
          rw [if_neg (fun c => absurd (show (2 : Int) = 0 from c.1) (by decide))]
          exact (entry_b2 w base L v T ps l va x _ u wr keep h (atE T va) 0 GT PL RG ⟨fun W => hm ▸ pmay_call W x u wr hxr⟩ F2).mono fun e w' k => ⟨k.1, MStep.of_below h k.2⟩
        · cases hi : isE x
          · simp only [Bool.true_eq_false, if_false, if_true]
            rw [if_neg (fun c => absurd (show (3 : Int) = 0 from c.1) (by decide))]
            exact (entry_b3 w base L v T ps l va x _ u wr keep h (atE T va) 0 GT PL RG ⟨fun W => hm ▸ pmay_call W x u wr hxr⟩ ⟨fun W => hi ▸ pis_call W x hxr⟩ F3).mono fun e w' k => ⟨k.1, MStep.of_below h k.2⟩
          · simp only [Bool.true_eq_false, if_false]
            cases keep
            · rw [if_neg (by simp)]
              exact (entry_b4 w base L v T ps l va x 0 u wr false h (atE T va) 0 GT PL RG ⟨fun W => hm ▸ pmay_call W x u wr hxr⟩ ⟨fun W => hi ▸ pis_call W x hxr⟩).mono fun e w' k => ⟨k.1, MStep.of_below h k.2⟩
            · rw [if_pos ⟨rfl, hin, rfl⟩]
              refine entry_b5 w base L v T ps l va x 0 u wr true h (atE T va) 0 GT PL RG ⟨fun W => hm ▸ pmay_call W x u wr hxr⟩ ⟨fun W => hi ▸ pis_call W x hxr⟩ ⟨fun p hp => ?_⟩
              rcases putP_mem _ _ _ _ hp with hp | rfl
              · exact h.ents p hp
              · exact ⟨by have := hv.1; have := hv.2; show 0 ≤ va / 512 ∧ va / 512 < 8388608; omega, hxr⟩
      · rw [if_neg hb]
        have ha := atE_r T va
        have RG : Aside0 (∀ W, Below w.heap.size w W → Calls Try.prog 41 #[.pointer (some ⟨L.r, 0, none⟩), .int .u32 (atE T va), .int .i64 4] W fun e w' => e = .returned (.tuple #[.int .u32 0, .int .i64 6]) ∧ W = w') :=
          ⟨fun W hW => get_bus_i W base L.r L.b l.length L.c l (atE T va) 4 ha.1 ha.2 (h.then hW).ram (fun c => hb c.2.1)⟩
        have e0 : ((0, flt 1 va 0 wr) : Int × Flt).2.1 ≠ 0 := by simp [flt]
        rw [if_pos e0, if_neg (fun c => e0 c.1)]
        exact (entry_b1 w base L v T ps l va 0 _ u wr keep h (atE T va) 0 GT PL RG F1).mono fun e w' k => ⟨k.1, MStep.of_below h k.2⟩
    · rw [hoff] at PL
      simp only [if_true] at PL ⊢
      have e0 : ((0, flt 2 va 1 wr) : Int × Flt).2.1 ≠ 0 := by simp [flt]
      rw [if_pos e0, if_neg (fun c => e0 c.1)]
      exact (entry_b0 w base L v T ps l va 0 _ u wr keep h 0 0 GT PL).mono fun e w' k => ⟨k.1, MStep.of_below h k.2⟩
end Go.Proofs.Ytiogbgjeimdgmaa.MmuWalk
