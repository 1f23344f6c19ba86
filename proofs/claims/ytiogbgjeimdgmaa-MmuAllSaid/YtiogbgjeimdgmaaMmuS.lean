/- The MMU: alive. -/
import Derived.Test.YtiogbgjeimdgmaaMmuR
namespace Go.Proofs.Ytiogbgjeimdgmaa.MmuWalk
open Go.RowKit Go.Proofs.Ytiogbgjeimdgmaa.Aid Go.Proofs.YtiogbgjeimdgmaaW.PrintWords Go.Proofs.YtiogbgjeimdgmaaW.PrintLast Go.Proofs.YtiogbgjeimdgmaaW.PrintMore
open Go.Proofs.Ytiogbgjeimdgmaa.RamWalk (RamAt Bytes leN new_nat put_i load_n zeros_bytes putL putL_bytes putL_length)
open Go.Proofs.Ytiogbgjeimdgmaa.TlbWalk (TlbAt Kept2 putP dropP posP posP_page entP nil2 own_some own_val own_then)
attribute [local go_sem] max2_int min2_int max_two min_two max_three min_three max_four min_four   -- for this text's walks alone
set_option linter.unusedVariables false
set_option linter.unusedSimpArgs false
theorem ram_below1 {w W W1 : World} {g b n c : Nat} {l : List Int} (h : Below w.heap.size w W) (r : RamAt W w.heap.size g (.slice (some ⟨b, 0, none⟩) n c) l) (k : W.grownBy W1 (some b)) : Below w.heap.size w W1 :=
  ⟨k.os.trans h.os, k.tape.trans h.tape, k.output.trans h.output, Nat.le_trans h.size k.size, fun i hi => (k.block i (Nat.lt_of_lt_of_le hi h.size) (fun e => by have := r.baseb; simp only [Option.some.injEq] at e; omega)).trans (h.block i hi)⟩
theorem r3 : R32 3 := ⟨by decide, by decide⟩
theorem r512 : R32 512 := ⟨by decide, by decide⟩
theorem getA (w0 W : World) (L : Loc) (h : M1 w0 W L tA [] lA) :
    Calls Try.prog 29 #[.pointer (some ⟨L.m, 0, none⟩), .int .u32 3, .int .i64 1, .bool true] W fun e w' => e = .returned (.tuple #[.int .u32 77, .agg #[.int .i64 0, .int .u32 0, .int .u32 0]]) ∧ M1 w0 w' L tA [(0, 2550136832)] lA := by
  refine (qget w0 W L tA [] lA 3 1 true r3 h).mono ?_
  rintro e w' ⟨xs, fk, fv, fi, ps', hp, rfl, m⟩
  obtain ⟨rfl, hf, rfl⟩ := pcsA1 rfl hp
  simp only [Prod.mk.injEq] at hf
  obtain ⟨rfl, rfl, rfl⟩ := hf
  rw [pA1]
  exact ⟨rfl, m⟩
theorem probeA (w0 W : World) (L : Loc) (h : M1 w0 W L tA [(0, 2550136832)] lA) :
    Calls Try.prog 35 #[.pointer (some ⟨L.m, 0, none⟩), .int .u32 512, .int .i64 1, .bool false, .bool true] W fun e w' => e = .returned (.agg #[.int .i64 2, .int .u32 512, .int .u32 5]) ∧ Below w0.heap.size w0 w' ∧ Chg (fun i => w0.heap.size ≤ i ∧ ∃ cs ty fr, W.heap[i]? = some (.cells cs ty fr) ∧ mTy ty) W w' := by
  obtain ⟨b, v, m⟩ := h
  refine (probe_call W _ L v tA _ lA 512 1 false true r512 (by decide) (by decide) m).mono ?_
  rintro e w' ⟨xs, f, ps', hp, rfl, s⟩
  have := pcsA2 hp
  subst this
  refine ⟨rfl, (M1.step b m s).1, s.chg.mono fun i hi => ⟨foot_ge1 m i hi, ?_⟩⟩
  obtain ⟨cs, ty, h1, h2⟩ := m.types i (.inl hi)
  exact ⟨cs, ty, _, h1, h2⟩
set_option maxRecDepth 100000 in
set_option maxHeartbeats 4000000 in
theorem malive_call (w : World) : Calls Try.prog 28 #[] w fun e w' => e = .returned (.bool true) ∧ Below w.heap.size w w' := by
  have lb : (List.replicate 1024 (0 : Int)).length = 1024 := List.length_replicate
  clear lb
  go_enter Try.func28, Try.ntmps28
  go_wp2_with (first
    | (go_at_call 14; refine (new_nat 1024 _ (by decide)).mono ?_; rintro e w1 ⟨gr, b, rfl, hr, hb⟩; have R1 := Aside0.mk hr; have B1 := Aside0.mk hb; clear hr hb)
    | (go_at_call 39; (with_reducible refine (put_i _ _ _ _ _ _ _ 512 4 2550136832 (by decide) (by decide) (by decide) (by decide) R1.out (by decide) (by decide) (by decide)).mono ?_); rintro e w2 ⟨rfl, hr, hg⟩; have R2 := Aside0.mk hr; have B2 := Aside0.mk (ram_below1 B1.out R1.out hg); clear hr hg)
    | (go_at_call 39; (with_reducible refine (put_i _ _ _ _ _ _ _ 3 1 77 (by decide) (by decide) (by decide) (by decide) R2.out (by decide) (by decide) (by decide)).mono ?_); rintro e w3 ⟨rfl, hr, hg⟩; have R3 := Aside0.mk (show RamAt w3 w.heap.size gr (.slice (some ⟨b, 0, none⟩) 1024 1024) lA from hr); have B3 := Aside0.mk (ram_below1 B2.out R2.out hg); clear hr hg)
    | (go_at_call 18; (with_reducible refine (qnew w _ _ _ _ 1024 lA lA_len B3.out R3.out lA_bytes).mono ?_); rintro e w4 ⟨L, rfl, _, hm⟩; have M4 := Aside0.mk hm; clear hm)
    | (go_at_call 20; refine (qset w _ L noT tA [] lA M4.out tA_ok).mono ?_; rintro e w5 ⟨rfl, hm⟩; have M5 := Aside0.mk hm; clear hm)
    | (go_at_call 29; (with_reducible refine (getA w _ L M5.out).mono ?_); rintro e w6 ⟨rfl, hm⟩; have M6 := Aside0.mk (hm.then (below_alloc (Below.refl _ _) (.cells #[.int .i64 0, .int .u32 0, .int .u32 0] 47 (0, 0)))); have Y6 := Aside0.mk (heap_alloc_new w6 (.cells #[.int .i64 0, .int .u32 0, .int .u32 0] 47 (0, 0))); clear hm)
    | (go_at_call 35; (with_reducible refine (probeA w _ L M6.out).mono ?_); rintro e w7 ⟨rfl, hb, hc⟩; have B7 := Aside0.mk hb; have Y7 := Aside0.mk ((hc.block _ (Array.getElem?_eq_some_iff.1 Y6.out).1 (fun ⟨_, cs, ty, fr, h1, h2⟩ => by rw [Y6.out] at h1; simp only [Option.some.injEq, Obj.cells.injEq] at h1; rw [← h1.2.1] at h2; revert h2; unfold mTy; decide)).trans Y6.out); have y0 := fun o => cell_of_row (w7.alloc o) w6.heap.size 0 _ _ _ (row_then Y7.out (below_alloc (Below.refl _ _) o)); have y1 := fun o => cell_of_row (w7.alloc o) w6.heap.size 1 _ _ _ (row_then Y7.out (below_alloc (Below.refl _ _) o)); have y2 := fun o => cell_of_row (w7.alloc o) w6.heap.size 2 _ _ _ (row_then Y7.out (below_alloc (Below.refl _ _) o)); clear hb hc))
  go_ret
  exact ⟨rfl, below_step B7.out (below_alloc (Below.refl _ _) _)⟩
end Go.Proofs.Ytiogbgjeimdgmaa.MmuWalk
