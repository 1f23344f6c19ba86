/- The fetch queue's Take over one state; alive. -/
import Derived.Test.YtiogbgjeimdgmaaFetE
namespace Go.Proofs.Ytiogbgjeimdgmaa.MmuWalk
open Go.RowKit Go.Proofs.Ytiogbgjeimdgmaa.Aid Go.Proofs.YtiogbgjeimdgmaaW.PrintWords Go.Proofs.YtiogbgjeimdgmaaW.PrintLast Go.Proofs.YtiogbgjeimdgmaaW.PrintMore
open Go.Proofs.Ytiogbgjeimdgmaa.RamWalk (RamAt Bytes leN clone_n bytes_n new_nat put_i load_n own_cell zeros_bytes putL putL_bytes)
open Go.Proofs.Ytiogbgjeimdgmaa.TlbWalk (TlbAt Kept2 putP dropP posP entP nil2 own_val own_some)
attribute [local go_sem] max2_int min2_int max_two min_two max_three min_three max_four min_four   -- for this text's walks alone
set_option linter.unusedVariables false
set_option linter.unusedSimpArgs false
theorem ram_below {w W W1 : World} {g b n c : Nat} {l : List Int} (h : Below w.heap.size w W) (r : RamAt W w.heap.size g (.slice (some ⟨b, 0, none⟩) n c) l) (k : W.grownBy W1 (some b)) : Below w.heap.size w W1 :=
  ⟨k.os.trans h.os, k.tape.trans h.tape, k.output.trans h.output, Nat.le_trans h.size k.size, fun i hi => (k.block i (Nat.lt_of_lt_of_le hi h.size) (fun e => by have := r.baseb; simp only [Option.some.injEq] at e; omega)).trans (h.block i hi)⟩
theorem ptake_have (w0 W : World) (L : Loc) (T : Tabs) (ps : List (Int × Int)) (l : List Int) (q : Nat) (pc : Int) (u : Bool) (bs : List Int) (f : Flt) (n : Nat) (m : Int) (hm : (n : Int) = m) (h : FP w0 W L T ps l q pc u bs f) (h1 : 0 < bs.length) (hn : n ≤ bs.length) (hl : bs.length ≤ 16) :
    Calls Try.prog 25 #[.pointer (some ⟨q, 0, none⟩), .int .i64 m] W fun e w' => ∃ b1 c1, e = .returned (.tuple #[.slice (some ⟨b1, 0, none⟩) n c1, (.agg #[.int .i64 0, .int .u32 0, .int .u32 0]), .bool true]) ∧ w'.ownsRow W.heap.size 5 1 (.slice (some ⟨b1, 0, none⟩) n c1) n (nums .u8 (bs.take n)) ∧ FP w0 w' L T ps l q pc u (bs.drop n) f := by
  subst hm
  obtain ⟨b, v, vb, k, k2, s⟩ := h
  obtain ⟨b2, c2, rfl⟩ : ∃ b2 c2, vb = .slice (some ⟨b2, 0, none⟩) bs.length c2 := by
    have := k2.row
    obtain ⟨j, hj⟩ : ∃ j, bs.length = j + 1 := ⟨bs.length - 1, by omega⟩
    rw [hj] at this
    obtain ⟨b2, c2, e⟩ := own_some this
    exact ⟨b2, c2, by rw [e, hj]⟩
  refine (take_have W _ q L.m pc u _ c2 n bs f k2 hn (by omega) hl).mono ?_
  rintro e w' ⟨b1, c1, v2, rfl, o, k3, n2, c⟩
  exact ⟨b1, c1, rfl, o, FP.of b k k2 (FStep.of (MStep.of_below k (Below.refl _ _)) k2 s k3 n2 (c.mono (fun i hi => .inl hi)))⟩
theorem ptake_none (w0 W : World) (L : Loc) (T : Tabs) (ps : List (Int × Int)) (l : List Int) (q : Nat) (pc : Int) (u : Bool) (bs : List Int) (f : Flt) (m : Int) (h : FP w0 W L T ps l q pc u bs f) (hn : ¬ m ≤ bs.length) (h16 : m ≤ 16) :
    Calls Try.prog 25 #[.pointer (some ⟨q, 0, none⟩), .int .i64 m] W fun e w' => e = .returned (.tuple #[.slice none 0 0, .agg #[.int .i64 f.1, .int .u32 f.2.1, .int .u32 f.2.2], .bool (f.1 != 0)]) ∧ FP w0 w' L T ps l q pc u bs f ∧ Below W.heap.size W w' := by
  have h0 := h
  obtain ⟨b, v, vb, k, k2, s⟩ := h
  obtain ⟨A, c, rfl⟩ := q_val k2
  obtain ⟨fk, fv, fi⟩ := f
  refine (take_none W _ q L.m pc fk fv fi u A c bs.length m bs k2 hn h16).mono ?_
  rintro e w' ⟨rfl, hb⟩
  exact ⟨rfl, h0.then hb, hb⟩
theorem pmnew (w0 W : World) (gr b c n : Nat) (l : List Int) (hn : l.length = n) (bW : Below w0.heap.size w0 W) (h : RamAt W w0.heap.size gr (.slice (some ⟨b, 0, none⟩) n c) l) (hb : Bytes l) :
    Calls Try.prog 18 #[.pointer (some ⟨gr, 0, none⟩)] W fun e w' => ∃ L : Loc, e = .returned (.pointer (some ⟨L.m, 0, none⟩)) ∧ L.r = gr ∧ MP w0 w' L noT [] l := by
  subst hn
  refine (mnew_call W _ gr b c l h hb).mono ?_
  rintro e w' ⟨m, t, rfl, k, hb', _, _⟩
  exact ⟨_, rfl, rfl, below_step bW hb', _, k⟩
theorem bytes7 : Bytes [7] := fun x hx => by
  rw [List.mem_singleton] at hx
  subst hx
  decide
theorem r32_0 : R32 0 := ⟨by decide, by decide⟩
theorem r32_1 : R32 1 := ⟨by decide, by decide⟩
theorem good0 : goodF noF := fun _ => rfl
theorem cyc0 : cycF noT [] [7] 0 false [] noF = (1, [7], noF) := by decide
theorem cyc1 : cycF noT [] [7] 1 false [7] noF = (1, [7], (1, 1, 0)) := by decide
set_option maxRecDepth 100000 in
set_option maxHeartbeats 4000000 in
theorem falive_call (w : World) : Calls Try.prog 13 #[] w fun e w' => e = .returned (.bool true) ∧ Below w.heap.size w w' := by
  go_enter Try.func13, Try.ntmps13
  go_wp2_with (first
    | (go_at_call 14; refine (new_nat 1 _ (by decide)).mono ?_; rintro e w1 ⟨gr, b, rfl, hr, hb⟩; have R1 := Aside0.mk hr; have B1 := Aside0.mk hb; clear hr hb)
    | (go_at_call 39; (with_reducible refine (put_i _ _ _ _ _ _ _ 0 1 7 (by decide) (by decide) (by decide) (by decide) R1.out (by decide) (by decide) (by decide)).mono ?_); rintro e w2 ⟨rfl, hr, hg⟩; have R2 := Aside0.mk (show RamAt w2 w.heap.size gr (.slice (some ⟨b, 0, none⟩) 1 1) [7] from hr); have B2 := Aside0.mk (ram_below B1.out R1.out hg); clear hr hg)
    | (go_at_call 18; (with_reducible refine (pmnew w _ _ _ _ 1 [7] rfl B2.out R2.out bytes7).mono ?_); rintro e w3 ⟨L, rfl, _, hm⟩; have M3 := Aside0.mk hm; clear hm)
    | (go_at_call 21; (with_reducible refine (pnew _ _ _ _ _ _ M3.out).mono ?_); rintro e w4 ⟨q, rfl, hf⟩; have F4 := Aside0.mk hf; clear hf)
    | (go_at_call 23; (with_reducible refine (pcycle _ _ _ _ _ _ _ _ _ _ _ F4.out r32_0 good0).mono ?_); rintro e w5 ⟨rfl, hf⟩; rw [cyc0] at hf; have F5 := Aside0.mk hf; clear hf)
    | (go_at_call 23; (with_reducible refine (pcycle _ _ _ _ _ _ _ _ _ _ _ F5.out r32_1 good0).mono ?_); rintro e w6 ⟨rfl, hf⟩; rw [cyc1] at hf; have F6 := Aside0.mk hf; clear hf)
    | (go_at_call 25; (with_reducible refine (ptake_have _ _ _ _ _ _ _ _ _ _ _ 1 1 rfl F6.out (by decide) (by decide) (by decide)).mono ?_); rintro e w7 ⟨b1, c1, rfl, ho, hf⟩; have F7 := Aside0.mk (fun o => hf.then (below_alloc (Below.refl _ _) o)); have O7 := Aside0.mk (show w7.cell? ⟨b1, 0, none⟩ = some (.int .u8 7) from own_cell ho (i := 0) (by decide)); have L7 := Aside0.mk (World.block_lt_of_cell? w7 _ O7.out); clear hf ho)
    | (go_at_call 25; (with_reducible refine (ptake_none _ _ _ _ _ _ _ _ _ _ _ 1 (F7.out _) (by decide) (by decide)).mono ?_); rintro e w8 ⟨rfl, hf, hb⟩; have F8 := Aside0.mk hf; have HB := Aside0.mk hb; clear hf hb; have e0 := fun o => ((below_step (below_step (below_alloc (Below.refl _ _) _) HB.out) (below_alloc (Below.refl _ _) o)).cell (p := ⟨b1, 0, none⟩) L7.out).trans O7.out; have x0 := fun o j => cell_of_row (w8.alloc o) w7.heap.size j _ _ _ (row_then (heap_alloc_new w7 _) (below_step HB.out (below_alloc (Below.refl _ _) o)))))
  go_ret
  exact ⟨rfl, below_step F8.out.1 (below_alloc (Below.refl _ _) _)⟩
end Go.Proofs.Ytiogbgjeimdgmaa.MmuWalk
