/- The fetch queue's Cycle: its contract; Take, walked. -/
import Derived.Test.YtiogbgjeimdgmaaFetC
namespace Go.Proofs.Ytiogbgjeimdgmaa.MmuWalk
open Go.RowKit Go.Proofs.Ytiogbgjeimdgmaa.Aid Go.Proofs.YtiogbgjeimdgmaaW.PrintWords Go.Proofs.YtiogbgjeimdgmaaW.PrintLast Go.Proofs.YtiogbgjeimdgmaaW.PrintMore
open Go.Proofs.Ytiogbgjeimdgmaa.RamWalk (RamAt Bytes leN clone_n)
open Go.Proofs.Ytiogbgjeimdgmaa.TlbWalk (TlbAt Kept2 putP dropP posP entP nil2 own_val)
attribute [local go_sem] max2_int min2_int max_two min_two max_three min_three max_four min_four   -- for this text's walks alone
set_option linter.unusedVariables false
set_option linter.unusedSimpArgs false
/-- What Cycle makes of a queue. -/
def cycF (T : Tabs) (ps : List (Int × Int)) (l : List Int) (pc : Int) (u : Bool) (bs : List Int) (f : Flt) : Int × List Int × Flt :=
  if 16 ≤ bs.length ∨ f.1 ≠ 0 then (pc, bs, f) else if (peekF T ps l pc u).2.1 ≠ 0 then (pc, bs, (peekF T ps l pc u).2) else ((pc + 1) % 4294967296, bs ++ [(peekF T ps l pc u).1], f)
def goodF (f : Flt) : Prop := f.1 = 0 → f = noF
theorem peekF_good {T : Tabs} {ps : List (Int × Int)} {l : List Int} {va : Int} {u : Bool} : goodF (peekF T ps l va u).2 := by
  intro h
  unfold peekF at h ⊢
  split at h
  · rename_i hk; exact absurd h hk
  · rename_i hk; rw [if_neg hk]
theorem peekF_zero {T : Tabs} {ps : List (Int × Int)} {l : List Int} {va : Int} {u : Bool} (h : (peekF T ps l va u).2.1 ≠ 0) : (peekF T ps l va u).1 = 0 := by
  unfold peekF at h ⊢
  split at h
  · rename_i hk; rw [if_pos hk]
  · exact absurd rfl h
theorem cycF_good {T : Tabs} {ps : List (Int × Int)} {l : List Int} {pc : Int} {u : Bool} {bs : List Int} {f : Flt} (h : goodF f) : goodF (cycF T ps l pc u bs f).2.2 := by
  unfold cycF
  split
  · exact h
  · split
    · exact peekF_good
    · exact h
theorem cycF_pc {T : Tabs} {ps : List (Int × Int)} {l : List Int} {pc : Int} {u : Bool} {bs : List Int} {f : Flt} (h : R32 pc) : R32 (cycF T ps l pc u bs f).1 := by
  unfold cycF
  split
  · exact h
  · split
    · exact h
    · exact ⟨Int.emod_nonneg _ (by decide), Int.emod_lt_of_pos _ (by decide)⟩
theorem q_val {W : World} {base q m : Nat} {pc : Int} {u : Bool} {vb : Value} {bs : List Int} {f : Flt} (h : QAt W base q m pc u vb bs f) : ∃ A c, vb = .slice A bs.length c := own_val h.row
theorem cycle_call (w : World) (base q : Nat) (L : Loc) (v : Value) (T : Tabs) (ps : List (Int × Int)) (l : List Int) (pc : Int) (u : Bool) (vb : Value) (bs : List Int) (f : Flt) (hm : MmuAt w base L v T ps l) (h : QAt w base q L.m pc u vb bs f) (sep : vb.ownBlock ≠ some L.b) (hpc : R32 pc) (hf : goodF f) :
    Calls Try.prog 23 #[.pointer (some ⟨q, 0, none⟩)] w fun e w' => e = .returned (.tuple #[]) ∧ FStep w w' base L v T ps l q vb (cycF T ps l pc u bs f).1 u (cycF T ps l pc u bs f).2.1 (cycF T ps l pc u bs f).2.2 := by
  obtain ⟨A, c, rfl⟩ := q_val h
  have same : FStep w w base L v T ps l q (.slice A bs.length c) pc u bs f := FStep.of (MStep.of_below hm (Below.refl _ _)) h sep h (NextRow.same _ _) (Chg.refl _ _)
  unfold cycF
  by_cases h16 : 16 ≤ bs.length
  · rw [if_pos (.inl h16)]
    refine (cycle_full w base q L.m pc u A bs.length c bs f h h16).mono ?_
    rintro e w' ⟨rfl, rfl⟩
    exact ⟨rfl, same⟩
  · by_cases hk : f.1 = 0
    · have := hf hk
      subst this
      rw [if_neg (fun c => c.elim h16 (fun k => k rfl))]
      have PK := Aside0.mk (fun W v' (k : MmuAt W base L v' T ps l) => peek_call W base L v' T ps l pc u hpc k)
      have hg := @peekF_good T ps l pc u
      have hz := @peekF_zero T ps l pc u
      generalize peekF T ps l pc u = r at *
      obtain ⟨y, fk, fv, fi⟩ := r
      by_cases hk2 : fk = 0
      · have := hg hk2
        simp only [noF, Prod.mk.injEq] at this
        obtain ⟨rfl, rfl, rfl⟩ := this
        rw [if_neg (fun c => c rfl)]
        exact cycle_byte w base q L v T ps l pc u A c bs hm h (by omega) sep y PK
      · rw [if_pos hk2]
        have hz := hz hk2
        simp only at hz
        subst hz
        exact cycle_flt w base q L v T ps l pc u A c bs hm h (by omega) sep fk fv fi (beq_eq_false_iff_ne.mpr hk2) PK
    · rw [if_pos (.inr hk)]
      obtain ⟨fk, fv, fi⟩ := f
      refine (cycle_stop w base q L.m pc fk fv fi u A bs.length c bs h (by omega) (beq_eq_false_iff_ne.mpr hk)).mono ?_
      rintro e w' ⟨rfl, rfl⟩
      exact ⟨rfl, same⟩
theorem results_tct {P : Program} {fn : Func} {p u v : Tmp} {ty : TypeId} (h : fn.results = #[.tmp u, .cell p ty, .tmp v]) (tmps : Array Value) (w : World) (g : Nat) (t : TypeId) (cs : Array Value) (fr : Nat × Nat) (d : TypeDesc)
    (hp : tmps.getD p undef = .pointer (some ⟨g, 0, none⟩)) (hg : w.heap[g]? = some (.cells cs t fr))
    (hu : P.underlying ty = some d) (hd : (match d with | .struct _ | .array _ _ => true | _ => false) = true) (hi : (P.info? ty).map (·.size) = some cs.size) :
    (results fn tmps).run P w = .ok (.tuple #[tmps.getD u undef, .agg cs, tmps.getD v undef]) w := by
  have hp' : tmps[p]?.getD undef = .pointer (some ⟨g, 0, none⟩) := by simpa using hp
  simp [results, h, hp', asAddr, run_loadVar_row w g t ty cs fr d hg hu hd hi]
theorem take_end {w W w1 w2 : World} {base q m : Nat} {pc : Int} {u : Bool} {vb v2 : Value} {bs bs2 : List Int} {f : Flt} {b1 c1 n n2 : Nat} {X : List Value} {a b c : Value} (h : QAt w base q m pc u vb bs f) (bW : Below w.heap.size w W) (hs : w.heap.size < W.heap.size) (hx : W.heap[w.heap.size]? = some (.cells #[a, b, c] 47 (0, 0)))
    (k1 : Below W.heap.size W w1) (o1 : w1.ownsRow W.heap.size 5 1 (.slice (some ⟨b1, 0, none⟩) n c1) n X) (k2 : Below w1.heap.size w1 w2) (o2 : w2.ownsRow w1.heap.size 5 1 v2 n2 (nums .u8 bs2)) (hl : bs2.length = n2) (z : Array Value) :
    ((w2.setCell ⟨q, 3, none⟩ v2).setRow w.heap.size z).ownsRow w.heap.size 5 1 (.slice (some ⟨b1, 0, none⟩) n c1) n X ∧ QAt ((w2.setCell ⟨q, 3, none⟩ v2).setRow w.heap.size z) base q m pc u v2 bs2 f ∧ NextRow w vb v2 ∧ Chg (fun i => i = q) w ((w2.setCell ⟨q, 3, none⟩ v2).setRow w.heap.size z) ∧
    (w2.setCell ⟨q, 3, none⟩ v2).heap[w.heap.size]? = some (.cells #[a, b, c] 47 (0, 0)) ∧ w2.cell? ⟨q, 3, none⟩ = some vb ∧ w2.frozen? ⟨q, 3, none⟩ = false := by
  subst hl
  have hq := h.lt
  have b2 : Below w.heap.size w w2 := below_step (below_step bW k1) k2
  have hb : w2.heap[q]? = some (.cells (qCells m pc u vb f) 109 (0, 0)) := (h.then b2).blk
  have e : ∀ i, i ≠ q → i ≠ w.heap.size → ((w2.setCell ⟨q, 3, none⟩ v2).setRow w.heap.size z).heap[i]? = w2.heap[i]? := fun i h1 h2 => (setRow_other _ w.heap.size i z h2).trans (Below.heap_setCell w2 ⟨q, 3, none⟩ v2 i h1)
  have hw1 := k1.size
  have l1 : ∀ i, (Value.slice (some ⟨b1, 0, none⟩) n c1).ownBlock = some i → W.heap.size ≤ i ∧ i < w1.heap.size := fun i hi => by
    rcases o1.2 with ⟨hv, _⟩ | ⟨b', c', cur, hv, hb', hh, _⟩
    · simp at hv
    · simp only [Value.slice.injEq, Option.some.injEq, Addr.mk.injEq, and_true, true_and] at hv
      simp only [Value.ownBlock, Option.some.injEq] at hi
      have := (Array.getElem?_eq_some_iff.1 hh).1
      omega
  have l2 : ∀ i, v2.ownBlock = some i → w1.heap.size ≤ i := fun i hi => by
    rcases o2.2 with ⟨rfl, _⟩ | ⟨b', c', cur, rfl, hb', _⟩
    · simp [Value.ownBlock] at hi
    · simp only [Value.ownBlock, Option.some.injEq] at hi
      omega
  refine ⟨own_less (own_keep o1 (fun i hi => (e i (by have := l1 i hi; omega) (by have := l1 i hi; omega)).trans (k2.block i (l1 i hi).2))) (Nat.le_of_lt hs), ⟨?_, h.ge, own_less (own_keep o2 (fun i hi => e i (by have := l2 i hi; omega) (by have := l2 i hi; omega))) (by have := h.ge; omega)⟩, fun i hi => .inr (by have := l2 i hi; omega), ⟨b2.os, b2.tape, b2.output, ?_, fun i hi hf => (e i hf (by omega)).trans (b2.block i hi)⟩, ?_, cell_of_row _ _ 3 _ _ _ hb, frozen_of_row _ _ 3 _ _ hb⟩
  · exact (setRow_other _ w.heap.size q z (by omega)).trans (blk_put hb 3 v2 rfl)
  · simpa [World.setRow, World.setCell] using b2.size
  · exact (Below.heap_setCell w2 ⟨q, 3, none⟩ v2 w.heap.size (by show w.heap.size ≠ q; omega)).trans (row_then (row_then hx k1) k2)
set_option maxRecDepth 100000 in
set_option maxHeartbeats 2000000 in
theorem take_off (w : World) (q : Nat) (n : Int) (h : n < 0 ∨ 16 < n) : Calls Try.prog 25 #[.pointer (some ⟨q, 0, none⟩), .int .i64 n] w fun e w' => e = .returned (.tuple #[.slice none 0 0, fltV noF, .bool false]) ∧ Below w.heap.size w w' := by
  rcases h with h | h
  all_goals
    go_enter Try.func25, Try.ntmps25
    go_wp2_with (first
      | (refine wpList_store_row rfl 47 (.tmp 5) (.tmp 19) rfl w.heap.size #[.int .i64 0, .int .u32 0, .int .u32 0] rfl rfl _ _ (heap_alloc_new w _) infoF rfl (by kernel_rfl) ?_))
    refine bodyPost_ret (results_tct rfl _ _ w.heap.size 47 #[.int .i64 0, .int .u32 0, .int .u32 0] (0, 0) _ rfl (setRow_heap _ _ _ _ 47 _ (heap_alloc_new w _)) Try.underlying47 rfl infoF) rfl ⟨rfl, below_setRow (below_alloc (Below.refl _ _) _) (Nat.le_refl _) _⟩
set_option maxRecDepth 100000 in
set_option maxHeartbeats 2000000 in
theorem take_have (w : World) (base q m : Nat) (pc : Int) (u : Bool) (ad : Addr) (c n : Nat) (bs : List Int) (f : Flt) (h : QAt w base q m pc u (.slice (some ad) bs.length c) bs f) (hn : n ≤ bs.length) (h16 : n ≤ 16) (hl : bs.length ≤ 16) :
    Calls Try.prog 25 #[.pointer (some ⟨q, 0, none⟩), .int .i64 n] w fun e w' => ∃ b1 c1 v2, e = .returned (.tuple #[.slice (some ⟨b1, 0, none⟩) n c1, fltV noF, .bool true]) ∧
      w'.ownsRow w.heap.size 5 1 (.slice (some ⟨b1, 0, none⟩) n c1) n (nums .u8 (bs.take n)) ∧ QAt w' base q m pc u v2 (bs.drop n) f ∧ NextRow w (.slice (some ad) bs.length c) v2 ∧ Chg (fun i => i = q) w w' := by
  have RI := own_reads' h.row
  have hc : bs.length ≤ c := own_le h.row
  have H := Aside0.mk h
  have BX := box1 w (.cells #[.int .i64 0, .int .u32 0, .int .u32 0] 47 (0, 0))
  have hsz : (w.alloc (.cells #[.int .i64 0, .int .u32 0, .int .u32 0] 47 (0, 0))).heap.size = w.heap.size + 1 := by simp [World.alloc_eq]
  obtain ⟨W, hW⟩ : ∃ W, w.alloc (.cells #[.int .i64 0, .int .u32 0, .int .u32 0] 47 (0, 0)) = W := ⟨_, rfl⟩
  rw [hW] at BX hsz
  have BX := Aside0.mk BX
  have c3 : W.cell? ⟨q, 3, none⟩ = some (.slice (some ad) bs.length c) := (h.then BX.out.1).cell 3
  have CL1 := Aside0.mk (clone_n W ad n c (bs.take n) (by rw [List.length_take]; omega) ((RI.below BX.out.1).take_ n hn) (by omega))
  have CL2 := Aside0.mk (fun w1 (k : Below W.heap.size W w1) => (RI.below (below_step BX.out.1 k)).drop_ n hn hc)
  have hn1 : (n : Int) ≤ bs.length := by omega
  have hn0 : ¬ (n : Int) < 0 := by omega
  have hn5 : ¬ 16 < (n : Int) := by omega
  have hn2 : (n : Int) ≤ 16 := by omega
  have hn3 : (n : Int) ≤ c := by omega
  have hn4 : (bs.length : Int) ≤ c := by omega
  have LD := Aside0.mk (show (bs.drop n).length = bs.length - n by rw [List.length_drop])
  have L16 := Aside0.mk hl
  have HSZ := Aside0.mk hsz
  clear h RI hsz hl
  have CLa : Aside0 (c = n → ∀ w1, Below W.heap.size W w1 → ReadsInt w1 .u8 (some ad) (bs.length - n) (bs.drop n)) := ⟨fun e w1 k => by have := CL2.out w1 k; rwa [if_pos e] at this⟩
  have CLb : Aside0 (¬ c = n → ∀ w1, Below W.heap.size W w1 → ReadsInt w1 .u8 (some (ad.add n)) (bs.length - n) (bs.drop n)) := ⟨fun e w1 k => by have := CL2.out w1 k; rwa [if_neg e] at this⟩
  clear CL2
  go_enter Try.func25, Try.ntmps25
  go_wp2_with (first
    | (go_at_call 64; (with_reducible refine (CL1.out).mono ?_); rintro e w1 ⟨b1, c1, rfl, o1, k1⟩; have O1 := Aside0.mk o1; have K1 := Aside0.mk k1; have c3' : w1.cell? ⟨q, 3, none⟩ = some (.slice (some ad) bs.length c) := (H.out.then (below_step BX.out.1 k1)).cell 3; clear o1 k1)
    | (go_at_call 64; (with_reducible refine (clone_n _ ad (bs.length - n) 0 (bs.drop n) LD.out (CLa.out (by assumption) _ K1.out) (by have := L16.out; omega)).mono ?_); rintro e w2 ⟨b2, c2, rfl, o2, k2⟩; have TE := Aside0.mk (take_end H.out BX.out.1 (by have := HSZ.out; omega) BX.out.2 K1.out O1.out k2 o2 LD.out #[.int .i64 0, .int .u32 0, .int .u32 0]); have q3 := TE.out.2.2.2.2.2.1; have q4 := TE.out.2.2.2.2.2.2; clear o2 k2)
    | (go_at_call 64; (with_reducible refine (clone_n _ (ad.add n) (bs.length - n) (c - n) (bs.drop n) LD.out (CLb.out (by assumption) _ K1.out) (by have := L16.out; omega)).mono ?_); rintro e w2 ⟨b2, c2, rfl, o2, k2⟩; have TE := Aside0.mk (take_end H.out BX.out.1 (by have := HSZ.out; omega) BX.out.2 K1.out O1.out k2 o2 LD.out #[.int .i64 0, .int .u32 0, .int .u32 0]); have q3 := TE.out.2.2.2.2.2.1; have q4 := TE.out.2.2.2.2.2.2; clear o2 k2)
    | (refine wpList_store_row rfl 47 (.tmp 5) (.tmp 46) rfl w.heap.size #[.int .i64 0, .int .u32 0, .int .u32 0] rfl rfl _ _ TE.out.2.2.2.2.1 infoF rfl (by kernel_rfl) ?_))
  all_goals refine bodyPost_ret (results_tct rfl _ _ w.heap.size 47 #[.int .i64 0, .int .u32 0, .int .u32 0] (0, 0) _ rfl (setRow_heap _ _ _ _ 47 _ TE.out.2.2.2.2.1) Try.underlying47 rfl infoF) rfl ⟨b1, c1, _, rfl, TE.out.1, TE.out.2.1, TE.out.2.2.1, TE.out.2.2.2.1⟩
end Go.Proofs.Ytiogbgjeimdgmaa.MmuWalk
