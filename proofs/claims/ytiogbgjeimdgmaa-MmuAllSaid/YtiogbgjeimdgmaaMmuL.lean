/- The MMU's Probe, walked. -/
import Derived.Test.YtiogbgjeimdgmaaMmuK
namespace Go.Proofs.Ytiogbgjeimdgmaa.MmuWalk
open Go.RowKit Go.Proofs.Ytiogbgjeimdgmaa.Aid Go.Proofs.YtiogbgjeimdgmaaW.PrintWords Go.Proofs.YtiogbgjeimdgmaaW.PrintLast Go.Proofs.YtiogbgjeimdgmaaW.PrintMore
open Go.Proofs.Ytiogbgjeimdgmaa.RamWalk (RamAt Bytes leN)
open Go.Proofs.Ytiogbgjeimdgmaa.TlbWalk (TlbAt Kept2 putP dropP posP entP nil2 own_some own_val own_then)
attribute [local go_sem] max2_int min2_int max_two min_two max_three min_three max_four min_four   -- for this text's walks alone
set_option linter.unusedVariables false
set_option linter.unusedSimpArgs false
/-- The pieces lie within the memory; there are at most as many as bytes. -/
theorem Pcs.fit {T : Tabs} {l : List Int} {u wr keep : Bool} {ps : List (Int × Int)} {va n : Int} {xs : List Pc} {f : Flt} {ps' : List (Int × Int)} (h : Pcs T l u wr keep ps va n xs f ps') : ∀ p ∈ xs, p.2.1 + p.2.2 ≤ l.length := by
  induction h with
  | done h => intro p hp; cases hp
  | stop h hf => intro p hp; cases hp
  | @more ps0 va0 n0 xs f ps' h hf k ih =>
    intro p hp
    have h1 := (findF_fit hf).1
    have h2 := (stepN_pos (va := va0) h).1
    split at hp
    · rcases List.mem_cons.1 hp with rfl | hp
      · show (findF T ps0 l va0 (stepN va0 n0) u wr).1 + ((stepN va0 n0).toNat : Int) ≤ l.length
        omega
      · exact ih p hp
    · cases hp
theorem pieces_v (w : World) (base : Nat) (L : Loc) (v : Value) (T : Tabs) (ps : List (Int × Int)) (l : List Int) (va n : Int) (u wt keep : Bool) (hv : R32 va) (hn : n ≤ 65536) (hn0 : -9223372036854775808 ≤ n) (h : MmuAt w base L v T ps l) :
    Calls Try.prog 68 #[.pointer (some ⟨L.m, 0, none⟩), .int .u32 va, .int .i64 n, .bool u, .bool wt, .bool keep] w fun e w' => ∃ A c xs fk fv fi ps', Pcs T l u wt keep ps va n xs (fk, fv, fi) ps' ∧ e = .returned (.tuple #[.slice A xs.length c, .agg #[.int .i64 fk, .int .u32 fv, .int .u32 fi]]) ∧ MStep w w' base L v T ps' l ∧ w'.ownsRow w.heap.size 123 5 (.slice A xs.length c) xs.length (pcs5 u wt xs) :=
  (pieces_call w base L v T ps l va n u wt keep hv hn hn0 h).mono fun e w' ⟨A, c, xs, ⟨fk, fv, fi⟩, ps', h1, h2, h3, h4⟩ => ⟨A, c, xs, fk, fv, fi, ps', h1, h2, h3, h4⟩
set_option maxRecDepth 100000 in
set_option maxHeartbeats 2000000 in
theorem probe_call (w : World) (base : Nat) (L : Loc) (v : Value) (T : Tabs) (ps : List (Int × Int)) (l : List Int) (va n : Int) (u wt : Bool) (hv : R32 va) (hn : n ≤ 65536) (hn0 : -9223372036854775808 ≤ n) (h : MmuAt w base L v T ps l) :
    Calls Try.prog 35 #[.pointer (some ⟨L.m, 0, none⟩), .int .u32 va, .int .i64 n, .bool u, .bool wt] w fun e w' => ∃ xs f ps', Pcs T l u wt true ps va n xs f ps' ∧ e = .returned (fltV f) ∧ MStep w w' base L v T ps' l := by
  have M := Aside0.mk h
  have BX := box1 w (.cells #[.int .i64 0, .int .u32 0, .int .u32 0] 47 (0, 0))
  obtain ⟨W, hW⟩ : ∃ W, w.alloc (.cells #[.int .i64 0, .int .u32 0, .int .u32 0] 47 (0, 0)) = W := ⟨_, rfl⟩
  rw [hW] at BX
  have Z := Aside0.mk BX.2
  have BB := Aside0.mk BX.1
  have PC := Aside0.mk (pieces_v W base L v T ps l va n u wt true hv hn hn0 (M.out.then BX.1))
  clear h BX hv hn hn0
  go_enter Try.func35, Try.ntmps35
  go_wp2_with (first
    | (go_at_call 68; (with_reducible refine (PC.out).mono ?_); rintro e w2 ⟨A, c, xs, fk, fv, fi, ps2, hp, rfl, s, ho⟩; have HP := Aside0.mk hp; have S := Aside0.mk (MStep.after BB.out s); have Z := Aside0.mk (box_keep M.out Z.out (Nat.le_refl _) s); clear hp s ho)
    | (refine wpList_store_row rfl 47 (.tmp 10) (.tmp 26) rfl w.heap.size #[.int .i64 fk, .int .u32 fv, .int .u32 fi] rfl rfl _ _ (row_then Z.out (below_alloc (Below.refl _ _) _)) infoF rfl (by kernel_rfl) ?_))
  refine bodyPost_ret (results_cell_row rfl _ _ (w.heap.size) 47 #[.int .i64 fk, .int .u32 fv, .int .u32 fi] (0, 0) _ rfl (setRow_heap _ _ _ _ 47 _ (row_then Z.out (below_alloc (Below.refl _ _) _))) Try.underlying47 rfl infoF) rfl ⟨xs, (fk, fv, fi), ps2, HP.out, rfl, MStep.setRow (S.out.then (below_alloc (Below.refl _ _) _)) (by omega) (row_then Z.out (below_alloc (Below.refl _ _) _)) (by unfold mTy; decide) _⟩
end Go.Proofs.Ytiogbgjeimdgmaa.MmuWalk
