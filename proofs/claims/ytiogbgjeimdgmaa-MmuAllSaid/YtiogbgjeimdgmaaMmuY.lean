/- The MMU's Store, walked. -/
import Derived.Test.YtiogbgjeimdgmaaMmuX
namespace Go.Proofs.Ytiogbgjeimdgmaa.MmuWalk
open Go.RowKit Go.Proofs.Ytiogbgjeimdgmaa.Aid Go.Proofs.YtiogbgjeimdgmaaW.PrintWords Go.Proofs.YtiogbgjeimdgmaaW.PrintLast Go.Proofs.YtiogbgjeimdgmaaW.PrintMore
open Go.Proofs.Ytiogbgjeimdgmaa.RamWalk (RamAt Bytes leN info5 bytes_n)
open Go.Proofs.Ytiogbgjeimdgmaa.TlbWalk (TlbAt Kept2 putP dropP posP entP nil2 own_some own_val own_then)
attribute [local go_sem] max2_int min2_int max_two min_two max_three min_three max_four min_four   -- for this text's walks alone
set_option linter.unusedVariables false
set_option linter.unusedSimpArgs false
/-- What Store leaves of the buffer and of the memory. -/
def storeP (T : Tabs) (xs : List Pc) (fk : Int) (ps : List (Int × Int)) (l : List Int) : List (Int × Int) := if fk = 0 then (marks T xs ps l).1 else ps
def storeL (T : Tabs) (xs : List Pc) (fk : Int) (ps : List (Int × Int)) (l bs : List Int) : List Int := if fk = 0 then (lays xs (marks T xs ps l).2 bs).1 else l
/-- At the head of the second loop: the memory, and the bytes that are left. -/
structure BHead (V wr : World) (base : Nat) (L : Loc) (v : Value) (T : Tabs) (ps : List (Int × Int)) (xs : List Pc) (l1 bs : List Int) (j : Nat) (A : Option Addr) (m c : Nat) : Prop where
  st : MStep V wr base L v T ps (lays (xs.take j) l1 bs).1
  len : (lays (xs.take j) l1 bs).2.length = m
  cap : m ≤ c
  rd : ReadsInt V .u8 A m (lays (xs.take j) l1 bs).2
  apart : ∀ a, A = some a → 0 < m → ¬ foot L v a.block
theorem reads_tail {w : World} {A : Option Addr} {n : Nat} {xs : List Int} (h : ReadsInt w .u8 A n xs) (k : Nat) (hk : k ≤ n) : ReadsInt w .u8 (A.map (·.add k)) (n - k) (xs.drop k) := by
  refine ⟨by rw [List.length_drop, h.1], by have := h.2.1; omega, fun hn => ?_⟩
  obtain ⟨ad, rfl, hc⟩ := h.2.2 (by omega)
  refine ⟨ad.add k, rfl, fun j hj => ?_⟩
  have e : (ad.add k).add j = ad.add (k + j) := by
    unfold Addr.add
    by_cases hk0 : k = 0
    · subst hk0; simp
    · by_cases hj0 : j = 0
      · subst hj0; simp [hk0]
      · have hkj : ¬ k + j = 0 := by omega
        simp [hk0, hj0, hkj]; omega
  rw [e, hc (k + j) (by omega), List.getD_eq_getElem?_getD, List.getD_eq_getElem?_getD, List.getElem?_drop]
theorem reads_head {w : World} {A : Option Addr} {n : Nat} {xs : List Int} (h : ReadsInt w .u8 A n xs) (k : Nat) (hk : k ≤ n) : ReadsInt w .u8 A k (xs.take k) := by
  refine ⟨by rw [List.length_take, h.1]; omega, by have := h.2.1; omega, fun hn => ?_⟩
  obtain ⟨ad, rfl, hc⟩ := h.2.2 (by omega)
  refine ⟨ad, rfl, fun j hj => ?_⟩
  rw [hc j (by omega), List.getD_eq_getElem?_getD, List.getD_eq_getElem?_getD, List.getElem?_take_of_lt hj]
theorem map_block {A : Option Addr} {k : Nat} {a : Addr} (h : A.map (·.add k) = some a) : ∃ b, A = some b ∧ a.block = b.block := by
  cases A with
  | none => simp at h
  | some b =>
    simp only [Option.map_some, Option.some.injEq] at h
    refine ⟨b, rfl, ?_⟩
    rw [← h]; unfold Addr.add; split <;> rfl
/-- There always are pieces, or a fault. -/
theorem Pcs.ex (T : Tabs) (l : List Int) (u wr keep : Bool) : ∀ (k : Nat) (ps : List (Int × Int)) (va n : Int), n.toNat ≤ k → ∃ xs f ps', Pcs T l u wr keep ps va n xs f ps'
  | 0, ps, va, n, hk => ⟨_, _, _, .done (by omega)⟩
  | k + 1, ps, va, n, hk => by
    by_cases hn : n ≤ 0
    · exact ⟨_, _, _, .done hn⟩
    · have h0 : 0 < n := by omega
      have h1 := stepN_pos (va := va) h0
      by_cases hf : (findF T ps l va (stepN va n) u wr).2.1 = 0
      · obtain ⟨xs, f, ps', h⟩ := Pcs.ex T l u wr keep k (findP T ps l va u wr keep) ((va + stepN va n) % 4294967296) (n - stepN va n) (by omega)
        exact ⟨_, _, _, .more h0 hf h⟩
      · exact ⟨_, _, _, .stop h0 hf⟩
theorem pieces_is (w : World) (base : Nat) (L : Loc) (v : Value) (T : Tabs) (ps : List (Int × Int)) (l : List Int) (va n : Int) (u wt keep : Bool) (hv : R32 va) (hn : n ≤ 65536) (hn0 : -9223372036854775808 ≤ n) (h : MmuAt w base L v T ps l) (xs : List Pc) (fk fv fi : Int) (ps' : List (Int × Int)) (hp : Pcs T l u wt keep ps va n xs (fk, fv, fi) ps') :
    Calls Try.prog 68 #[.pointer (some ⟨L.m, 0, none⟩), .int .u32 va, .int .i64 n, .bool u, .bool wt, .bool keep] w fun e w' => ∃ A c, e = .returned (.tuple #[.slice A xs.length c, .agg #[.int .i64 fk, .int .u32 fv, .int .u32 fi]]) ∧ MStep w w' base L v T ps' l ∧ w'.ownsRow w.heap.size 123 5 (.slice A xs.length c) xs.length (pcs5 u wt xs) :=
  (pieces_v w base L v T ps l va n u wt keep hv hn hn0 h).mono fun e w' ⟨A, c, ys, gk, gv, gi, ps2, h1, h2, h3, h4⟩ => by
    obtain ⟨rfl, h5, rfl⟩ := hp.det h1
    simp only [Prod.mk.injEq] at h5
    obtain ⟨rfl, rfl, rfl⟩ := h5
    exact ⟨A, c, h2, h3, h4⟩
set_option maxRecDepth 100000 in
set_option maxHeartbeats 4000000 in
theorem store_flt (w : World) (base : Nat) (L : Loc) (v : Value) (T : Tabs) (ps : List (Int × Int)) (l : List Int) (va : Int) (u : Bool) (A : Option Addr) (n c : Nat) (xs : List Pc) (fk fv fi : Int) (ps' : List (Int × Int)) (hv : R32 va) (hn : n ≤ 65536) (hp : Pcs T l u true true ps va n xs (fk, fv, fi) ps') (hk : (fk == 0) = false) (h : MmuAt w base L v T ps l) :
    Calls Try.prog 38 #[.pointer (some ⟨L.m, 0, none⟩), .int .u32 va, .bool u, .slice A n c] w fun e w' => e = .returned (.agg #[.int .i64 fk, .int .u32 fv, .int .u32 fi]) ∧ MStep w w' base L v T ps' l := by
  have M := Aside0.mk h
  have BX := box1 w (.cells #[.int .i64 0, .int .u32 0, .int .u32 0] 47 (0, 0))
  obtain ⟨W, hW⟩ : ∃ W, w.alloc (.cells #[.int .i64 0, .int .u32 0, .int .u32 0] 47 (0, 0)) = W := ⟨_, rfl⟩
  rw [hW] at BX
  have Z := Aside0.mk BX.2
  have BB := Aside0.mk BX.1
  have PC := Aside0.mk (pieces_is W base L v T ps l va n u true true hv (by omega) (by omega) (M.out.then BX.1) xs fk fv fi ps' hp)
  clear h BX hv hn hp
  go_enter Try.func38, Try.ntmps38
  go_wp2_with (first
    | (go_at_call 68; (with_reducible refine (PC.out).mono ?_); rintro e w2 ⟨A', c', rfl, s, ho⟩; have S := Aside0.mk (MStep.after BB.out s); have Z := Aside0.mk (box_keep M.out Z.out (Nat.le_refl _) s); clear s ho)
    | (refine wpList_store_row rfl 47 (.tmp 8) (.tmp 31) rfl w.heap.size #[.int .i64 fk, .int .u32 fv, .int .u32 fi] rfl rfl _ _ (row_then Z.out (below_alloc (Below.refl _ _) _)) infoF rfl (by kernel_rfl) ?_))
  refine bodyPost_ret (results_cell_row rfl _ _ (w.heap.size) 47 #[.int .i64 fk, .int .u32 fv, .int .u32 fi] (0, 0) _ rfl (setRow_heap _ _ _ _ 47 _ (row_then Z.out (below_alloc (Below.refl _ _) _))) Try.underlying47 rfl infoF) rfl ⟨rfl, MStep.setRow (S.out.then (below_alloc (Below.refl _ _) _)) (by omega) (row_then Z.out (below_alloc (Below.refl _ _) _)) (by unfold mTy; decide) _⟩
end Go.Proofs.Ytiogbgjeimdgmaa.MmuWalk
