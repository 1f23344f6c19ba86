/- The MMU's mark, walked case by case. -/
import Derived.Test.YtiogbgjeimdgmaaGMmc
namespace Go.Proofs.Ytiogbgjeimdgmaa.MmuWalk
open Go.RowKit Go.Proofs.Ytiogbgjeimdgmaa.Aid Go.Proofs.YtiogbgjeimdgmaaW.PrintWords Go.Proofs.YtiogbgjeimdgmaaW.PrintLast Go.Proofs.YtiogbgjeimdgmaaW.PrintMore
open Go.Proofs.Ytiogbgjeimdgmaa.RamWalk (RamAt Bytes leN leN_bounds get_i get_bus_i put_i putL putL_length putL_bytes)
open Go.Proofs.Ytiogbgjeimdgmaa.TlbWalk (TlbAt Kept2 putP dropP posP entP nil2 get_yes get_no put_call mem_getD putP_mem)
attribute [local go_sem] max2_int min2_int max_two min_two max_three min_three max_four min_four   -- for this text's walks alone
set_option linter.unusedVariables false
set_option linter.unusedSimpArgs false
/-- An entry, marked. -/
def orM (x : Int) : Int := if wrE x = true then x else x + 67108864
theorem orM_r {x : Int} (h : R32 x) : R32 (orM x) := by
  unfold orM wrE R32 at *
  split
  · exact h
  · rename_i c; rw [decide_eq_true_eq] at c; omega
theorem or_bit (j a b c : Nat) (hb : b < 2) (hc : c < 2 ^ j) : ((2 * a + b) * 2 ^ j + c) ||| 2 ^ j = (2 * a + 1) * 2 ^ j + c := by
  have e : ∀ x y, y < 2 ^ j → x * 2 ^ j + y = x <<< j ||| y := fun x y hy => by
    have := Nat.shiftLeft_add_eq_or_of_lt hy x
    rw [← this, Nat.shiftLeft_eq]
  have e1 : 2 ^ j = 1 <<< j := by rw [Nat.shiftLeft_eq, Nat.one_mul]
  have e2 : ∀ z, z < 2 → 2 * a + z = a <<< 1 ||| z := fun z hz => by
    have := Nat.shiftLeft_add_eq_or_of_lt (show z < 2 ^ 1 from hz) a
    rw [← this, Nat.shiftLeft_eq]; omega
  rw [e _ _ hc, e _ _ hc]
  conv => lhs; rw [e1]
  rw [Nat.or_assoc, Nat.or_comm c, ← Nat.or_assoc, ← Nat.shiftLeft_or_distrib, e2 b hb, e2 1 (by decide), Nat.or_assoc]
  have : b = 0 ∨ b = 1 := by omega
  rcases this with rfl | rfl
  · rfl
  · rw [Nat.or_self]
theorem or_modN (n j : Nat) : n ||| 2 ^ j = if n / 2 ^ j % 2 = 1 then n else n + 2 ^ j := by
  have hp := Nat.two_pow_pos j
  have h1 := Nat.div_add_mod n (2 ^ j)
  have h2 := Nat.div_add_mod (n / 2 ^ j) 2
  have h3 := Nat.mod_lt n hp
  have h4 := Nat.mod_lt (n / 2 ^ j) (show 0 < 2 by decide)
  have e := or_bit j (n / 2 ^ j / 2) (n / 2 ^ j % 2) (n % 2 ^ j) h4 h3
  rw [h2, Nat.mul_comm (n / 2 ^ j), h1] at e
  rw [e]
  generalize n / 2 ^ j % 2 = b at *
  generalize n / 2 ^ j / 2 = a at *
  generalize n / 2 ^ j = q at *
  generalize n % 2 ^ j = r at *
  generalize 2 ^ j = P at *
  split
  · rename_i hb; subst hb; rw [h2, Nat.mul_comm, h1]
  · have hb : b = 0 := by omega
    subst hb
    rw [Nat.add_zero] at h2
    rw [h2, Nat.add_mul, Nat.one_mul, Nat.mul_comm q P]; omega
theorem or_modI (x c : Int) (m : Nat) (hx : R32 x) (hc : c = (m : Int)) (j : Nat) (hj : m = 2 ^ j) (hm : m < 4294967296) : Go.bits .or .u32 x c = if x / c % 2 = 1 then x else x + c := by
  obtain ⟨n, rfl⟩ : ∃ n : Nat, x = n := ⟨x.toNat, by have := hx.1; omega⟩
  have hn : n < 4294967296 := by have := hx.2; omega
  rw [hc, u32_or_nat n m hn hm]
  have e := or_modN n j
  rw [← hj] at e
  rw [e]
  have e2 : ((n : Int) / (m : Int) % 2 = 1) ↔ (n / m % 2 = 1) := by
    rw [← Int.natCast_ediv]; omega
  by_cases hb : n / m % 2 = 1
  · rw [if_pos hb, if_pos (e2.2 hb)]
  · rw [if_neg hb, if_neg (fun c => hb (e2.1 c))]
    exact Int.natCast_add _ _
theorem or_mod (x : Int) (hx : R32 x) : Go.bits .or .u32 x 67108864 = orM x := by
  have e := or_modI x 67108864 67108864 hx rfl 26 (by decide) (by decide)
  unfold orM wrE
  rw [e]
  by_cases hb : x / 67108864 % 2 = 1
  · rw [if_pos hb, if_pos (decide_eq_true hb)]
  · rw [if_neg hb, if_neg (by rw [decide_eq_true_eq]; exact hb)]
/-- What a mark leaves of the memory; of the buffer. -/
def memMark (T : Tabs) (l : List Int) (va : Int) : List Int :=
  if offE T va = true then l else if atE T va + 4 ≤ l.length then putL l (atE T va).toNat (orM (leN ((l.drop (atE T va).toNat).take 4))) 4 else l
def markP (T : Tabs) (ps : List (Int × Int)) (va : Int) : List (Int × Int) :=
  if T.men = 0 then ps else if posP (va / 512) ps < ps.length then (if wrE (entP (va / 512) ps) = true then ps else putP (va / 512) (orM (entP (va / 512) ps)) ps) else ps
def markL (T : Tabs) (ps : List (Int × Int)) (l : List Int) (va : Int) : List Int :=
  if T.men = 0 then l else if posP (va / 512) ps < ps.length then (if wrE (entP (va / 512) ps) = true then l else memMark T l va) else memMark T l va
theorem memMark_length (T : Tabs) (l : List Int) (va : Int) : (memMark T l va).length = l.length := by
  unfold memMark
  split
  · rfl
  · split
    · exact putL_length _ _ _ _
    · rfl
theorem markL_length (T : Tabs) (ps : List (Int × Int)) (l : List Int) (va : Int) : (markL T ps l va).length = l.length := by
  unfold markL
  split
  · rfl
  · split
    · split
      · rfl
      · exact memMark_length _ _ _
    · exact memMark_length _ _ _
/-- The memory alone was turned. -/
theorem MmuAt.ram_step {W W' : World} {base n : Nat} {L : Loc} {v : Value} {T : Tabs} {ps : List (Int × Int)} {l l' : List Int} (h : MmuAt W base L v T ps l) (hn : l'.length = n) (r : RamAt W' base L.r (.slice (some ⟨L.b, 0, none⟩) n L.c) l') (g : W.grownBy W' (some L.b)) (hb : Bytes l') : MStep W W' base L v T ps l' := by
  subst hn
  obtain ⟨a1, a2, a3, a4⟩ := RamAt.ne_of h.ram h.tlb
  obtain ⟨b1, b2, b3, b4⟩ := h.m_ne
  refine ⟨⟨v, ⟨(g.block L.m h.lt (fun e => b2 (Option.some.inj e))).trans h.blk, h.ge, r, h.tlb.kept g (fun e => a2 (Option.some.inj e).symm) (.inr (fun e => a4 e.symm)), hb, h.ok, h.ents⟩, NextRow.same _ _⟩, ⟨g.os, g.tape, g.output, g.size, fun i hi hf => g.block i hi (fun e => hf (.inr (.inr (.inl (Option.some.inj e)))))⟩⟩
set_option maxRecDepth 100000 in
set_option maxHeartbeats 2000000 in
theorem mark_0 (w : World) (base : Nat) (L : Loc) (v : Value) (T : Tabs) (ps : List (Int × Int)) (l : List Int) (va : Int) (u wr : Bool) (h : MmuAt w base L v T ps l) (hm : T.men = 0) :
    Calls Try.prog 69 #[.pointer (some ⟨L.m, 0, none⟩), .agg #[.int .u32 va, .bool u, .bool wr]] w fun e w' => e = .returned (.tuple #[]) ∧ MStep w w' base L v T ps l := by
  have M := Aside0.mk h
  have BX := box1 w (.cells #[.int .u32 va, .bool u, .bool wr] 118 (0, 0))
  obtain ⟨W, hW⟩ : ∃ W, w.alloc (.cells #[.int .u32 va, .bool u, .bool wr] 118 (0, 0)) = W := ⟨_, rfl⟩
  rw [hW] at BX
  have MW := Aside0.mk (M.out.then BX.1)
  have A := Aside0.mk BX.2
  have BB := Aside0.mk BX.1
  have c6 : W.cell? ⟨L.m, 6, none⟩ = some (.int .u32 T.men) := MW.out.cell 6
  clear h BX
  go_enter Try.func69, Try.ntmps69
  go_wp2
  first | go_end0 | refine bodyPost_ret (results_none rfl _ _ _) rfl ?_
  exact ⟨rfl, MStep.of_below M.out BB.out⟩
set_option maxRecDepth 100000 in
set_option maxHeartbeats 2000000 in
theorem mark_1 (w : World) (base : Nat) (L : Loc) (v : Value) (T : Tabs) (ps : List (Int × Int)) (l : List Int) (va : Int) (u wr : Bool) (h : MmuAt w base L v T ps l) (hm : (T.men == 0) = false) (x : Int) (GT : Aside0 (∀ W, Below w.heap.size w W → Calls Try.prog 84 #[.pointer (some ⟨L.t, 0, none⟩), .int .u32 (va / 512)] W fun e w' => e = .returned (.tuple #[.int .u32 x, .bool true]) ∧ Below W.heap.size W w')) (PW : Aside0 (∀ W, Calls Try.prog 85 #[.int .u32 x] W fun e w' => e = .returned (.bool true) ∧ W = w')) :
    Calls Try.prog 69 #[.pointer (some ⟨L.m, 0, none⟩), .agg #[.int .u32 va, .bool u, .bool wr]] w fun e w' => e = .returned (.tuple #[]) ∧ MStep w w' base L v T ps l := by
  have M := Aside0.mk h
  have BX := box1 w (.cells #[.int .u32 va, .bool u, .bool wr] 118 (0, 0))
  obtain ⟨W, hW⟩ : ∃ W, w.alloc (.cells #[.int .u32 va, .bool u, .bool wr] 118 (0, 0)) = W := ⟨_, rfl⟩
  rw [hW] at BX
  have MW := Aside0.mk (M.out.then BX.1)
  have A := Aside0.mk BX.2
  have BB := Aside0.mk BX.1
  have c6 : W.cell? ⟨L.m, 6, none⟩ = some (.int .u32 T.men) := MW.out.cell 6
  clear h BX
  have hS : Aside0 (∀ W', Below W.heap.size W W' → W'.cell? ⟨L.m, 1, none⟩ = some (.pointer (some ⟨L.t, 0, none⟩)) ∧ W'.cell? ⟨w.heap.size, 0, none⟩ = some (.int .u32 va)) := ⟨fun W' hW => ⟨(M.out.then (below_step BB.out hW)).cell 1, cell_of_row _ _ 0 _ _ _ (row_then A.out hW)⟩⟩
  have hS0 := hS.out W (Below.refl _ _)
  go_enter Try.func69, Try.ntmps69
  go_wp2
  go_region_held3 (fun W' => W'.cell? ⟨L.m, 1, none⟩ = some (.pointer (some ⟨L.t, 0, none⟩)) ∧ W'.cell? ⟨w.heap.size, 0, none⟩ = some (.int .u32 va))
    (first | exact hS.out _ (by assumption) | exact hS.out _ ((Below.refl _ _).drew))
    (first
    | (go_at_call 84; (with_reducible refine (GT.out _ (below_step BB.out (Below.refl _ _).drew)).mono ?_); rintro e w1 ⟨rfl, hb⟩; have hb1 : Below W.heap.size W w1 := below_step ((Below.refl _ _).drew) hb))
  have BB := Aside0.mk (below_step BB.out hb1)
  have A := Aside0.mk (row_then A.out hb1)
  have M1 := Aside0.mk (M.out.then BB.out)
  clear hS0 hb1 hb c6
  go_wp2_with (first
    | (go_at_call 85; (with_reducible refine (PW.out _).mono ?_); rintro e w4 ⟨rfl, rfl⟩))
  first | go_end0 | refine bodyPost_ret (results_none rfl _ _ _) rfl ?_
  exact ⟨rfl, MStep.of_below M.out BB.out⟩
set_option maxRecDepth 100000 in
set_option maxHeartbeats 2000000 in
theorem mark_11 (w : World) (base : Nat) (L : Loc) (v : Value) (T : Tabs) (ps : List (Int × Int)) (l : List Int) (va : Int) (u wr : Bool) (h : MmuAt w base L v T ps l) (hm : (T.men == 0) = false) (x : Int) (GT : Aside0 (∀ W, Below w.heap.size w W → Calls Try.prog 84 #[.pointer (some ⟨L.t, 0, none⟩), .int .u32 (va / 512)] W fun e w' => e = .returned (.tuple #[.int .u32 x, .bool false]) ∧ Below W.heap.size W w')) (at_ : Int) (fk fv fi : Int) (hk : (fk == 0) = false) (PL : Aside0 (∀ W v' ps', MmuAt W base L v' T ps' l → Calls Try.prog 87 #[.pointer (some ⟨L.m, 0, none⟩), .agg #[.int .u32 va, .bool u, .bool wr]] W fun e w' => e = .returned (.tuple #[.int .u32 at_, .agg #[.int .i64 fk, .int .u32 fv, .int .u32 fi]]) ∧ Below W.heap.size W w')) :
    Calls Try.prog 69 #[.pointer (some ⟨L.m, 0, none⟩), .agg #[.int .u32 va, .bool u, .bool wr]] w fun e w' => e = .returned (.tuple #[]) ∧ MStep w w' base L v T ps l := by
  have M := Aside0.mk h
  have BX := box1 w (.cells #[.int .u32 va, .bool u, .bool wr] 118 (0, 0))
  obtain ⟨W, hW⟩ : ∃ W, w.alloc (.cells #[.int .u32 va, .bool u, .bool wr] 118 (0, 0)) = W := ⟨_, rfl⟩
  rw [hW] at BX
  have MW := Aside0.mk (M.out.then BX.1)
  have A := Aside0.mk BX.2
  have BB := Aside0.mk BX.1
  have c6 : W.cell? ⟨L.m, 6, none⟩ = some (.int .u32 T.men) := MW.out.cell 6
  clear h BX
  have hS : Aside0 (∀ W', Below W.heap.size W W' → W'.cell? ⟨L.m, 1, none⟩ = some (.pointer (some ⟨L.t, 0, none⟩)) ∧ W'.cell? ⟨w.heap.size, 0, none⟩ = some (.int .u32 va)) := ⟨fun W' hW => ⟨(M.out.then (below_step BB.out hW)).cell 1, cell_of_row _ _ 0 _ _ _ (row_then A.out hW)⟩⟩
  have hS0 := hS.out W (Below.refl _ _)
  go_enter Try.func69, Try.ntmps69
  go_wp2
  go_region_held3 (fun W' => W'.cell? ⟨L.m, 1, none⟩ = some (.pointer (some ⟨L.t, 0, none⟩)) ∧ W'.cell? ⟨w.heap.size, 0, none⟩ = some (.int .u32 va))
    (first | exact hS.out _ (by assumption) | exact hS.out _ ((Below.refl _ _).drew))
    (first
    | (go_at_call 84; (with_reducible refine (GT.out _ (below_step BB.out (Below.refl _ _).drew)).mono ?_); rintro e w1 ⟨rfl, hb⟩; have hb1 : Below W.heap.size W w1 := below_step ((Below.refl _ _).drew) hb))
  have BB := Aside0.mk (below_step BB.out hb1)
  have A := Aside0.mk (row_then A.out hb1)
  have M1 := Aside0.mk (M.out.then BB.out)
  clear hS0 hb1 hb c6
  have S := Aside0.mk (MStep.of_below M.out BB.out)
  obtain ⟨v1, rfl⟩ : ∃ v1, v1 = v := ⟨_, rfl⟩
  have NX := Aside0.mk (NextRow.same w v1)
  have d0 : w1.cell? ⟨w.heap.size, 0, none⟩ = some (.int .u32 va) := cell_of_row _ _ 0 _ _ _ A.out
  have d1 : w1.cell? ⟨w.heap.size, 1, none⟩ = some (.bool u) := cell_of_row _ _ 1 _ _ _ A.out
  have d2 : w1.cell? ⟨w.heap.size, 2, none⟩ = some (.bool wr) := cell_of_row _ _ 2 _ _ _ A.out
  go_wp2_with (first
    | (go_at_call 87; (with_reducible refine (PL.out _ _ _ M1.out).mono ?_); rintro e w2 ⟨rfl, hb⟩; have B2 := Aside0.mk (below_alloc hb (.cells #[.int .i64 fk, .int .u32 fv, .int .u32 fi] 47 (0, 0))); have M2 := Aside0.mk (M1.out.then B2.out); have m0 := M2.out.cell 0; simp only [mmuCells, List.getElem?_toArray, List.getElem?_cons_zero, List.getElem?_cons_succ] at m0; clear hb))
  first | go_end0 | refine bodyPost_ret (results_none rfl _ _ _) rfl ?_
  exact ⟨rfl, S.out.then B2.out⟩
set_option maxRecDepth 100000 in
set_option maxHeartbeats 2000000 in
theorem mark_12 (w : World) (base : Nat) (L : Loc) (v : Value) (T : Tabs) (ps : List (Int × Int)) (l : List Int) (va : Int) (u wr : Bool) (h : MmuAt w base L v T ps l) (hm : (T.men == 0) = false) (x : Int) (GT : Aside0 (∀ W, Below w.heap.size w W → Calls Try.prog 84 #[.pointer (some ⟨L.t, 0, none⟩), .int .u32 (va / 512)] W fun e w' => e = .returned (.tuple #[.int .u32 x, .bool false]) ∧ Below W.heap.size W w')) (at_ : Int) (PL : Aside0 (∀ W v' ps', MmuAt W base L v' T ps' l → Calls Try.prog 87 #[.pointer (some ⟨L.m, 0, none⟩), .agg #[.int .u32 va, .bool u, .bool wr]] W fun e w' => e = .returned (.tuple #[.int .u32 at_, .agg #[.int .i64 0, .int .u32 0, .int .u32 0]]) ∧ Below W.heap.size W w')) (y er : Int) (her : (er == 0) = false) (RG : Aside0 (∀ W v' ps', MmuAt W base L v' T ps' l → Calls Try.prog 41 #[.pointer (some ⟨L.r, 0, none⟩), .int .u32 at_, .int .i64 4] W fun e w' => e = .returned (.tuple #[.int .u32 y, .int .i64 er]) ∧ W = w')) :
    Calls Try.prog 69 #[.pointer (some ⟨L.m, 0, none⟩), .agg #[.int .u32 va, .bool u, .bool wr]] w fun e w' => e = .returned (.tuple #[]) ∧ MStep w w' base L v T ps l := by
  have M := Aside0.mk h
  have BX := box1 w (.cells #[.int .u32 va, .bool u, .bool wr] 118 (0, 0))
  obtain ⟨W, hW⟩ : ∃ W, w.alloc (.cells #[.int .u32 va, .bool u, .bool wr] 118 (0, 0)) = W := ⟨_, rfl⟩
  rw [hW] at BX
  have MW := Aside0.mk (M.out.then BX.1)
  have A := Aside0.mk BX.2
  have BB := Aside0.mk BX.1
  have c6 : W.cell? ⟨L.m, 6, none⟩ = some (.int .u32 T.men) := MW.out.cell 6
  clear h BX
  have hS : Aside0 (∀ W', Below W.heap.size W W' → W'.cell? ⟨L.m, 1, none⟩ = some (.pointer (some ⟨L.t, 0, none⟩)) ∧ W'.cell? ⟨w.heap.size, 0, none⟩ = some (.int .u32 va)) := ⟨fun W' hW => ⟨(M.out.then (below_step BB.out hW)).cell 1, cell_of_row _ _ 0 _ _ _ (row_then A.out hW)⟩⟩
  have hS0 := hS.out W (Below.refl _ _)
  go_enter Try.func69, Try.ntmps69
  go_wp2
  go_region_held3 (fun W' => W'.cell? ⟨L.m, 1, none⟩ = some (.pointer (some ⟨L.t, 0, none⟩)) ∧ W'.cell? ⟨w.heap.size, 0, none⟩ = some (.int .u32 va))
    (first | exact hS.out _ (by assumption) | exact hS.out _ ((Below.refl _ _).drew))
    (first
    | (go_at_call 84; (with_reducible refine (GT.out _ (below_step BB.out (Below.refl _ _).drew)).mono ?_); rintro e w1 ⟨rfl, hb⟩; have hb1 : Below W.heap.size W w1 := below_step ((Below.refl _ _).drew) hb))
  have BB := Aside0.mk (below_step BB.out hb1)
  have A := Aside0.mk (row_then A.out hb1)
  have M1 := Aside0.mk (M.out.then BB.out)
  clear hS0 hb1 hb c6
  have S := Aside0.mk (MStep.of_below M.out BB.out)
  obtain ⟨v1, rfl⟩ : ∃ v1, v1 = v := ⟨_, rfl⟩
  have NX := Aside0.mk (NextRow.same w v1)
  have d0 : w1.cell? ⟨w.heap.size, 0, none⟩ = some (.int .u32 va) := cell_of_row _ _ 0 _ _ _ A.out
  have d1 : w1.cell? ⟨w.heap.size, 1, none⟩ = some (.bool u) := cell_of_row _ _ 1 _ _ _ A.out
  have d2 : w1.cell? ⟨w.heap.size, 2, none⟩ = some (.bool wr) := cell_of_row _ _ 2 _ _ _ A.out
  go_wp2_with (first
    | (go_at_call 87; (with_reducible refine (PL.out _ _ _ M1.out).mono ?_); rintro e w2 ⟨rfl, hb⟩; have B2 := Aside0.mk (below_alloc hb (.cells #[.int .i64 0, .int .u32 0, .int .u32 0] 47 (0, 0))); have M2 := Aside0.mk (M1.out.then B2.out); have m0 := M2.out.cell 0; simp only [mmuCells, List.getElem?_toArray, List.getElem?_cons_zero, List.getElem?_cons_succ] at m0; clear hb)
    | (go_at_call 41; (with_reducible refine (RG.out _ _ _ M2.out).mono ?_); rintro e w3 ⟨rfl, rfl⟩))
  first | go_end0 | refine bodyPost_ret (results_none rfl _ _ _) rfl ?_
  exact ⟨rfl, S.out.then B2.out⟩
set_option maxRecDepth 100000 in
set_option maxHeartbeats 2000000 in
theorem mark_13 (w : World) (base : Nat) (L : Loc) (v : Value) (T : Tabs) (ps : List (Int × Int)) (l : List Int) (va : Int) (u wr : Bool) (h : MmuAt w base L v T ps l) (hm : (T.men == 0) = false) (x : Int) (GT : Aside0 (∀ W, Below w.heap.size w W → Calls Try.prog 84 #[.pointer (some ⟨L.t, 0, none⟩), .int .u32 (va / 512)] W fun e w' => e = .returned (.tuple #[.int .u32 x, .bool false]) ∧ Below W.heap.size W w')) (at_ : Int) (PL : Aside0 (∀ W v' ps', MmuAt W base L v' T ps' l → Calls Try.prog 87 #[.pointer (some ⟨L.m, 0, none⟩), .agg #[.int .u32 va, .bool u, .bool wr]] W fun e w' => e = .returned (.tuple #[.int .u32 at_, .agg #[.int .i64 0, .int .u32 0, .int .u32 0]]) ∧ Below W.heap.size W w')) (y y' : Int) (RG : Aside0 (∀ W v' ps', MmuAt W base L v' T ps' l → Calls Try.prog 41 #[.pointer (some ⟨L.r, 0, none⟩), .int .u32 at_, .int .i64 4] W fun e w' => e = .returned (.tuple #[.int .u32 y, .int .i64 0]) ∧ W = w')) (hy : Go.bits .or .u32 y 67108864 = y') (l' : List Int) (RP : Aside0 (∀ W v' ps', MmuAt W base L v' T ps' l → Calls Try.prog 39 #[.pointer (some ⟨L.r, 0, none⟩), .int .u32 at_, .int .u32 y', .int .i64 4] W fun e w' => e = .returned (.int .i64 0) ∧ MStep W w' base L v' T ps' l')) :
    Calls Try.prog 69 #[.pointer (some ⟨L.m, 0, none⟩), .agg #[.int .u32 va, .bool u, .bool wr]] w fun e w' => e = .returned (.tuple #[]) ∧ MStep w w' base L v T ps l' := by
  have M := Aside0.mk h
  have BX := box1 w (.cells #[.int .u32 va, .bool u, .bool wr] 118 (0, 0))
  obtain ⟨W, hW⟩ : ∃ W, w.alloc (.cells #[.int .u32 va, .bool u, .bool wr] 118 (0, 0)) = W := ⟨_, rfl⟩
  rw [hW] at BX
  have MW := Aside0.mk (M.out.then BX.1)
  have A := Aside0.mk BX.2
  have BB := Aside0.mk BX.1
  have c6 : W.cell? ⟨L.m, 6, none⟩ = some (.int .u32 T.men) := MW.out.cell 6
  clear h BX
  have hS : Aside0 (∀ W', Below W.heap.size W W' → W'.cell? ⟨L.m, 1, none⟩ = some (.pointer (some ⟨L.t, 0, none⟩)) ∧ W'.cell? ⟨w.heap.size, 0, none⟩ = some (.int .u32 va)) := ⟨fun W' hW => ⟨(M.out.then (below_step BB.out hW)).cell 1, cell_of_row _ _ 0 _ _ _ (row_then A.out hW)⟩⟩
  have hS0 := hS.out W (Below.refl _ _)
  go_enter Try.func69, Try.ntmps69
  go_wp2
  go_region_held3 (fun W' => W'.cell? ⟨L.m, 1, none⟩ = some (.pointer (some ⟨L.t, 0, none⟩)) ∧ W'.cell? ⟨w.heap.size, 0, none⟩ = some (.int .u32 va))
    (first | exact hS.out _ (by assumption) | exact hS.out _ ((Below.refl _ _).drew))
    (first
    | (go_at_call 84; (with_reducible refine (GT.out _ (below_step BB.out (Below.refl _ _).drew)).mono ?_); rintro e w1 ⟨rfl, hb⟩; have hb1 : Below W.heap.size W w1 := below_step ((Below.refl _ _).drew) hb))
  have BB := Aside0.mk (below_step BB.out hb1)
  have A := Aside0.mk (row_then A.out hb1)
  have M1 := Aside0.mk (M.out.then BB.out)
  clear hS0 hb1 hb c6
  have S := Aside0.mk (MStep.of_below M.out BB.out)
  obtain ⟨v1, rfl⟩ : ∃ v1, v1 = v := ⟨_, rfl⟩
  have NX := Aside0.mk (NextRow.same w v1)
  have d0 : w1.cell? ⟨w.heap.size, 0, none⟩ = some (.int .u32 va) := cell_of_row _ _ 0 _ _ _ A.out
  have d1 : w1.cell? ⟨w.heap.size, 1, none⟩ = some (.bool u) := cell_of_row _ _ 1 _ _ _ A.out
  have d2 : w1.cell? ⟨w.heap.size, 2, none⟩ = some (.bool wr) := cell_of_row _ _ 2 _ _ _ A.out
  go_wp2_with (first
    | (go_at_call 87; (with_reducible refine (PL.out _ _ _ M1.out).mono ?_); rintro e w2 ⟨rfl, hb⟩; have B2 := Aside0.mk (below_alloc hb (.cells #[.int .i64 0, .int .u32 0, .int .u32 0] 47 (0, 0))); have M2 := Aside0.mk (M1.out.then B2.out); have m0 := M2.out.cell 0; simp only [mmuCells, List.getElem?_toArray, List.getElem?_cons_zero, List.getElem?_cons_succ] at m0; clear hb)
    | (go_at_call 41; (with_reducible refine (RG.out _ _ _ M2.out).mono ?_); rintro e w3 ⟨rfl, rfl⟩)
    | (go_at_call 39; (with_reducible refine (RP.out _ _ _ M2.out).mono ?_); rintro e w5 ⟨rfl, s5⟩; have S5 := Aside0.mk s5; clear s5))
  first | go_end0 | refine bodyPost_ret (results_none rfl _ _ _) rfl ?_
  exact ⟨rfl, MStep.via (S.out.chg.then B2.out) NX.out S5.out⟩
set_option maxRecDepth 100000 in
set_option maxHeartbeats 2000000 in
theorem mark_21 (w : World) (base : Nat) (L : Loc) (v : Value) (T : Tabs) (ps : List (Int × Int)) (l : List Int) (va : Int) (u wr : Bool) (h : MmuAt w base L v T ps l) (hm : (T.men == 0) = false) (x : Int) (GT : Aside0 (∀ W, Below w.heap.size w W → Calls Try.prog 84 #[.pointer (some ⟨L.t, 0, none⟩), .int .u32 (va / 512)] W fun e w' => e = .returned (.tuple #[.int .u32 x, .bool true]) ∧ Below W.heap.size W w')) (PW : Aside0 (∀ W, Calls Try.prog 85 #[.int .u32 x] W fun e w' => e = .returned (.bool false) ∧ W = w')) (x' : Int) (hx : Go.bits .or .u32 x 67108864 = x') (HE : Aside0 (∀ p ∈ putP (va / 512) x' ps, (0 ≤ p.1 ∧ p.1 < 8388608) ∧ 0 ≤ p.2 ∧ p.2 < 4294967296)) (at_ : Int) (fk fv fi : Int) (hk : (fk == 0) = false) (PL : Aside0 (∀ W v' ps', MmuAt W base L v' T ps' l → Calls Try.prog 87 #[.pointer (some ⟨L.m, 0, none⟩), .agg #[.int .u32 va, .bool u, .bool wr]] W fun e w' => e = .returned (.tuple #[.int .u32 at_, .agg #[.int .i64 fk, .int .u32 fv, .int .u32 fi]]) ∧ Below W.heap.size W w')) :
    Calls Try.prog 69 #[.pointer (some ⟨L.m, 0, none⟩), .agg #[.int .u32 va, .bool u, .bool wr]] w fun e w' => e = .returned (.tuple #[]) ∧ MStep w w' base L v T (putP (va / 512) x' ps) l := by
  have M := Aside0.mk h
  have BX := box1 w (.cells #[.int .u32 va, .bool u, .bool wr] 118 (0, 0))
  obtain ⟨W, hW⟩ : ∃ W, w.alloc (.cells #[.int .u32 va, .bool u, .bool wr] 118 (0, 0)) = W := ⟨_, rfl⟩
  rw [hW] at BX
  have MW := Aside0.mk (M.out.then BX.1)
  have A := Aside0.mk BX.2
  have BB := Aside0.mk BX.1
  have c6 : W.cell? ⟨L.m, 6, none⟩ = some (.int .u32 T.men) := MW.out.cell 6
  clear h BX
  have hS : Aside0 (∀ W', Below W.heap.size W W' → W'.cell? ⟨L.m, 1, none⟩ = some (.pointer (some ⟨L.t, 0, none⟩)) ∧ W'.cell? ⟨w.heap.size, 0, none⟩ = some (.int .u32 va)) := ⟨fun W' hW => ⟨(M.out.then (below_step BB.out hW)).cell 1, cell_of_row _ _ 0 _ _ _ (row_then A.out hW)⟩⟩
  have hS0 := hS.out W (Below.refl _ _)
  go_enter Try.func69, Try.ntmps69
  go_wp2
  go_region_held3 (fun W' => W'.cell? ⟨L.m, 1, none⟩ = some (.pointer (some ⟨L.t, 0, none⟩)) ∧ W'.cell? ⟨w.heap.size, 0, none⟩ = some (.int .u32 va))
    (first | exact hS.out _ (by assumption) | exact hS.out _ ((Below.refl _ _).drew))
    (first
    | (go_at_call 84; (with_reducible refine (GT.out _ (below_step BB.out (Below.refl _ _).drew)).mono ?_); rintro e w1 ⟨rfl, hb⟩; have hb1 : Below W.heap.size W w1 := below_step ((Below.refl _ _).drew) hb))
  have BB := Aside0.mk (below_step BB.out hb1)
  have A := Aside0.mk (row_then A.out hb1)
  have M1 := Aside0.mk (M.out.then BB.out)
  clear hS0 hb1 hb c6
  have hT : Aside0 (∀ W', Below w1.heap.size w1 W' → W'.cell? ⟨L.m, 1, none⟩ = some (.pointer (some ⟨L.t, 0, none⟩)) ∧ W'.cell? ⟨w.heap.size, 0, none⟩ = some (.int .u32 va)) := ⟨fun W' hW => ⟨(M1.out.then hW).cell 1, cell_of_row _ _ 0 _ _ _ (row_then A.out hW)⟩⟩
  have hT0 := hT.out w1 (Below.refl _ _)
  go_wp2_with (first
    | (go_at_call 85; (with_reducible refine (PW.out _).mono ?_); rintro e w4 ⟨rfl, rfl⟩))
  go_region_held3 (fun W' => W'.cell? ⟨L.m, 1, none⟩ = some (.pointer (some ⟨L.t, 0, none⟩)) ∧ W'.cell? ⟨w.heap.size, 0, none⟩ = some (.int .u32 va))
    (first | exact hT.out _ (by assumption) | exact hT.out _ ((Below.refl _ _).drew) | exact hT2.out)
    (first
    | (go_at_call 86; (with_reducible refine (put_call _ _ _ _ _ (va / 512) x' (M1.out.then ((Below.refl _ _).drew)).tlb).mono ?_); rintro e w7 ⟨rfl, v7, h7, k7, n7⟩; have S7 := Aside0.mk ((M1.out.then ((Below.refl _ _).drew)).tlb_step h7 k7 (NextRow.of_or n7) HE.out); have hT2 : Aside0 (w7.cell? ⟨L.m, 1, none⟩ = some (.pointer (some ⟨L.t, 0, none⟩)) ∧ w7.cell? ⟨w.heap.size, 0, none⟩ = some (.int .u32 va)) := ⟨by obtain ⟨v8, h8, _⟩ := S7.out.at_; exact ⟨h8.cell 1, cell_of_row _ _ 0 _ _ _ (box_step M.out A.out (by have := (Array.getElem?_eq_some_iff.1 A.out).1; exact this) (Nat.le_refl _) S7.out)⟩⟩; have A7 := Aside0.mk (box_step M.out A.out (by have := (Array.getElem?_eq_some_iff.1 A.out).1; exact this) (Nat.le_refl _) S7.out); clear h7 k7 n7))
  have S := Aside0.mk (MStep.after (BB.out.drew) S7.out)
  obtain ⟨v1, m1, nx⟩ := S.out.at_
  have M1 := Aside0.mk m1
  have NX := Aside0.mk nx
  have A := A7
  clear m1 nx hT0
  have d0 : w7.cell? ⟨w.heap.size, 0, none⟩ = some (.int .u32 va) := cell_of_row _ _ 0 _ _ _ A.out
  have d1 : w7.cell? ⟨w.heap.size, 1, none⟩ = some (.bool u) := cell_of_row _ _ 1 _ _ _ A.out
  have d2 : w7.cell? ⟨w.heap.size, 2, none⟩ = some (.bool wr) := cell_of_row _ _ 2 _ _ _ A.out
  go_wp2_with (first
    | (go_at_call 87; (with_reducible refine (PL.out _ _ _ M1.out).mono ?_); rintro e w2 ⟨rfl, hb⟩; have B2 := Aside0.mk (below_alloc hb (.cells #[.int .i64 fk, .int .u32 fv, .int .u32 fi] 47 (0, 0))); have M2 := Aside0.mk (M1.out.then B2.out); have m0 := M2.out.cell 0; simp only [mmuCells, List.getElem?_toArray, List.getElem?_cons_zero, List.getElem?_cons_succ] at m0; clear hb))
  first | go_end0 | refine bodyPost_ret (results_none rfl _ _ _) rfl ?_
  exact ⟨rfl, S.out.then B2.out⟩
set_option maxRecDepth 100000 in
set_option maxHeartbeats 2000000 in
theorem mark_22 (w : World) (base : Nat) (L : Loc) (v : Value) (T : Tabs) (ps : List (Int × Int)) (l : List Int) (va : Int) (u wr : Bool) (h : MmuAt w base L v T ps l) (hm : (T.men == 0) = false) (x : Int) (GT : Aside0 (∀ W, Below w.heap.size w W → Calls Try.prog 84 #[.pointer (some ⟨L.t, 0, none⟩), .int .u32 (va / 512)] W fun e w' => e = .returned (.tuple #[.int .u32 x, .bool true]) ∧ Below W.heap.size W w')) (PW : Aside0 (∀ W, Calls Try.prog 85 #[.int .u32 x] W fun e w' => e = .returned (.bool false) ∧ W = w')) (x' : Int) (hx : Go.bits .or .u32 x 67108864 = x') (HE : Aside0 (∀ p ∈ putP (va / 512) x' ps, (0 ≤ p.1 ∧ p.1 < 8388608) ∧ 0 ≤ p.2 ∧ p.2 < 4294967296)) (at_ : Int) (PL : Aside0 (∀ W v' ps', MmuAt W base L v' T ps' l → Calls Try.prog 87 #[.pointer (some ⟨L.m, 0, none⟩), .agg #[.int .u32 va, .bool u, .bool wr]] W fun e w' => e = .returned (.tuple #[.int .u32 at_, .agg #[.int .i64 0, .int .u32 0, .int .u32 0]]) ∧ Below W.heap.size W w')) (y er : Int) (her : (er == 0) = false) (RG : Aside0 (∀ W v' ps', MmuAt W base L v' T ps' l → Calls Try.prog 41 #[.pointer (some ⟨L.r, 0, none⟩), .int .u32 at_, .int .i64 4] W fun e w' => e = .returned (.tuple #[.int .u32 y, .int .i64 er]) ∧ W = w')) :
    Calls Try.prog 69 #[.pointer (some ⟨L.m, 0, none⟩), .agg #[.int .u32 va, .bool u, .bool wr]] w fun e w' => e = .returned (.tuple #[]) ∧ MStep w w' base L v T (putP (va / 512) x' ps) l := by
  have M := Aside0.mk h
  have BX := box1 w (.cells #[.int .u32 va, .bool u, .bool wr] 118 (0, 0))
  obtain ⟨W, hW⟩ : ∃ W, w.alloc (.cells #[.int .u32 va, .bool u, .bool wr] 118 (0, 0)) = W := ⟨_, rfl⟩
  rw [hW] at BX
  have MW := Aside0.mk (M.out.then BX.1)
  have A := Aside0.mk BX.2
  have BB := Aside0.mk BX.1
  have c6 : W.cell? ⟨L.m, 6, none⟩ = some (.int .u32 T.men) := MW.out.cell 6
  clear h BX
  have hS : Aside0 (∀ W', Below W.heap.size W W' → W'.cell? ⟨L.m, 1, none⟩ = some (.pointer (some ⟨L.t, 0, none⟩)) ∧ W'.cell? ⟨w.heap.size, 0, none⟩ = some (.int .u32 va)) := ⟨fun W' hW => ⟨(M.out.then (below_step BB.out hW)).cell 1, cell_of_row _ _ 0 _ _ _ (row_then A.out hW)⟩⟩
  have hS0 := hS.out W (Below.refl _ _)
  go_enter Try.func69, Try.ntmps69
  go_wp2
  go_region_held3 (fun W' => W'.cell? ⟨L.m, 1, none⟩ = some (.pointer (some ⟨L.t, 0, none⟩)) ∧ W'.cell? ⟨w.heap.size, 0, none⟩ = some (.int .u32 va))
    (first | exact hS.out _ (by assumption) | exact hS.out _ ((Below.refl _ _).drew))
    (first
    | (go_at_call 84; (with_reducible refine (GT.out _ (below_step BB.out (Below.refl _ _).drew)).mono ?_); rintro e w1 ⟨rfl, hb⟩; have hb1 : Below W.heap.size W w1 := below_step ((Below.refl _ _).drew) hb))
  have BB := Aside0.mk (below_step BB.out hb1)
  have A := Aside0.mk (row_then A.out hb1)
  have M1 := Aside0.mk (M.out.then BB.out)
  clear hS0 hb1 hb c6
  have hT : Aside0 (∀ W', Below w1.heap.size w1 W' → W'.cell? ⟨L.m, 1, none⟩ = some (.pointer (some ⟨L.t, 0, none⟩)) ∧ W'.cell? ⟨w.heap.size, 0, none⟩ = some (.int .u32 va)) := ⟨fun W' hW => ⟨(M1.out.then hW).cell 1, cell_of_row _ _ 0 _ _ _ (row_then A.out hW)⟩⟩
  have hT0 := hT.out w1 (Below.refl _ _)
  go_wp2_with (first
    | (go_at_call 85; (with_reducible refine (PW.out _).mono ?_); rintro e w4 ⟨rfl, rfl⟩))
  go_region_held3 (fun W' => W'.cell? ⟨L.m, 1, none⟩ = some (.pointer (some ⟨L.t, 0, none⟩)) ∧ W'.cell? ⟨w.heap.size, 0, none⟩ = some (.int .u32 va))
    (first | exact hT.out _ (by assumption) | exact hT.out _ ((Below.refl _ _).drew) | exact hT2.out)
    (first
    | (go_at_call 86; (with_reducible refine (put_call _ _ _ _ _ (va / 512) x' (M1.out.then ((Below.refl _ _).drew)).tlb).mono ?_); rintro e w7 ⟨rfl, v7, h7, k7, n7⟩; have S7 := Aside0.mk ((M1.out.then ((Below.refl _ _).drew)).tlb_step h7 k7 (NextRow.of_or n7) HE.out); have hT2 : Aside0 (w7.cell? ⟨L.m, 1, none⟩ = some (.pointer (some ⟨L.t, 0, none⟩)) ∧ w7.cell? ⟨w.heap.size, 0, none⟩ = some (.int .u32 va)) := ⟨by obtain ⟨v8, h8, _⟩ := S7.out.at_; exact ⟨h8.cell 1, cell_of_row _ _ 0 _ _ _ (box_step M.out A.out (by have := (Array.getElem?_eq_some_iff.1 A.out).1; exact this) (Nat.le_refl _) S7.out)⟩⟩; have A7 := Aside0.mk (box_step M.out A.out (by have := (Array.getElem?_eq_some_iff.1 A.out).1; exact this) (Nat.le_refl _) S7.out); clear h7 k7 n7))
  have S := Aside0.mk (MStep.after (BB.out.drew) S7.out)
  obtain ⟨v1, m1, nx⟩ := S.out.at_
  have M1 := Aside0.mk m1
  have NX := Aside0.mk nx
  have A := A7
  clear m1 nx hT0
  have d0 : w7.cell? ⟨w.heap.size, 0, none⟩ = some (.int .u32 va) := cell_of_row _ _ 0 _ _ _ A.out
  have d1 : w7.cell? ⟨w.heap.size, 1, none⟩ = some (.bool u) := cell_of_row _ _ 1 _ _ _ A.out
  have d2 : w7.cell? ⟨w.heap.size, 2, none⟩ = some (.bool wr) := cell_of_row _ _ 2 _ _ _ A.out
  go_wp2_with (first
    | (go_at_call 87; (with_reducible refine (PL.out _ _ _ M1.out).mono ?_); rintro e w2 ⟨rfl, hb⟩; have B2 := Aside0.mk (below_alloc hb (.cells #[.int .i64 0, .int .u32 0, .int .u32 0] 47 (0, 0))); have M2 := Aside0.mk (M1.out.then B2.out); have m0 := M2.out.cell 0; simp only [mmuCells, List.getElem?_toArray, List.getElem?_cons_zero, List.getElem?_cons_succ] at m0; clear hb)
    | (go_at_call 41; (with_reducible refine (RG.out _ _ _ M2.out).mono ?_); rintro e w3 ⟨rfl, rfl⟩))
  first | go_end0 | refine bodyPost_ret (results_none rfl _ _ _) rfl ?_
  exact ⟨rfl, S.out.then B2.out⟩
set_option maxRecDepth 100000 in
set_option maxHeartbeats 2000000 in
theorem mark_23 (w : World) (base : Nat) (L : Loc) (v : Value) (T : Tabs) (ps : List (Int × Int)) (l : List Int) (va : Int) (u wr : Bool) (h : MmuAt w base L v T ps l) (hm : (T.men == 0) = false) (x : Int) (GT : Aside0 (∀ W, Below w.heap.size w W → Calls Try.prog 84 #[.pointer (some ⟨L.t, 0, none⟩), .int .u32 (va / 512)] W fun e w' => e = .returned (.tuple #[.int .u32 x, .bool true]) ∧ Below W.heap.size W w')) (PW : Aside0 (∀ W, Calls Try.prog 85 #[.int .u32 x] W fun e w' => e = .returned (.bool false) ∧ W = w')) (x' : Int) (hx : Go.bits .or .u32 x 67108864 = x') (HE : Aside0 (∀ p ∈ putP (va / 512) x' ps, (0 ≤ p.1 ∧ p.1 < 8388608) ∧ 0 ≤ p.2 ∧ p.2 < 4294967296)) (at_ : Int) (PL : Aside0 (∀ W v' ps', MmuAt W base L v' T ps' l → Calls Try.prog 87 #[.pointer (some ⟨L.m, 0, none⟩), .agg #[.int .u32 va, .bool u, .bool wr]] W fun e w' => e = .returned (.tuple #[.int .u32 at_, .agg #[.int .i64 0, .int .u32 0, .int .u32 0]]) ∧ Below W.heap.size W w')) (y y' : Int) (RG : Aside0 (∀ W v' ps', MmuAt W base L v' T ps' l → Calls Try.prog 41 #[.pointer (some ⟨L.r, 0, none⟩), .int .u32 at_, .int .i64 4] W fun e w' => e = .returned (.tuple #[.int .u32 y, .int .i64 0]) ∧ W = w')) (hy : Go.bits .or .u32 y 67108864 = y') (l' : List Int) (RP : Aside0 (∀ W v' ps', MmuAt W base L v' T ps' l → Calls Try.prog 39 #[.pointer (some ⟨L.r, 0, none⟩), .int .u32 at_, .int .u32 y', .int .i64 4] W fun e w' => e = .returned (.int .i64 0) ∧ MStep W w' base L v' T ps' l')) :
    Calls Try.prog 69 #[.pointer (some ⟨L.m, 0, none⟩), .agg #[.int .u32 va, .bool u, .bool wr]] w fun e w' => e = .returned (.tuple #[]) ∧ MStep w w' base L v T (putP (va / 512) x' ps) l' := by
  have M := Aside0.mk h
  have BX := box1 w (.cells #[.int .u32 va, .bool u, .bool wr] 118 (0, 0))
  obtain ⟨W, hW⟩ : ∃ W, w.alloc (.cells #[.int .u32 va, .bool u, .bool wr] 118 (0, 0)) = W := ⟨_, rfl⟩
  rw [hW] at BX
  have MW := Aside0.mk (M.out.then BX.1)
  have A := Aside0.mk BX.2
  have BB := Aside0.mk BX.1
  have c6 : W.cell? ⟨L.m, 6, none⟩ = some (.int .u32 T.men) := MW.out.cell 6
  clear h BX
  have hS : Aside0 (∀ W', Below W.heap.size W W' → W'.cell? ⟨L.m, 1, none⟩ = some (.pointer (some ⟨L.t, 0, none⟩)) ∧ W'.cell? ⟨w.heap.size, 0, none⟩ = some (.int .u32 va)) := ⟨fun W' hW => ⟨(M.out.then (below_step BB.out hW)).cell 1, cell_of_row _ _ 0 _ _ _ (row_then A.out hW)⟩⟩
  have hS0 := hS.out W (Below.refl _ _)
  go_enter Try.func69, Try.ntmps69
  go_wp2
  go_region_held3 (fun W' => W'.cell? ⟨L.m, 1, none⟩ = some (.pointer (some ⟨L.t, 0, none⟩)) ∧ W'.cell? ⟨w.heap.size, 0, none⟩ = some (.int .u32 va))
    (first | exact hS.out _ (by assumption) | exact hS.out _ ((Below.refl _ _).drew))
    (first
    | (go_at_call 84; (with_reducible refine (GT.out _ (below_step BB.out (Below.refl _ _).drew)).mono ?_); rintro e w1 ⟨rfl, hb⟩; have hb1 : Below W.heap.size W w1 := below_step ((Below.refl _ _).drew) hb))
  have BB := Aside0.mk (below_step BB.out hb1)
  have A := Aside0.mk (row_then A.out hb1)
  have M1 := Aside0.mk (M.out.then BB.out)
  clear hS0 hb1 hb c6
  have hT : Aside0 (∀ W', Below w1.heap.size w1 W' → W'.cell? ⟨L.m, 1, none⟩ = some (.pointer (some ⟨L.t, 0, none⟩)) ∧ W'.cell? ⟨w.heap.size, 0, none⟩ = some (.int .u32 va)) := ⟨fun W' hW => ⟨(M1.out.then hW).cell 1, cell_of_row _ _ 0 _ _ _ (row_then A.out hW)⟩⟩
  have hT0 := hT.out w1 (Below.refl _ _)
  go_wp2_with (first
    | (go_at_call 85; (with_reducible refine (PW.out _).mono ?_); rintro e w4 ⟨rfl, rfl⟩))
  go_region_held3 (fun W' => W'.cell? ⟨L.m, 1, none⟩ = some (.pointer (some ⟨L.t, 0, none⟩)) ∧ W'.cell? ⟨w.heap.size, 0, none⟩ = some (.int .u32 va))
    (first | exact hT.out _ (by assumption) | exact hT.out _ ((Below.refl _ _).drew) | exact hT2.out)
    (first
    | (go_at_call 86; (with_reducible refine (put_call _ _ _ _ _ (va / 512) x' (M1.out.then ((Below.refl _ _).drew)).tlb).mono ?_); rintro e w7 ⟨rfl, v7, h7, k7, n7⟩; have S7 := Aside0.mk ((M1.out.then ((Below.refl _ _).drew)).tlb_step h7 k7 (NextRow.of_or n7) HE.out); have hT2 : Aside0 (w7.cell? ⟨L.m, 1, none⟩ = some (.pointer (some ⟨L.t, 0, none⟩)) ∧ w7.cell? ⟨w.heap.size, 0, none⟩ = some (.int .u32 va)) := ⟨by obtain ⟨v8, h8, _⟩ := S7.out.at_; exact ⟨h8.cell 1, cell_of_row _ _ 0 _ _ _ (box_step M.out A.out (by have := (Array.getElem?_eq_some_iff.1 A.out).1; exact this) (Nat.le_refl _) S7.out)⟩⟩; have A7 := Aside0.mk (box_step M.out A.out (by have := (Array.getElem?_eq_some_iff.1 A.out).1; exact this) (Nat.le_refl _) S7.out); clear h7 k7 n7))
  have S := Aside0.mk (MStep.after (BB.out.drew) S7.out)
  obtain ⟨v1, m1, nx⟩ := S.out.at_
  have M1 := Aside0.mk m1
  have NX := Aside0.mk nx
  have A := A7
  clear m1 nx hT0
  have d0 : w7.cell? ⟨w.heap.size, 0, none⟩ = some (.int .u32 va) := cell_of_row _ _ 0 _ _ _ A.out
  have d1 : w7.cell? ⟨w.heap.size, 1, none⟩ = some (.bool u) := cell_of_row _ _ 1 _ _ _ A.out
  have d2 : w7.cell? ⟨w.heap.size, 2, none⟩ = some (.bool wr) := cell_of_row _ _ 2 _ _ _ A.out
  go_wp2_with (first
    | (go_at_call 87; (with_reducible refine (PL.out _ _ _ M1.out).mono ?_); rintro e w2 ⟨rfl, hb⟩; have B2 := Aside0.mk (below_alloc hb (.cells #[.int .i64 0, .int .u32 0, .int .u32 0] 47 (0, 0))); have M2 := Aside0.mk (M1.out.then B2.out); have m0 := M2.out.cell 0; simp only [mmuCells, List.getElem?_toArray, List.getElem?_cons_zero, List.getElem?_cons_succ] at m0; clear hb)
    | (go_at_call 41; (with_reducible refine (RG.out _ _ _ M2.out).mono ?_); rintro e w3 ⟨rfl, rfl⟩)
    | (go_at_call 39; (with_reducible refine (RP.out _ _ _ M2.out).mono ?_); rintro e w5 ⟨rfl, s5⟩; have S5 := Aside0.mk s5; clear s5))
  first | go_end0 | refine bodyPost_ret (results_none rfl _ _ _) rfl ?_
  exact ⟨rfl, MStep.via (S.out.chg.then B2.out) NX.out S5.out⟩
end Go.Proofs.Ytiogbgjeimdgmaa.MmuWalk
/- The MMU's mark: its contract; what Store does, in plain numbers. -/
namespace Go.Proofs.Ytiogbgjeimdgmaa.MmuWalk
open Go.RowKit Go.Proofs.Ytiogbgjeimdgmaa.Aid Go.Proofs.YtiogbgjeimdgmaaW.PrintWords Go.Proofs.YtiogbgjeimdgmaaW.PrintLast Go.Proofs.YtiogbgjeimdgmaaW.PrintMore
open Go.Proofs.Ytiogbgjeimdgmaa.RamWalk (RamAt Bytes leN leN_bounds get_i get_bus_i put_i putL putL_length putL_bytes load_call)
open Go.Proofs.Ytiogbgjeimdgmaa.TlbWalk (TlbAt Kept2 putP dropP posP entP nil2 get_yes get_no put_call mem_getD putP_mem)
set_option linter.unusedVariables false
set_option linter.unusedSimpArgs false
theorem mark_call (w : World) (base : Nat) (L : Loc) (v : Value) (T : Tabs) (ps : List (Int × Int)) (l : List Int) (va : Int) (u wr : Bool) (hv : R32 va) (h : MmuAt w base L v T ps l) :
    Calls Try.prog 69 #[.pointer (some ⟨L.m, 0, none⟩), .agg #[.int .u32 va, .bool u, .bool wr]] w fun e w' => e = .returned (.tuple #[]) ∧ MStep w w' base L v T (markP T ps va) (markL T ps l va) := by
  unfold markP markL
  by_cases hm : T.men = 0
  · rw [if_pos hm, if_pos hm]
    exact mark_0 w base L v T ps l va u wr h hm
  · have hm' : (T.men == 0) = false := beq_eq_false_iff_ne.mpr hm
    rw [if_neg hm, if_neg hm]
    have ha := atE_r T va
    have PL := Aside0.mk (fun W v' ps' (k : MmuAt W base L v' T ps' l) => place_call W base L v' T ps' l va u wr hv k)
    unfold accV at PL
    by_cases hin : posP (va / 512) ps < ps.length
    · rw [if_pos hin, if_pos hin]
      have GT : Aside0 (∀ W, Below w.heap.size w W → Calls Try.prog 84 #[.pointer (some ⟨L.t, 0, none⟩), .int .u32 (va / 512)] W fun e w' => e = .returned (.tuple #[.int .u32 (entP (va / 512) ps), .bool true]) ∧ Below W.heap.size W w') := ⟨fun W hW => by
        have := get_yes W base L.t v ps (va / 512) (h.then hW).tlb hin
        unfold entP; rw [if_pos hin]; exact this⟩
      have hxr := entP_r h (va / 512)
      generalize entP (va / 512) ps = x at *
      cases hw : wrE x
      · have HE : Aside0 (∀ p ∈ putP (va / 512) (orM x) ps, (0 ≤ p.1 ∧ p.1 < 8388608) ∧ 0 ≤ p.2 ∧ p.2 < 4294967296) := ⟨fun p hp => by
          rcases putP_mem _ _ _ _ hp with hp | rfl
          · exact h.ents p hp
          · exact ⟨by have := hv.1; have := hv.2; show 0 ≤ va / 512 ∧ va / 512 < 8388608; omega, orM_r hxr⟩⟩
        simp only [Bool.false_eq_true, if_false]
        unfold memMark
        cases hoff : offE T va
        · rw [hoff] at PL
          simp only [Bool.false_eq_true, if_false] at PL ⊢
          by_cases hb : atE T va + 4 ≤ l.length
          · rw [if_pos hb]
            have hyr := lenum_r h.by_ (atE T va).toNat (by have := ha.1; omega)
            have RG : Aside0 (∀ W v' ps', MmuAt W base L v' T ps' l → Calls Try.prog 41 #[.pointer (some ⟨L.r, 0, none⟩), .int .u32 (atE T va), .int .i64 4] W fun e w' => e = .returned (.tuple #[.int .u32 (leN ((l.drop (atE T va).toNat).take 4)), .int .i64 0]) ∧ W = w') :=
              ⟨fun W v' ps' k => get_i W base L.r L.b l.length L.c l k.by_ (atE T va) 4 ha.1 ha.2 k.ram (by decide) hb (by decide) _ rfl⟩
            generalize leN ((l.drop (atE T va).toNat).take 4) = y at *
            have hz := orM_r hyr
            refine mark_23 w base L v T ps l va u wr h hm' x GT ⟨fun W => hw ▸ pwr_call W x hxr⟩ (orM x) (or_mod x hxr) HE (atE T va) PL y (orM y) RG (or_mod y hyr) (putL l (atE T va).toNat (orM y) 4) ⟨fun W v' ps' k => ?_⟩
            refine (put_i W base L.r L.b l.length L.c l (atE T va) 4 (orM y) hz.1 hz.2 ha.1 ha.2 k.ram (by decide) hb (by decide)).mono ?_
            rintro e w' ⟨rfl, hr, hg⟩
            exact ⟨rfl, k.ram_step (putL_length _ _ _ _) hr hg (putL_bytes _ k.by_ _ _ _)⟩
          · rw [if_neg hb]
            have RG : Aside0 (∀ W v' ps', MmuAt W base L v' T ps' l → Calls Try.prog 41 #[.pointer (some ⟨L.r, 0, none⟩), .int .u32 (atE T va), .int .i64 4] W fun e w' => e = .returned (.tuple #[.int .u32 0, .int .i64 6]) ∧ W = w') :=
              ⟨fun W v' ps' k => get_bus_i W base L.r L.b l.length L.c l (atE T va) 4 ha.1 ha.2 k.ram (fun c => hb c.2.1)⟩
            exact mark_22 w base L v T ps l va u wr h hm' x GT ⟨fun W => hw ▸ pwr_call W x hxr⟩ (orM x) (or_mod x hxr) HE (atE T va) PL 0 6 (by decide) RG
        · rw [hoff] at PL
          simp only [if_true] at PL ⊢
          exact mark_21 w base L v T ps l va u wr h hm' x GT ⟨fun W => hw ▸ pwr_call W x hxr⟩ (orM x) (or_mod x hxr) HE 0 2 va (flt 2 va 1 wr).2.2 (by decide) PL
      · simp only [if_true]
        exact mark_1 w base L v T ps l va u wr h hm' x GT ⟨fun W => hw ▸ pwr_call W x hxr⟩
    · rw [if_neg hin, if_neg hin]
      have GT : Aside0 (∀ W, Below w.heap.size w W → Calls Try.prog 84 #[.pointer (some ⟨L.t, 0, none⟩), .int .u32 (va / 512)] W fun e w' => e = .returned (.tuple #[.int .u32 0, .bool false]) ∧ Below W.heap.size W w') := ⟨fun W hW => get_no W base L.t v ps (va / 512) (h.then hW).tlb hin⟩
      unfold memMark
      cases hoff : offE T va
      · rw [hoff] at PL
        simp only [Bool.false_eq_true, if_false] at PL ⊢
        by_cases hb : atE T va + 4 ≤ l.length
        · rw [if_pos hb]
          have hyr := lenum_r h.by_ (atE T va).toNat (by have := ha.1; omega)
          have RG : Aside0 (∀ W v' ps', MmuAt W base L v' T ps' l → Calls Try.prog 41 #[.pointer (some ⟨L.r, 0, none⟩), .int .u32 (atE T va), .int .i64 4] W fun e w' => e = .returned (.tuple #[.int .u32 (leN ((l.drop (atE T va).toNat).take 4)), .int .i64 0]) ∧ W = w') :=
            ⟨fun W v' ps' k => get_i W base L.r L.b l.length L.c l k.by_ (atE T va) 4 ha.1 ha.2 k.ram (by decide) hb (by decide) _ rfl⟩
          generalize leN ((l.drop (atE T va).toNat).take 4) = y at *
          have hz := orM_r hyr
          refine mark_13 w base L v T ps l va u wr h hm' 0 GT (atE T va) PL y (orM y) RG (or_mod y hyr) (putL l (atE T va).toNat (orM y) 4) ⟨fun W v' ps' k => ?_⟩
          refine (put_i W base L.r L.b l.length L.c l (atE T va) 4 (orM y) hz.1 hz.2 ha.1 ha.2 k.ram (by decide) hb (by decide)).mono ?_
          rintro e w' ⟨rfl, hr, hg⟩
          exact ⟨rfl, k.ram_step (putL_length _ _ _ _) hr hg (putL_bytes _ k.by_ _ _ _)⟩
        · rw [if_neg hb]
          have RG : Aside0 (∀ W v' ps', MmuAt W base L v' T ps' l → Calls Try.prog 41 #[.pointer (some ⟨L.r, 0, none⟩), .int .u32 (atE T va), .int .i64 4] W fun e w' => e = .returned (.tuple #[.int .u32 0, .int .i64 6]) ∧ W = w') :=
            ⟨fun W v' ps' k => get_bus_i W base L.r L.b l.length L.c l (atE T va) 4 ha.1 ha.2 k.ram (fun c => hb c.2.1)⟩
          exact mark_12 w base L v T ps l va u wr h hm' 0 GT (atE T va) PL 0 6 (by decide) RG
      · rw [hoff] at PL
        simp only [if_true] at PL ⊢
        exact mark_11 w base L v T ps l va u wr h hm' 0 GT 0 2 va (flt 2 va 1 wr).2.2 (by decide) PL
/-- The marks of pieces; the bytes laid into them. -/
def markS (T : Tabs) (s : List (Int × Int) × List Int) (p : Pc) : List (Int × Int) × List Int := (markP T s.1 p.1, markL T s.1 s.2 p.1)
def marks (T : Tabs) (xs : List Pc) (ps : List (Int × Int)) (l : List Int) : List (Int × Int) × List Int := xs.foldl (markS T) (ps, l)
def layS (s : List Int × List Int) (p : Pc) : List Int × List Int := (s.1.take p.2.1.toNat ++ (s.2.take p.2.2 ++ s.1.drop (p.2.1.toNat + p.2.2)), s.2.drop p.2.2)
def lays (xs : List Pc) (l bs : List Int) : List Int × List Int := xs.foldl layS (l, bs)
def sumN (xs : List Pc) : Nat := (xs.map fun p => p.2.2).sum
theorem take_snoc {α : Type} (xs : List α) (d : α) (j : Nat) (hj : j < xs.length) : xs.take (j + 1) = xs.take j ++ [xs.getD j d] := by
  rw [List.take_add_one, List.getElem?_eq_getElem hj, List.getD_eq_getElem?_getD, List.getElem?_eq_getElem hj]; rfl
theorem marks_next (T : Tabs) (xs : List Pc) (ps : List (Int × Int)) (l : List Int) (j : Nat) (hj : j < xs.length) : marks T (xs.take (j + 1)) ps l = markS T (marks T (xs.take j) ps l) (xs.getD j (0, 0, 0)) := by
  unfold marks
  rw [take_snoc xs (0, 0, 0) j hj, List.foldl_append]; rfl
theorem lays_next (xs : List Pc) (l bs : List Int) (j : Nat) (hj : j < xs.length) : lays (xs.take (j + 1)) l bs = layS (lays (xs.take j) l bs) (xs.getD j (0, 0, 0)) := by
  unfold lays
  rw [take_snoc xs (0, 0, 0) j hj, List.foldl_append]; rfl
theorem marks_length (T : Tabs) : ∀ (xs : List Pc) (ps : List (Int × Int)) (l : List Int), (marks T xs ps l).2.length = l.length
  | [], ps, l => rfl
  | p :: xs, ps, l => (marks_length T xs (markP T ps p.1) (markL T ps l p.1)).trans (markL_length T ps l p.1)
theorem memMark_bytes {T : Tabs} {l : List Int} (h : Bytes l) (va : Int) : Bytes (memMark T l va) := by
  unfold memMark
  split
  · exact h
  · split
    · exact putL_bytes _ h _ _ _
    · exact h
theorem markL_bytes {T : Tabs} {l : List Int} (h : Bytes l) (ps : List (Int × Int)) (va : Int) : Bytes (markL T ps l va) := by
  unfold markL
  split
  · exact h
  · split
    · split
      · exact h
      · exact memMark_bytes h va
    · exact memMark_bytes h va
theorem marks_bytes {T : Tabs} : ∀ (xs : List Pc) {ps : List (Int × Int)} {l : List Int}, Bytes l → Bytes (marks T xs ps l).2
  | [], ps, l, h => h
  | p :: xs, ps, l, h => marks_bytes xs (markL_bytes h ps p.1)
theorem Pcs.total {T : Tabs} {l : List Int} {u wr keep : Bool} {ps : List (Int × Int)} {va n : Int} {xs : List Pc} {f : Flt} {ps' : List (Int × Int)} (h : Pcs T l u wr keep ps va n xs f ps') : f.1 = 0 → sumN xs = n.toNat := by
  induction h with
  | done h => intro _; show 0 = _; omega
  | stop h hf => intro c; exact absurd c hf
  | @more ps0 va0 n0 xs f ps' h hf k ih =>
    intro c
    have h2 := stepN_pos (va := va0) h
    have := ih c
    rw [if_pos c]
    show (stepN va0 n0).toNat + sumN xs = _
    omega
/-- The memory laid into; its length; the bytes left. -/
theorem layS_length (s : List Int × List Int) (p : Pc) (h1 : p.2.1.toNat + p.2.2 ≤ s.1.length) (h2 : p.2.2 ≤ s.2.length) : (layS s p).1.length = s.1.length ∧ (layS s p).2.length = s.2.length - p.2.2 := by
  unfold layS
  simp only [List.length_append, List.length_take, List.length_drop]
  generalize p.2.1.toNat = q at *
  refine ⟨?_, trivial⟩
  omega
theorem lays_length : ∀ (xs : List Pc) (l bs : List Int), (∀ p ∈ xs, p.2.1.toNat + p.2.2 ≤ l.length) → sumN xs ≤ bs.length → (lays xs l bs).1.length = l.length ∧ (lays xs l bs).2.length = bs.length - sumN xs
  | [], l, bs, _, _ => ⟨rfl, rfl⟩
  | p :: xs, l, bs, h, hs => by
    have hs' : p.2.2 + sumN xs ≤ bs.length := hs
    obtain ⟨e1, e2⟩ := layS_length (l, bs) p (h p List.mem_cons_self) (show p.2.2 ≤ bs.length by omega)
    have e1 : (layS (l, bs) p).1.length = l.length := e1
    have e2 : (layS (l, bs) p).2.length = bs.length - p.2.2 := e2
    obtain ⟨i1, i2⟩ := lays_length xs (layS (l, bs) p).1 (layS (l, bs) p).2 (fun q hq => by rw [e1]; exact h q (List.mem_cons_of_mem _ hq)) (by rw [e2]; omega)
    refine ⟨i1.trans e1, i2.trans ?_⟩
    rw [e2]
    show bs.length - p.2.2 - sumN xs = bs.length - (p.2.2 + sumN xs)
    omega
theorem sumN_take (xs : List Pc) (j : Nat) : sumN (xs.take j) ≤ sumN xs := by
  have e : sumN xs = sumN (xs.take j) + sumN (xs.drop j) := by
    unfold sumN
    conv => lhs; rw [← List.take_append_drop j xs]
    rw [List.map_append, List.sum_append]
  omega
theorem sumN_next (xs : List Pc) (j : Nat) (hj : j < xs.length) : sumN (xs.take (j + 1)) = sumN (xs.take j) + (xs.getD j (0, 0, 0)).2.2 := by
  rw [take_snoc xs (0, 0, 0) j hj]
  unfold sumN
  rw [List.map_append, List.sum_append]; rfl
theorem lays_bytes : ∀ (xs : List Pc) {l bs : List Int}, Bytes l → Bytes bs → Bytes (lays xs l bs).1
  | [], l, bs, h, _ => h
  | p :: xs, l, bs, h, k => by
    refine lays_bytes xs (l := (layS (l, bs) p).1) (bs := (layS (l, bs) p).2) ?_ (k.drop _)
    intro x hx
    rcases List.mem_append.1 hx with hx | hx
    · exact h.take _ x hx
    · rcases List.mem_append.1 hx with hx | hx
      · exact k.take _ x hx
      · exact h.drop _ x hx
/-- Bytes read stay where their block does. -/
theorem reads_chg {S : Nat → Prop} {w W : World} {k : IntKind} {A : Option Addr} {n : Nat} {xs : List Int} (h : ReadsInt w k A n xs) (c : Chg S w W) (hA : ∀ a, A = some a → 0 < n → ¬ S a.block) : ReadsInt W k A n xs :=
  ⟨h.1, h.2.1, fun hn => by
    obtain ⟨ad, e, hc⟩ := h.2.2 hn
    refine ⟨ad, e, fun j hj => ?_⟩
    have hb := World.block_lt_of_cell? w _ (hc j hj)
    have hbk : (ad.add j).block = ad.block := by unfold Addr.add; split <;> rfl
    rw [hbk] at hb
    exact (World.cell?_of_block (w := w) (by rw [hbk]; exact c.block ad.block hb (hA ad e hn))).trans (hc j hj)⟩
theorem load_at (w : World) (base g b c m n : Nat) (l ys : List Int) (at_ : Nat) (A : Option Addr) (cap : Nat) (hm : l.length = m) (hn : ys.length = n) (ha : at_ < 4294967296) (h : RamAt w base g (.slice (some ⟨b, 0, none⟩) m c) l) (hy : ReadsInt w .u8 A n ys) (h1 : at_ + n ≤ m) :
    Calls Try.prog 16 #[.pointer (some ⟨g, 0, none⟩), .int .u32 at_, .slice A n cap] w fun e w' => e = .returned (.int .i64 0) ∧ RamAt w' base g (.slice (some ⟨b, 0, none⟩) m c) (l.take at_ ++ (ys ++ l.drop (at_ + n))) ∧ w.grownBy w' (some b) := by
  subst hm hn
  exact Go.Proofs.Ytiogbgjeimdgmaa.RamWalk.load_call w base g b c l ys at_ A cap ha h hy h1
end Go.Proofs.Ytiogbgjeimdgmaa.MmuWalk
/- The MMU's Store, walked. -/
namespace Go.Proofs.Ytiogbgjeimdgmaa.MmuWalk
open Go.RowKit Go.Proofs.Ytiogbgjeimdgmaa.Aid Go.Proofs.YtiogbgjeimdgmaaW.PrintWords Go.Proofs.YtiogbgjeimdgmaaW.PrintLast Go.Proofs.YtiogbgjeimdgmaaW.PrintMore
open Go.Proofs.Ytiogbgjeimdgmaa.RamWalk (RamAt Bytes leN info5 bytes_n)
open Go.Proofs.Ytiogbgjeimdgmaa.TlbWalk (TlbAt Kept2 putP dropP posP entP nil2 own_some own_val own_then)
attribute [local go_sem] max2_int min2_int max_two min_two max_three min_three max_four min_four   -- for this text's walks alone
set_option linter.unusedVariables false
set_option linter.unusedSimpArgs false
/-- What Store leaves of the buffer and of the memory. -/
def storeP (T : Tabs) (xs : List Pc) (fk : Int) (ps : List (Int × Int)) (l : List Int) : List (Int × Int) := if fk = 0 then (marks T xs ps l).1 else ps
def storeL (T : Tabs) (xs : List Pc) (fk : Int) (ps : List (Int × Int)) (l bs : List Int) : List Int := if fk = 0 then (lays xs (marks T xs ps l).2 bs).1 else l
/-- At the head of the second loop: the memory, and the bytes that are left. -/
structure BHead (V wr : World) (base : Nat) (L : Loc) (v : Value) (T : Tabs) (ps : List (Int × Int)) (xs : List Pc) (l1 bs : List Int) (j : Nat) (A : Option Addr) (m c : Nat) : Prop where
  st : MStep V wr base L v T ps (lays (xs.take j) l1 bs).1
  len : (lays (xs.take j) l1 bs).2.length = m
  cap : m ≤ c
  rd : ReadsInt V .u8 A m (lays (xs.take j) l1 bs).2
  apart : ∀ a, A = some a → 0 < m → ¬ foot L v a.block
theorem reads_tail {w : World} {A : Option Addr} {n : Nat} {xs : List Int} (h : ReadsInt w .u8 A n xs) (k : Nat) (hk : k ≤ n) : ReadsInt w .u8 (A.map (·.add k)) (n - k) (xs.drop k) := by
  refine ⟨by rw [List.length_drop, h.1], by have := h.2.1; omega, fun hn => ?_⟩
  obtain ⟨ad, rfl, hc⟩ := h.2.2 (by omega)
  refine ⟨ad.add k, rfl, fun j hj => ?_⟩
  have e : (ad.add k).add j = ad.add (k + j) := by
    unfold Addr.add
    by_cases hk0 : k = 0
    · subst hk0; simp
    · by_cases hj0 : j = 0
      · subst hj0; simp [hk0]
      · have hkj : ¬ k + j = 0 := by omega
        simp [hk0, hj0, hkj]; omega
  rw [e, hc (k + j) (by omega), List.getD_eq_getElem?_getD, List.getD_eq_getElem?_getD, List.getElem?_drop]
theorem reads_head {w : World} {A : Option Addr} {n : Nat} {xs : List Int} (h : ReadsInt w .u8 A n xs) (k : Nat) (hk : k ≤ n) : ReadsInt w .u8 A k (xs.take k) := by
  refine ⟨by rw [List.length_take, h.1]; omega, by have := h.2.1; omega, fun hn => ?_⟩
  obtain ⟨ad, rfl, hc⟩ := h.2.2 (by omega)
  refine ⟨ad, rfl, fun j hj => ?_⟩
  rw [hc j (by omega), List.getD_eq_getElem?_getD, List.getD_eq_getElem?_getD, List.getElem?_take_of_lt hj]
theorem map_block {A : Option Addr} {k : Nat} {a : Addr} (h : A.map (·.add k) = some a) : ∃ b, A = some b ∧ a.block = b.block := by
  cases A with
  | none => simp at h
  | some b =>
    simp only [Option.map_some, Option.some.injEq] at h
    refine ⟨b, rfl, ?_⟩
    rw [← h]; unfold Addr.add; split <;> rfl
/-- There always are pieces, or a fault. -/
theorem Pcs.ex (T : Tabs) (l : List Int) (u wr keep : Bool) : ∀ (k : Nat) (ps : List (Int × Int)) (va n : Int), n.toNat ≤ k → ∃ xs f ps', Pcs T l u wr keep ps va n xs f ps'
  | 0, ps, va, n, hk => ⟨_, _, _, .done (by omega)⟩
  | k + 1, ps, va, n, hk => by
    by_cases hn : n ≤ 0
    · exact ⟨_, _, _, .done hn⟩
    · have h0 : 0 < n := by omega
      have h1 := stepN_pos (va := va) h0
      by_cases hf : (findF T ps l va (stepN va n) u wr).2.1 = 0
      · obtain ⟨xs, f, ps', h⟩ := Pcs.ex T l u wr keep k (findP T ps l va u wr keep) ((va + stepN va n) % 4294967296) (n - stepN va n) (by omega)
        exact ⟨_, _, _, .more h0 hf h⟩
      · exact ⟨_, _, _, .stop h0 hf⟩
theorem pieces_is (w : World) (base : Nat) (L : Loc) (v : Value) (T : Tabs) (ps : List (Int × Int)) (l : List Int) (va n : Int) (u wt keep : Bool) (hv : R32 va) (hn : n ≤ 65536) (hn0 : -9223372036854775808 ≤ n) (h : MmuAt w base L v T ps l) (xs : List Pc) (fk fv fi : Int) (ps' : List (Int × Int)) (hp : Pcs T l u wt keep ps va n xs (fk, fv, fi) ps') :
    Calls Try.prog 68 #[.pointer (some ⟨L.m, 0, none⟩), .int .u32 va, .int .i64 n, .bool u, .bool wt, .bool keep] w fun e w' => ∃ A c, e = .returned (.tuple #[.slice A xs.length c, .agg #[.int .i64 fk, .int .u32 fv, .int .u32 fi]]) ∧ MStep w w' base L v T ps' l ∧ w'.ownsRow w.heap.size 123 5 (.slice A xs.length c) xs.length (pcs5 u wt xs) :=
  (pieces_v w base L v T ps l va n u wt keep hv hn hn0 h).mono fun e w' ⟨A, c, ys, gk, gv, gi, ps2, h1, h2, h3, h4⟩ => by
    obtain ⟨rfl, h5, rfl⟩ := hp.det h1
    simp only [Prod.mk.injEq] at h5
    obtain ⟨rfl, rfl, rfl⟩ := h5
    exact ⟨A, c, h2, h3, h4⟩
set_option maxRecDepth 100000 in
set_option maxHeartbeats 4000000 in
theorem store_flt (w : World) (base : Nat) (L : Loc) (v : Value) (T : Tabs) (ps : List (Int × Int)) (l : List Int) (va : Int) (u : Bool) (A : Option Addr) (n c : Nat) (xs : List Pc) (fk fv fi : Int) (ps' : List (Int × Int)) (hv : R32 va) (hn : n ≤ 65536) (hp : Pcs T l u true true ps va n xs (fk, fv, fi) ps') (hk : (fk == 0) = false) (h : MmuAt w base L v T ps l) :
    Calls Try.prog 38 #[.pointer (some ⟨L.m, 0, none⟩), .int .u32 va, .bool u, .slice A n c] w fun e w' => e = .returned (.agg #[.int .i64 fk, .int .u32 fv, .int .u32 fi]) ∧ MStep w w' base L v T ps' l := by
  have M := Aside0.mk h
  have BX := box1 w (.cells #[.int .i64 0, .int .u32 0, .int .u32 0] 47 (0, 0))
  obtain ⟨W, hW⟩ : ∃ W, w.alloc (.cells #[.int .i64 0, .int .u32 0, .int .u32 0] 47 (0, 0)) = W := ⟨_, rfl⟩
  rw [hW] at BX
  have Z := Aside0.mk BX.2
  have BB := Aside0.mk BX.1
  have PC := Aside0.mk (pieces_is W base L v T ps l va n u true true hv (by omega) (by omega) (M.out.then BX.1) xs fk fv fi ps' hp)
  clear h BX hv hn hp
  go_enter Try.func38, Try.ntmps38
  go_wp2_with (first
    | (go_at_call 68; (with_reducible refine (PC.out).mono ?_); rintro e w2 ⟨A', c', rfl, s, ho⟩; have S := Aside0.mk (MStep.after BB.out s); have Z := Aside0.mk (box_keep M.out Z.out (Nat.le_refl _) s); clear s ho)
    | (refine wpList_store_row rfl 47 (.tmp 8) (.tmp 31) rfl w.heap.size #[.int .i64 fk, .int .u32 fv, .int .u32 fi] rfl rfl _ _ (row_then Z.out (below_alloc (Below.refl _ _) _)) infoF rfl (by kernel_rfl) ?_))
  refine bodyPost_ret (results_cell_row rfl _ _ (w.heap.size) 47 #[.int .i64 fk, .int .u32 fv, .int .u32 fi] (0, 0) _ rfl (setRow_heap _ _ _ _ 47 _ (row_then Z.out (below_alloc (Below.refl _ _) _))) Try.underlying47 rfl infoF) rfl ⟨rfl, MStep.setRow (S.out.then (below_alloc (Below.refl _ _) _)) (by omega) (row_then Z.out (below_alloc (Below.refl _ _) _)) (by unfold mTy; decide) _⟩
end Go.Proofs.Ytiogbgjeimdgmaa.MmuWalk
/- The MMU's Store, walked: bytes that are laid. -/
namespace Go.Proofs.Ytiogbgjeimdgmaa.MmuWalk
open Go.RowKit Go.Proofs.Ytiogbgjeimdgmaa.Aid Go.Proofs.YtiogbgjeimdgmaaW.PrintWords Go.Proofs.YtiogbgjeimdgmaaW.PrintLast Go.Proofs.YtiogbgjeimdgmaaW.PrintMore
open Go.Proofs.Ytiogbgjeimdgmaa.RamWalk (RamAt Bytes leN info5 bytes_n)
open Go.Proofs.Ytiogbgjeimdgmaa.TlbWalk (TlbAt Kept2 putP dropP posP entP nil2 own_some own_val own_then)
attribute [local go_sem] max2_int min2_int max_two min_two max_three min_three max_four min_four   -- for this text's walks alone
set_option linter.unusedVariables false
set_option linter.unusedSimpArgs false
theorem lays_rest : ∀ (xs : List Pc) {l bs : List Int}, Bytes bs → Bytes (lays xs l bs).2
  | [], l, bs, k => k
  | p :: xs, l, bs, k => lays_rest xs (l := (layS (l, bs) p).1) (bs := (layS (l, bs) p).2) (k.drop _)
theorem BHead.next {V wr W w5 : World} {base : Nat} {L : Loc} {v v4 : Value} {T : Tabs} {ps : List (Int × Int)} {xs : List Pc} {l1 bs : List Int} {j m c pn pk : Nat} {pv : Int} {A A2 : Option Addr} (H : BHead V wr base L v T ps xs l1 bs j A m c) (hj : j < xs.length) (hp : xs.getD j (0, 0, 0) = (pv, (pk : Int), pn)) (hm : pn ≤ m)
    (nx : NextRow V v v4) (b : Below wr.heap.size wr W) (s : MStep W w5 base L v4 T ps (layS (lays (xs.take j) l1 bs) (pv, (pk : Int), pn)).1) (hA : A2 = A.map (·.add pn) ∨ pn = m) : BHead V w5 base L v T ps xs l1 bs (j + 1) A2 (m - pn) (c - pn) := by
  have e := lays_next xs l1 bs j hj
  rw [hp] at e
  have e2 : (lays (xs.take (j + 1)) l1 bs).2 = (lays (xs.take j) l1 bs).2.drop pn := by rw [e]; rfl
  refine ⟨?_, ?_, by have := H.cap; omega, ?_, ?_⟩
  · rw [e]
    exact MStep.via (H.st.chg.then b) nx s
  · rw [e2, List.length_drop, H.len]
  · rw [e2]
    rcases hA with rfl | hA
    · exact reads_tail H.rd pn hm
    · exact ⟨by rw [List.length_drop, H.len], by omega, fun q => by omega⟩
  · intro a ha hpos
    rcases hA with rfl | hA
    · obtain ⟨a0, h0, hb⟩ := map_block ha
      rw [hb]
      exact H.apart a0 h0 (by omega)
    · omega
set_option maxRecDepth 100000 in
set_option maxHeartbeats 8000000 in
theorem store_fine (w : World) (base : Nat) (L : Loc) (v : Value) (T : Tabs) (ps : List (Int × Int)) (l : List Int) (va : Int) (u : Bool) (A : Option Addr) (c : Nat) (bs : List Int) (xs : List Pc) (ps' : List (Int × Int)) (hv : R32 va) (hn : bs.length ≤ 65536) (hb : Bytes bs) (hc : bs.length ≤ c) (hr : ReadsInt w .u8 A bs.length bs) (hA : ∀ a, A = some a → 0 < bs.length → ¬ foot L v a.block) (hp : Pcs T l u true true ps va bs.length xs (0, 0, 0) ps') (h : MmuAt w base L v T ps l) :
    Calls Try.prog 38 #[.pointer (some ⟨L.m, 0, none⟩), .int .u32 va, .bool u, .slice A bs.length c] w fun e w' => e = .returned (.agg #[.int .i64 0, .int .u32 0, .int .u32 0]) ∧ MStep w w' base L v T (marks T xs ps' l).1 (lays xs (marks T xs ps' l).2 bs).1 := by
  have M := Aside0.mk h
  have HB := Aside0.mk hb
  have HR := Aside0.mk hr
  have HA := Aside0.mk hA
  have HC := Aside0.mk hc
  have HX := Aside0.mk (And.intro hn (And.intro (hp.total rfl) (And.intro hp.fit (And.intro (hp.r hv) hp.len))))
  have BX := box1 w (.cells #[.int .i64 0, .int .u32 0, .int .u32 0] 47 (0, 0))
  obtain ⟨W, hW⟩ : ∃ W, w.alloc (.cells #[.int .i64 0, .int .u32 0, .int .u32 0] 47 (0, 0)) = W := ⟨_, rfl⟩
  rw [hW] at BX
  have Z := Aside0.mk BX.2
  have BB := Aside0.mk BX.1
  have PC := Aside0.mk (pieces_is W base L v T ps l va bs.length u true true hv (by omega) (by omega) (M.out.then BX.1) xs 0 0 0 ps' hp)
  obtain ⟨nb, hnb⟩ : ∃ nb, bs.length = nb := ⟨_, rfl⟩
  rw [hnb] at PC ⊢
  have HNB := Aside0.mk hnb
  clear h BX hv hn hp hb hr hA hnb hc
  go_enter Try.func38, Try.ntmps38
  go_wp2_with (first
    | (go_at_call 68; (with_reducible refine (PC.out).mono ?_); rintro e w2 ⟨A', c', rfl, s, ho⟩; have S := Aside0.mk (MStep.after BB.out s); have S0 := Aside0.mk s; have HO := Aside0.mk ho; have Z := Aside0.mk (box_keep M.out Z.out (Nat.le_refl _) s); clear s ho))
  obtain ⟨v2, m2, nx2⟩ := S.out.at_
  have bl := below_alloc (Below.refl _ w2) (.cells #[.int .i64 0, .int .u32 0, .int .u32 0] 47 (0, 0))
  have Zn := Aside0.mk (row_then Z.out bl)
  have Sn := Aside0.mk (S.out.then bl)
  have MV := Aside0.mk (m2.then bl)
  have OV := Aside0.mk (own_then HO.out bl)
  have NX2 := Aside0.mk nx2
  have hzl := (Array.getElem?_eq_some_iff.1 Z.out).1
  have HWV := Aside0.mk (show w.heap.size < (w2.alloc (.cells #[.int .i64 0, .int .u32 0, .int .u32 0] 47 (0, 0))).heap.size by have := bl.size; omega)
  clear m2 nx2 bl hzl
  generalize w2.alloc (.cells #[.int .i64 0, .int .u32 0, .int .u32 0] 47 (0, 0)) = V at *
  go_loopw [34] (fun i wr => ∃ j : Nat, j ≤ xs.length ∧ i = .int .i64 j ∧ Aside0 (MStep V wr base L v2 T (marks T (xs.take j) ps' l).1 (marks T (xs.take j) ps' l).2)) (fun i _ => xs.length - (intOf i).toNat)
  case atStart => exact ⟨0, Nat.zero_le _, rfl, ⟨MStep.of_below MV.out (Below.refl _ _)⟩⟩
  case round =>
    obtain ⟨j, hj, rfl, SJ⟩ := hrel
    obtain ⟨v3, m3, nx3⟩ := SJ.out.at_
    have M3 := Aside0.mk m3
    have NX3 := Aside0.mk nx3
    have OJ := Aside0.mk (own_ty MV.out OV.out (by unfold mTy; decide) SJ.out)
    have ZJ := Aside0.mk (box_ty MV.out Zn.out (by unfold mTy; decide) SJ.out)
    clear m3 nx3
    by_cases hjn : j = xs.length
    · subst hjn
      have SJ2 := SJ.out
      have M3b := M3.out
      rw [List.take_length] at SJ2 M3b
      have SJ := Aside0.mk SJ2
      have M3 := Aside0.mk M3b
      have HL1 := Aside0.mk (marks_length T xs ps' l)
      have HB1 := Aside0.mk (marks_bytes (T := T) xs (ps := ps') M.out.by_)
      clear SJ2 M3b
      obtain ⟨⟨ps1, l1⟩, hml⟩ : ∃ ml, marks T xs ps' l = ml := ⟨_, rfl⟩
      have HML := Aside0.mk hml
      have SJ := Aside0.mk (hml ▸ SJ.out)
      have M3 := Aside0.mk (hml ▸ M3.out)
      have HL1 := Aside0.mk (hml ▸ HL1.out)
      have HB1 := Aside0.mk (hml ▸ HB1.out)
      simp only at SJ M3 HL1 HB1
      clear hml
      obtain ⟨wc, rfl⟩ : ∃ wc : World, wc = wr := ⟨_, rfl⟩
      have B0 : Aside0 (BHead wc wc base L v3 T ps1 xs l1 bs 0 A nb c) := ⟨⟨MStep.of_below M3.out (Below.refl _ _), HNB.out, by rw [← HNB.out]; exact HC.out, by
        have r1 := reads_chg HR.out (Sn.out.chg.trans SJ.out.chg (fun i hi f => foot_of NX2.out i hi f)) HA.out
        rw [HNB.out] at r1; exact r1, fun a ha hpos f => by
          obtain ⟨ad, he, hc⟩ := HR.out.2.2 (by rw [HNB.out]; exact hpos)
          have hbk := World.block_lt_of_cell? w _ (hc 0 (by rw [HNB.out]; exact hpos))
          rw [he] at ha
          simp only [Option.some.injEq] at ha
          subst ha
          have hz : (ad.add 0).block = ad.block := rfl
          rw [hz] at hbk
          exact HA.out ad he (by rw [HNB.out]; exact hpos) (foot_of NX2.out _ hbk (foot_of NX3.out _ (by have := HWV.out; omega) f))⟩⟩
      go_wp2_with fail
      go_loopw [3, 45] (fun b i wq => ∃ (j m c : Nat) (A2 : Option Addr), j ≤ xs.length ∧ i = .int .i64 j ∧ b = .slice A2 m c ∧ Aside0 (BHead wc wq base L v3 T ps1 xs l1 bs j A2 m c)) (fun _ i _ => xs.length - (intOf i).toNat)
      case atStart => exact ⟨0, nb, c, A, Nat.zero_le _, rfl, rfl, B0⟩
      case round =>
        obtain ⟨j, m, k, A2, hj, rfl, rfl, BH⟩ := hrel
        obtain ⟨v4, m4, nx4⟩ := BH.out.st.at_
        have M4 := Aside0.mk m4
        have NX4 := Aside0.mk nx4
        have OK := Aside0.mk (own_ty M3.out OJ.out (by unfold mTy; decide) BH.out.st)
        have ZK := Aside0.mk (box_ty M3.out ZJ.out (by unfold mTy; decide) BH.out.st)
        clear m4 nx4
        by_cases hjn : j = xs.length
        · subst hjn
          have BS := BH.out.st
          rw [List.take_length] at BS
          have BS := Aside0.mk BS
          go_wp2_with (first
            | (refine wpList_store_row rfl 47 (.tmp 8) (.tmp 65) rfl w.heap.size #[.int .i64 0, .int .u32 0, .int .u32 0] rfl rfl _ _ ZK.out infoF rfl (by kernel_rfl) ?_))
          refine bodyPost_ret (results_cell_row rfl _ _ (w.heap.size) 47 #[.int .i64 0, .int .u32 0, .int .u32 0] (0, 0) _ rfl (setRow_heap _ _ _ _ 47 _ ZK.out) Try.underlying47 rfl infoF) rfl ⟨rfl, by rw [HML.out]; exact MStep.setRow (MStep.via Sn.out.chg NX2.out (MStep.via SJ.out.chg NX3.out BS.out)) (Nat.le_refl _) ZK.out (by unfold mTy; decide) _⟩
        · have hj' : j < xs.length := by omega
          have hjb : j < 65537 := by have := HX.out.1; have := HX.out.2.2.2.2; omega
          obtain ⟨b, rfl, hbl, hc⟩ := pcs_at OK.out (by omega)
          have q0 : wr.cell? ⟨b, j * 5, none⟩ = _ := hc j hj' 0 (by omega)
          have q1 := hc j hj' 1 (by omega)
          have q2 := hc j hj' 2 (by omega)
          have q3 := hc j hj' 3 (by omega)
          have q4 := hc j hj' 4 (by omega)
          have hmem : xs.getD j (0, 0, 0) ∈ xs := by rw [List.getD_eq_getElem?_getD, List.getElem?_eq_getElem hj']; exact List.getElem_mem hj'
          have hr := HX.out.2.2.2.1 _ hmem
          have hf := HX.out.2.2.1 _ hmem
          have hs1 := sumN_next xs j hj'
          have hs2 := sumN_take xs (j + 1)
          have hlen := lays_length (xs.take j) l1 bs (fun p hp => by have h1 := HX.out.2.2.1 p (List.mem_of_mem_take hp); have h2 := HX.out.2.2.2.1 p (List.mem_of_mem_take hp); have h3 := h2.2.1.1; have h4 := HL1.out; omega) (by have := HX.out.2.1; omega)
          have hby := lays_bytes (xs.take j) HB1.out HB.out
          have hm := BH.out.len
          rw [hlen.2] at hm
          obtain ⟨p, hpe⟩ : ∃ p, xs.getD j (0, 0, 0) = p := ⟨_, rfl⟩
          rw [hpe] at q0 q1 q2 q3 q4 hmem hr hf hs1
          simp only [pc5, List.getElem?_cons_zero, List.getElem?_cons_succ] at q0 q1 q2 q3 q4
          obtain ⟨pv, pp, pn⟩ := p
          obtain ⟨hr0, hr1, hr2⟩ := hr
          obtain ⟨pk, hpk⟩ : ∃ pk : Nat, (pk : Int) = pp := ⟨pp.toNat, by have := hr1.1; show ((Int.toNat pp : Nat) : Int) = pp; exact Int.toNat_of_nonneg this⟩
          subst hpk
          have hr1' : pk < 4294967296 := by have := hr1.2; simp only at this; omega
          have hf' : pk + pn ≤ l.length := by simp only at hf; omega
          have hpm : pn ≤ m := by have := HX.out.2.1; simp only at hs1; omega
          have hpk2 : (pn : Int) ≤ k := by have := BH.out.cap; omega
          have hpm2 : (pn : Int) ≤ m := by omega
          have HPE := Aside0.mk hpe
          have HPM := Aside0.mk hpm
          have HR1 := Aside0.mk hr1'
          have HF := Aside0.mk hf'
          have HBY := Aside0.mk hby
          have HLEN := Aside0.mk hlen.1
          have BX3 := box1 wr (.cells #[.int .u32 pv, .bool u, .bool true, .int .u32 pk, .int .i64 pn] 123 (0, 0))
          obtain ⟨W3, hW3⟩ : ∃ W3, wr.alloc (.cells #[.int .u32 pv, .bool u, .bool true, .int .u32 pk, .int .i64 pn] 123 (0, 0)) = W3 := ⟨_, rfl⟩
          rw [hW3] at BX3
          have B3 := Aside0.mk BX3.1
          have X3 := Aside0.mk BX3.2
          have M5 := Aside0.mk (M4.out.then B3.out)
          have hS : Aside0 (∀ W', Below W3.heap.size W3 W' → W'.cell? ⟨L.m, 0, none⟩ = some (.pointer (some ⟨L.r, 0, none⟩)) ∧ W'.cell? ⟨wr.heap.size, 3, none⟩ = some (.int .u32 pk) ∧ W'.cell? ⟨wr.heap.size, 4, none⟩ = some (.int .i64 pn)) := ⟨fun W' hW' => ⟨(M5.out.then hW').cell 0, cell_of_row _ _ 3 _ _ _ (row_then X3.out hW'), cell_of_row _ _ 4 _ _ _ (row_then X3.out hW')⟩⟩
          have LD : Aside0 (∀ W', Below W3.heap.size W3 W' → Calls Try.prog 16 #[.pointer (some ⟨L.r, 0, none⟩), .int .u32 pk, .slice A2 pn k] W' fun e w' => e = .returned (.int .i64 0) ∧ MStep W' w' base L v4 T ps1 (layS (lays (xs.take j) l1 bs) (pv, (pk : Int), pn)).1) := ⟨fun W' hW' => by
            have rd := reads_head (reads_chg BH.out.rd ((BH.out.st.chg.then B3.out).then hW') BH.out.apart) pn HPM.out
            have hll : (lays (xs.take j) l1 bs).1.length = l1.length := HLEN.out
            refine (load_at W' base L.r L.b L.c _ pn _ _ pk A2 k rfl rd.1 HR1.out (M5.out.then hW').ram rd (by have := HL1.out; have := HF.out; simp only at *; omega)).mono ?_
            rintro e w' ⟨rfl, hr, hg⟩
            have hl5 := layS_length (lays (xs.take j) l1 bs) (pv, (pk : Int), pn) (by have := HL1.out; have := HF.out; simp only [Int.toNat_natCast] at *; omega) (by rw [BH.out.len]; exact HPM.out)
            exact ⟨rfl, (M5.out.then hW').ram_step hl5.1 (by simpa only [layS, Int.toNat_natCast] using hr) hg (lays_bytes [(pv, (pk : Int), pn)] HBY.out (lays_rest (xs.take j) HB.out))⟩⟩
          have hS0 := hS.out W3 (Below.refl _ _)
          have HJ := Aside0.mk hj'
          clear hc hmem hf hr0 hr1 hr2 hs1 hs2 hlen hby hm hpe hj' hpm hr1' hf' BX3
          go_wp2_with fail
          go_region_held3 (fun W' => W'.cell? ⟨L.m, 0, none⟩ = some (.pointer (some ⟨L.r, 0, none⟩)) ∧ W'.cell? ⟨wr.heap.size, 3, none⟩ = some (.int .u32 pk) ∧ W'.cell? ⟨wr.heap.size, 4, none⟩ = some (.int .i64 pn))
            (first | exact hS.out _ (by assumption) | exact hS.out _ ((Below.refl _ _).drew) | exact hT2.out)
            (first
            | (go_at_call 16; (with_reducible refine (LD.out _ ((Below.refl _ _).drew)).mono ?_); rintro e w5 ⟨rfl, s5⟩; have S5 := Aside0.mk s5; have X5 := Aside0.mk (box_ty (M5.out.then ((Below.refl _ _).drew)) (row_then X3.out ((Below.refl _ _).drew)) (by unfold mTy; decide) s5); have hT2 : Aside0 (w5.cell? ⟨L.m, 0, none⟩ = some (.pointer (some ⟨L.r, 0, none⟩)) ∧ w5.cell? ⟨wr.heap.size, 3, none⟩ = some (.int .u32 pk) ∧ w5.cell? ⟨wr.heap.size, 4, none⟩ = some (.int .i64 pn)) := ⟨by obtain ⟨v8, h8, _⟩ := S5.out.at_; exact ⟨h8.cell 0, cell_of_row _ _ 3 _ _ _ X5.out, cell_of_row _ _ 4 _ _ _ X5.out⟩⟩; clear s5))
          have x4 := hT2.out.2.2
          go_wp2
          have HK : (if k = pn then A2 else Option.map (fun x => x.add pn) A2) = A2.map (·.add pn) ∨ pn = m := by
            by_cases hkp : k = pn
            · refine .inr ?_
              have h1 := BH.out.cap
              have h2 := HPM.out
              omega
            · rw [if_neg hkp]; exact .inl rfl
          go_roundw
          case rel => exact ⟨j + 1, m - pn, k - pn, _, HJ.out, by go_num, rfl, ⟨BHead.next BH.out HJ.out HPE.out HPM.out NX4.out (below_drew B3.out) S5.out HK⟩⟩
          case measure => have := HJ.out; simp [intOf]; omega
    · skip
      have hj' : j < xs.length := by omega
      have hjb : j < 65537 := by have := HX.out.1; have := HX.out.2.2.2.2; omega
      obtain ⟨b, rfl, hbl, hc⟩ := pcs_at OJ.out (by omega)
      have q0 : wr.cell? ⟨b, j * 5, none⟩ = _ := hc j hj' 0 (by omega)
      have q1 := hc j hj' 1 (by omega)
      have q2 := hc j hj' 2 (by omega)
      have q3 := hc j hj' 3 (by omega)
      have q4 := hc j hj' 4 (by omega)
      have hmem : xs.getD j (0, 0, 0) ∈ xs := by rw [List.getD_eq_getElem?_getD, List.getElem?_eq_getElem hj']; exact List.getElem_mem hj'
      have hr := HX.out.2.2.2.1 _ hmem
      have hnx := marks_next T xs ps' l j hj'
      simp only [pc5, List.getElem?_cons_zero, List.getElem?_cons_succ] at q0 q1 q2 q3 q4
      generalize xs.getD j (0, 0, 0) = p at *
      obtain ⟨pv, pp, pn⟩ := p
      have BX3 := box1 wr (.cells #[.int .u32 pv, .bool u, .bool true, .int .u32 pp, .int .i64 pn] 123 (0, 0))
      obtain ⟨W3, hW3⟩ : ∃ W3, wr.alloc (.cells #[.int .u32 pv, .bool u, .bool true, .int .u32 pp, .int .i64 pn] 123 (0, 0)) = W3 := ⟨_, rfl⟩
      rw [hW3] at BX3
      have d0 := cell_of_row _ _ 0 _ _ _ BX3.2
      have d1 := cell_of_row _ _ 1 _ _ _ BX3.2
      have d2 := cell_of_row _ _ 2 _ _ _ BX3.2
      simp only [List.getElem?_toArray, List.getElem?_cons_zero, List.getElem?_cons_succ] at d0 d1 d2
      have B3 := Aside0.mk BX3.1
      have MK := Aside0.mk (mark_call W3 base L v3 T _ _ pv u true hr.1 (M3.out.then B3.out))
      have NX := Aside0.mk hnx
      have HJ := Aside0.mk hj'
      clear hc hmem hr hnx hj' BX3
      go_wp2_with (first
        | (go_at_call 69; (with_reducible refine (MK.out).mono ?_); rintro e w4 ⟨rfl, s4⟩; have S4 := Aside0.mk s4; clear s4))
      go_roundw
      case rel => exact ⟨j + 1, HJ.out, by go_num, ⟨by rw [NX.out]; exact MStep.via (SJ.out.chg.then B3.out) NX3.out S4.out⟩⟩
      case measure => have := HJ.out; simp [intOf]; omega
end Go.Proofs.Ytiogbgjeimdgmaa.MmuWalk
/- The MMU's Store: its contract; Put, walked. -/
namespace Go.Proofs.Ytiogbgjeimdgmaa.MmuWalk
open Go.RowKit Go.Proofs.Ytiogbgjeimdgmaa.Aid Go.Proofs.YtiogbgjeimdgmaaW.PrintWords Go.Proofs.YtiogbgjeimdgmaaW.PrintLast Go.Proofs.YtiogbgjeimdgmaaW.PrintMore
open Go.Proofs.Ytiogbgjeimdgmaa.RamWalk (RamAt Bytes leN info5 bytes_n)
open Go.Proofs.Ytiogbgjeimdgmaa.TlbWalk (TlbAt Kept2 putP dropP posP entP nil2 own_some own_val own_then)
attribute [local go_sem] max2_int min2_int max_two min_two max_three min_three max_four min_four   -- for this text's walks alone
set_option linter.unusedVariables false
set_option linter.unusedSimpArgs false
theorem store_call (w : World) (base : Nat) (L : Loc) (v : Value) (T : Tabs) (ps : List (Int × Int)) (l : List Int) (va : Int) (u : Bool) (A : Option Addr) (c : Nat) (bs : List Int) (xs : List Pc) (fk fv fi : Int) (ps' : List (Int × Int)) (hv : R32 va) (hn : bs.length ≤ 65536) (hb : Bytes bs) (hc : bs.length ≤ c) (hr : ReadsInt w .u8 A bs.length bs) (hA : ∀ a, A = some a → 0 < bs.length → ¬ foot L v a.block) (hp : Pcs T l u true true ps va bs.length xs (fk, fv, fi) ps') (h : MmuAt w base L v T ps l) :
    Calls Try.prog 38 #[.pointer (some ⟨L.m, 0, none⟩), .int .u32 va, .bool u, .slice A bs.length c] w fun e w' => e = .returned (.agg #[.int .i64 fk, .int .u32 fv, .int .u32 fi]) ∧ MStep w w' base L v T (storeP T xs fk ps' l) (storeL T xs fk ps' l bs) := by
  unfold storeP storeL
  by_cases hk : fk = 0
  · have := hp.good.1 hk
    simp only [noF, Prod.mk.injEq] at this
    obtain ⟨rfl, rfl, rfl⟩ := this
    rw [if_pos rfl, if_pos rfl]
    exact store_fine w base L v T ps l va u A c bs xs ps' hv hn hb hc hr hA hp h
  · rw [if_neg hk, if_neg hk]
    exact store_flt w base L v T ps l va u A bs.length c xs fk fv fi ps' hv hn hp (beq_eq_false_iff_ne.mpr hk) h
/-- A number's lowest bytes. -/
def byL (x : Int) (n : Nat) : List Int := (List.range n).map fun i => x / 2 ^ (8 * i) % 256
theorem byL_length (x : Int) (n : Nat) : (byL x n).length = n := by unfold byL; rw [List.length_map, List.length_range]
theorem byL_next (x : Int) (j : Nat) : byL x (j + 1) = byL x j ++ [x / 2 ^ (8 * j) % 256] := by
  unfold byL; rw [List.range_succ, List.map_append]; rfl
theorem byL_bytes (x : Int) (n : Nat) : Bytes (byL x n) := by
  intro y hy
  unfold byL at hy
  obtain ⟨i, _, rfl⟩ := List.mem_map.1 hy
  omega
set_option maxRecDepth 100000 in
set_option maxHeartbeats 4000000 in
theorem mput_call (w : World) (base : Nat) (L : Loc) (v : Value) (T : Tabs) (ps : List (Int × Int)) (l : List Int) (va x n : Int) (u : Bool) (xs : List Pc) (fk fv fi : Int) (ps' : List (Int × Int)) (hv : R32 va) (hx : R32 x) (hp : Pcs T l u true true ps va (szI n) xs (fk, fv, fi) ps') (h : MmuAt w base L v T ps l) :
    Calls Try.prog 40 #[.pointer (some ⟨L.m, 0, none⟩), .int .u32 va, .int .u32 x, .int .i64 n, .bool u] w fun e w' => e = .returned (.agg #[.int .i64 fk, .int .u32 fv, .int .u32 fi]) ∧ MStep w w' base L v T (storeP T xs fk ps' l) (storeL T xs fk ps' l (byL x (szI n).toNat)) := by
  have M := Aside0.mk h
  have HV := Aside0.mk hv
  have HP := Aside0.mk hp
  have BX := box1 w (.cells #[.int .i64 0, .int .u32 0, .int .u32 0] 47 (0, 0))
  obtain ⟨W, hW⟩ : ∃ W, w.alloc (.cells #[.int .i64 0, .int .u32 0, .int .u32 0] 47 (0, 0)) = W := ⟨_, rfl⟩
  rw [hW] at BX
  have Z := Aside0.mk BX.2
  have BB := Aside0.mk BX.1
  have hsz := szI_le n
  obtain ⟨n1, hn1⟩ : ∃ n1, (if n < 0 then 0 else n) = n1 := ⟨_, rfl⟩
  obtain ⟨k, hn2⟩ : ∃ k : Nat, szI n = k := ⟨(szI n).toNat, by omega⟩
  have hn3 : (if 4 < n1 then 4 else n1) = (k : Int) := by rw [← hn1, ← hn2]; rfl
  rw [hn2] at HP hsz
  have hk4 : k ≤ 4 := by omega
  have HE : szI n = k := hn2
  rw [HE]
  rw [Int.toNat_natCast]
  obtain ⟨xn, rfl⟩ : ∃ xn : Nat, x = xn := ⟨x.toNat, by have := hx.1; omega⟩
  have hxn : xn < 4294967296 := by have := hx.2; omega
  clear h BX hv hn2 hsz hp HE hx
  go_enter Try.func40, Try.ntmps40
  go_wp2_with fail
  go_loopw [11, 16] (fun b i wr => ∃ j : Nat, j ≤ k ∧ i = .int .i64 j ∧ Aside0 (Below W.heap.size W wr) ∧ Aside0 (wr.ownsRow W.heap.size 5 1 b (byL xn j).length (nums .u8 (byL xn j)))) (fun _ i _ => k - (intOf i).toNat)
  case atStart => exact ⟨0, Nat.zero_le _, rfl, ⟨Below.refl _ _⟩, ⟨World.ownsRow_nil _ _ _ _⟩⟩
  case round =>
    obtain ⟨j, hj, rfl, B, O⟩ := hrel
    obtain ⟨A1, c1, rfl⟩ := own_val O.out
    by_cases hjk : j = k
    · subst hjk
      have MW := Aside0.mk (M.out.then (below_step BB.out B.out))
      have HL := Aside0.mk (byL_length (xn : Int) j)
      have ST := Aside0.mk (fun fk fv fi (hp : Pcs T l u true true ps va (byL xn j).length xs (fk, fv, fi) ps') => store_call wr base L v T ps l va u A1 c1 (byL xn j) xs fk fv fi ps' HV.out (by rw [HL.out]; omega) (byL_bytes _ _) (own_cap O.out) (own_reads' O.out) (fun a ha hpos f => by
        have hb := own_base O.out a.block (by subst ha; rfl)
        have hf := foot_lt M.out _ f
        have := BB.out.size
        omega) hp MW.out)
      have ST := Aside0.mk (ST.out fk fv fi (by rw [HL.out]; exact HP.out))
      go_wp2_with (first
        | (go_at_call 38; (with_reducible refine (ST.out).mono ?_); rintro e w2 ⟨rfl, s⟩; have S := Aside0.mk s; have Z2 := Aside0.mk (box_keep M.out (row_then Z.out B.out) (Nat.le_refl _) s); clear s)
        | (refine wpList_store_row rfl 47 (.tmp 10) (.tmp 32) rfl w.heap.size #[.int .i64 fk, .int .u32 fv, .int .u32 fi] rfl rfl _ _ Z2.out infoF rfl (by kernel_rfl) ?_))
      refine bodyPost_ret (results_cell_row rfl _ _ (w.heap.size) 47 #[.int .i64 fk, .int .u32 fv, .int .u32 fi] (0, 0) _ rfl (setRow_heap _ _ _ _ 47 _ Z2.out) Try.underlying47 rfl infoF) rfl ⟨rfl, MStep.setRow (MStep.after (below_step BB.out B.out) S.out) (Nat.le_refl _) Z2.out (by unfold mTy; decide) _⟩
    · have hj' : j < k := by omega
      have HJ := Aside0.mk hj'
      have HX := Aside0.mk (byL_next (xn : Int) j)
      have hlen : (byL (xn : Int) j).length = j := byL_length _ _
      go_wp2_with (first
        | (at_builtin; refine print_append_num (w0 := W) W.heap.size rfl (.tmp 19) (.tmp 25) 22 5 .u8 1 rfl Try.underlying22 info5 (by decide) (.slice A1 (byL xn j).length c1) (byL xn j) (xn / 2 ^ (8 * j) % 256) rfl (by simp [Act.eval]) O.out B.out B.out.size (by rw [hlen]; omega) ?_; intro o1 w1 ho1 hb1 hg1 hat1; have O1 := Aside0.mk ho1; have B1 := Aside0.mk hb1; clear ho1 hb1 hg1 hat1))
      go_roundw
      case rel => exact ⟨j + 1, HJ.out, by go_num, B1, ⟨by rw [HX.out]; exact O1.out⟩⟩
      case measure => have := HJ.out; simp [intOf]; omega
end Go.Proofs.Ytiogbgjeimdgmaa.MmuWalk
/- How many bytes differ behind a Store. Plain. -/
namespace Go.Proofs.Ytiogbgjeimdgmaa.MmuWalk
open Go.RowKit Go.Proofs.Ytiogbgjeimdgmaa.Aid Go.Proofs.YtiogbgjeimdgmaaW.PrintWords Go.Proofs.YtiogbgjeimdgmaaW.PrintLast Go.Proofs.YtiogbgjeimdgmaaW.PrintMore
open Go.Proofs.Ytiogbgjeimdgmaa.RamWalk (RamAt Bytes leN putL putL_length)
open Go.Proofs.Ytiogbgjeimdgmaa.TlbWalk (TlbAt putP posP entP nil2)
set_option linter.unusedVariables false
set_option linter.unusedSimpArgs false
/-- In how many of the first k places two lists differ. -/
def difN (a b : List Int) : Nat → Nat
  | 0 => 0
  | k + 1 => difN a b k + if a.getD k 0 = b.getD k 0 then 0 else 1
/-- There are few pieces. -/
theorem Pcs.count {T : Tabs} {l : List Int} {u wr keep : Bool} {ps : List (Int × Int)} {va n : Int} {xs : List Pc} {f : Flt} {ps' : List (Int × Int)} (h : Pcs T l u wr keep ps va n xs f ps') : (xs.length : Int) ≤ if n ≤ 0 then 0 else (va % 512 + n + 511) / 512 := by
  induction h with
  | done h => rw [if_pos h]; exact Int.le_refl _
  | @stop ps va n h hf => rw [if_neg (by omega)]; show (0 : Int) ≤ _; omega
  | @more ps0 va0 n0 xs f ps' h hf k ih =>
    rw [if_neg (show ¬ n0 ≤ 0 by omega)]
    have hs : stepN va0 n0 = if n0 < 512 - va0 % 512 then n0 else 512 - va0 % 512 := rfl
    generalize stepN va0 n0 = s at *
    split
    · rw [List.length_cons]
      split at hs
      · subst hs
        rw [if_pos (by omega)] at ih
        omega
      · subst hs
        split at ih <;> omega
    · show (0 : Int) ≤ _; omega
theorem Pcs.few {T : Tabs} {l : List Int} {u wr keep : Bool} {ps : List (Int × Int)} {va : Int} {n : Nat} {xs : List Pc} {f : Flt} {ps' : List (Int × Int)} (h : Pcs T l u wr keep ps va n xs f ps') : xs.length ≤ n / 512 + 2 := by
  have := h.count
  split at this <;> omega
theorem Pcs.fitN {T : Tabs} {l : List Int} {u wr keep : Bool} {ps : List (Int × Int)} {va n : Int} {xs : List Pc} {f : Flt} {ps' : List (Int × Int)} (h : Pcs T l u wr keep ps va n xs f ps') (hv : R32 va) : ∀ p ∈ xs, p.2.1.toNat + p.2.2 ≤ l.length := fun p hp => by
  have h1 := h.fit p hp
  have h2 := (h.r hv p hp).2.1.1
  omega
end Go.Proofs.Ytiogbgjeimdgmaa.MmuWalk
/- One MMU: its calls over one state, what they tell known ahead. -/
namespace Go.Proofs.Ytiogbgjeimdgmaa.MmuWalk
open Go.RowKit Go.Proofs.Ytiogbgjeimdgmaa.Aid Go.Proofs.YtiogbgjeimdgmaaW.PrintWords Go.Proofs.YtiogbgjeimdgmaaW.PrintLast Go.Proofs.YtiogbgjeimdgmaaW.PrintMore
open Go.Proofs.Ytiogbgjeimdgmaa.RamWalk (RamAt Bytes leN bytes_n put_i get_i get_bus_i putL putL_length putL_bytes)
open Go.Proofs.Ytiogbgjeimdgmaa.TlbWalk (TlbAt putP posP entP nil2 own_some own_val own_then)
set_option linter.unusedVariables false
set_option linter.unusedSimpArgs false
end Go.Proofs.Ytiogbgjeimdgmaa.MmuWalk
