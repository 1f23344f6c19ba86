/- The MMU's mark, walked case by case. -/
import Derived.Test.YtiogbgjeimdgmaaMmuV
namespace Go.Proofs.Ytiogbgjeimdgmaa.MmuWalk
open Go.RowKit Go.Proofs.Ytiogbgjeimdgmaa.Aid Go.Proofs.YtiogbgjeimdgmaaW.PrintWords Go.Proofs.YtiogbgjeimdgmaaW.PrintLast Go.Proofs.YtiogbgjeimdgmaaW.PrintMore
open Go.Proofs.Ytiogbgjeimdgmaa.RamWalk (RamAt Bytes leN leN_bounds get_i get_bus_i put_i putL putL_length putL_bytes)
open Go.Proofs.Ytiogbgjeimdgmaa.TlbWalk (TlbAt Kept2 putP dropP posP entP nil2 get_yes get_no put_call mem_getD putP_mem)
attribute [local go_sem] max2_int min2_int max_two min_two max_three min_three max_four min_four   -- for this text's walks alone
set_option linter.unusedVariables false
set_option linter.unusedSimpArgs false
/-- An entry, marked. -/
def orM (x : Int) : Int := if wrE x = true then x else x + 67108864
theorem orM_r {x : Int} (h : R32 x) : R32 (orM x) := by
  unfold orM wrE R32 at *
  split
  · exact h
  · rename_i c; rw [decide_eq_true_eq] at c; omega
theorem or_bit (j a b c : Nat) (hb : b < 2) (hc : c < 2 ^ j) : ((2 * a + b) * 2 ^ j + c) ||| 2 ^ j = (2 * a + 1) * 2 ^ j + c := by
  have e : ∀ x y, y < 2 ^ j → x * 2 ^ j + y = x <<< j ||| y := fun x y hy => by
    have := Nat.shiftLeft_add_eq_or_of_lt hy x
    rw [← this, Nat.shiftLeft_eq]
  have e1 : 2 ^ j = 1 <<< j := by rw [Nat.shiftLeft_eq, Nat.one_mul]
  have e2 : ∀ z, z < 2 → 2 * a + z = a <<< 1 ||| z := fun z hz => by
    have := Nat.shiftLeft_add_eq_or_of_lt (show z < 2 ^ 1 from hz) a
    rw [← this, Nat.shiftLeft_eq]; omega
  rw [e _ _ hc, e _ _ hc]
  conv => lhs; rw [e1]
  rw [Nat.or_assoc, Nat.or_comm c, ← Nat.or_assoc, ← Nat.shiftLeft_or_distrib, e2 b hb, e2 1 (by decide), Nat.or_assoc]
  have : b = 0 ∨ b = 1 := by omega
  rcases this with rfl | rfl
  · rfl
  · rw [Nat.or_self]
theorem or_modN (n j : Nat) : n ||| 2 ^ j = if n / 2 ^ j % 2 = 1 then n else n + 2 ^ j := by
  have hp := Nat.two_pow_pos j
  have h1 := Nat.div_add_mod n (2 ^ j)
  have h2 := Nat.div_add_mod (n / 2 ^ j) 2
  have h3 := Nat.mod_lt n hp
  have h4 := Nat.mod_lt (n / 2 ^ j) (show 0 < 2 by decide)
  have e := or_bit j (n / 2 ^ j / 2) (n / 2 ^ j % 2) (n % 2 ^ j) h4 h3
  rw [h2, Nat.mul_comm (n / 2 ^ j), h1] at e
  rw [e]
  generalize n / 2 ^ j % 2 = b at *
  generalize n / 2 ^ j / 2 = a at *
  generalize n / 2 ^ j = q at *
  generalize n % 2 ^ j = r at *
  generalize 2 ^ j = P at *
  split
  · rename_i hb; subst hb; rw [h2, Nat.mul_comm, h1]
  · have hb : b = 0 := by omega
    subst hb
    rw [Nat.add_zero] at h2
    rw [h2, Nat.add_mul, Nat.one_mul, Nat.mul_comm q P]; omega
theorem or_modI (x c : Int) (m : Nat) (hx : R32 x) (hc : c = (m : Int)) (j : Nat) (hj : m = 2 ^ j) (hm : m < 4294967296) : Go.bits .or .u32 x c = if x / c % 2 = 1 then x else x + c := by
  obtain ⟨n, rfl⟩ : ∃ n : Nat, x = n := ⟨x.toNat, by have := hx.1; omega⟩
  have hn : n < 4294967296 := by have := hx.2; omega
  rw [hc, u32_or_nat n m hn hm]
  have e := or_modN n j
  rw [← hj] at e
  rw [e]
  have e2 : ((n : Int) / (m : Int) % 2 = 1) ↔ (n / m % 2 = 1) := by
    rw [← Int.natCast_ediv]; omega
  by_cases hb : n / m % 2 = 1
  · rw [if_pos hb, if_pos (e2.2 hb)]
  · rw [if_neg hb, if_neg (fun c => hb (e2.1 c))]
    exact Int.natCast_add _ _
theorem or_mod (x : Int) (hx : R32 x) : Go.bits .or .u32 x 67108864 = orM x := by
  have e := or_modI x 67108864 67108864 hx rfl 26 (by decide) (by decide)
  unfold orM wrE
  rw [e]
  by_cases hb : x / 67108864 % 2 = 1
  · rw [if_pos hb, if_pos (decide_eq_true hb)]
  · rw [if_neg hb, if_neg (by rw [decide_eq_true_eq]; exact hb)]
/-- What a mark leaves of the memory; of the buffer. -/
def memMark (T : Tabs) (l : List Int) (va : Int) : List Int :=
  if offE T va = true then l else if atE T va + 4 ≤ l.length then putL l (atE T va).toNat (orM (leN ((l.drop (atE T va).toNat).take 4))) 4 else l
def markP (T : Tabs) (ps : List (Int × Int)) (va : Int) : List (Int × Int) :=
  if T.men = 0 then ps else if posP (va / 512) ps < ps.length then (if wrE (entP (va / 512) ps) = true then ps else putP (va / 512) (orM (entP (va / 512) ps)) ps) else ps
def markL (T : Tabs) (ps : List (Int × Int)) (l : List Int) (va : Int) : List Int :=
  if T.men = 0 then l else if posP (va / 512) ps < ps.length then (if wrE (entP (va / 512) ps) = true then l else memMark T l va) else memMark T l va
theorem memMark_length (T : Tabs) (l : List Int) (va : Int) : (memMark T l va).length = l.length := by
  unfold memMark
  split
  · rfl
  · split
    · exact putL_length _ _ _ _
    · rfl
theorem markL_length (T : Tabs) (ps : List (Int × Int)) (l : List Int) (va : Int) : (markL T ps l va).length = l.length := by
  unfold markL
  split
  · rfl
  · split
    · split
      · rfl
      · exact memMark_length _ _ _
    · exact memMark_length _ _ _
/-- The memory alone was turned. -/
theorem MmuAt.ram_step {W W' : World} {base n : Nat} {L : Loc} {v : Value} {T : Tabs} {ps : List (Int × Int)} {l l' : List Int} (h : MmuAt W base L v T ps l) (hn : l'.length = n) (r : RamAt W' base L.r (.slice (some ⟨L.b, 0, none⟩) n L.c) l') (g : W.grownBy W' (some L.b)) (hb : Bytes l') : MStep W W' base L v T ps l' := by
  subst hn
  obtain ⟨a1, a2, a3, a4⟩ := RamAt.ne_of h.ram h.tlb
  obtain ⟨b1, b2, b3, b4⟩ := h.m_ne
  refine ⟨⟨v, ⟨(g.block L.m h.lt (fun e => b2 (Option.some.inj e))).trans h.blk, h.ge, r, h.tlb.kept g (fun e => a2 (Option.some.inj e).symm) (.inr (fun e => a4 e.symm)), hb, h.ok, h.ents⟩, NextRow.same _ _⟩, ⟨g.os, g.tape, g.output, g.size, fun i hi hf => g.block i hi (fun e => hf (.inr (.inr (.inl (Option.some.inj e)))))⟩⟩
set_option maxRecDepth 100000 in
set_option maxHeartbeats 2000000 in
theorem mark_0 (w : World) (base : Nat) (L : Loc) (v : Value) (T : Tabs) (ps : List (Int × Int)) (l : List Int) (va : Int) (u wr : Bool) (h : MmuAt w base L v T ps l) (hm : T.men = 0) :
    Calls Try.prog 69 #[.pointer (some ⟨L.m, 0, none⟩), .agg #[.int .u32 va, .bool u, .bool wr]] w fun e w' => e = .returned (.tuple #[]) ∧ MStep w w' base L v T ps l := by
  have M := Aside0.mk h
  have BX := box1 w (.cells #[.int .u32 va, .bool u, .bool wr] 118 (0, 0))
  obtain ⟨W, hW⟩ : ∃ W, w.alloc (.cells #[.int .u32 va, .bool u, .bool wr] 118 (0, 0)) = W := ⟨_, rfl⟩
  rw [hW] at BX
  have MW := Aside0.mk (M.out.then BX.1)
  have A := Aside0.mk BX.2
  have BB := Aside0.mk BX.1
  have c6 : W.cell? ⟨L.m, 6, none⟩ = some (.int .u32 T.men) := MW.out.cell 6
  clear h BX
  go_enter Try.func69, Try.ntmps69
  go_wp2
  first | go_end0 | refine bodyPost_ret (results_none rfl _ _ _) rfl ?_
  exact ⟨rfl, MStep.of_below M.out BB.out⟩
set_option maxRecDepth 100000 in
set_option maxHeartbeats 2000000 in
theorem mark_1 (w : World) (base : Nat) (L : Loc) (v : Value) (T : Tabs) (ps : List (Int × Int)) (l : List Int) (va : Int) (u wr : Bool) (h : MmuAt w base L v T ps l) (hm : (T.men == 0) = false) (x : Int) (GT : Aside0 (∀ W, Below w.heap.size w W → Calls Try.prog 84 #[.pointer (some ⟨L.t, 0, none⟩), .int .u32 (va / 512)] W fun e w' => e = .returned (.tuple #[.int .u32 x, .bool true]) ∧ Below W.heap.size W w')) (PW : Aside0 (∀ W, Calls Try.prog 85 #[.int .u32 x] W fun e w' => e = .returned (.bool true) ∧ W = w')) :
    Calls Try.prog 69 #[.pointer (some ⟨L.m, 0, none⟩), .agg #[.int .u32 va, .bool u, .bool wr]] w fun e w' => e = .returned (.tuple #[]) ∧ MStep w w' base L v T ps l := by
  have M := Aside0.mk h
  have BX := box1 w (.cells #[.int .u32 va, .bool u, .bool wr] 118 (0, 0))
  obtain ⟨W, hW⟩ : ∃ W, w.alloc (.cells #[.int .u32 va, .bool u, .bool wr] 118 (0, 0)) = W := ⟨_, rfl⟩
  rw [hW] at BX
  have MW := Aside0.mk (M.out.then BX.1)
  have A := Aside0.mk BX.2
  have BB := Aside0.mk BX.1
  have c6 : W.cell? ⟨L.m, 6, none⟩ = some (.int .u32 T.men) := MW.out.cell 6
  clear h BX
  have hS : Aside0 (∀ W', Below W.heap.size W W' → W'.cell? ⟨L.m, 1, none⟩ = some (.pointer (some ⟨L.t, 0, none⟩)) ∧ W'.cell? ⟨w.heap.size, 0, none⟩ = some (.int .u32 va)) := ⟨fun W' hW => ⟨(M.out.then (below_step BB.out hW)).cell 1, cell_of_row _ _ 0 _ _ _ (row_then A.out hW)⟩⟩
  have hS0 := hS.out W (Below.refl _ _)
  go_enter Try.func69, Try.ntmps69
  go_wp2
  go_region_held3 (fun W' => W'.cell? ⟨L.m, 1, none⟩ = some (.pointer (some ⟨L.t, 0, none⟩)) ∧ W'.cell? ⟨w.heap.size, 0, none⟩ = some (.int .u32 va))
    (first | exact hS.out _ (by assumption) | exact hS.out _ ((Below.refl _ _).drew))
    (first
    | (go_at_call 84; (with_reducible refine (GT.out _ (below_step BB.out (Below.refl _ _).drew)).mono ?_); rintro e w1 ⟨rfl, hb⟩; have hb1 : Below W.heap.size W w1 := below_step ((Below.refl _ _).drew) hb))
  have BB := Aside0.mk (below_step BB.out hb1)
  have A := Aside0.mk (row_then A.out hb1)
  have M1 := Aside0.mk (M.out.then BB.out)
  clear hS0 hb1 hb c6
  go_wp2_with (first
    | (go_at_call 85; (with_reducible refine (PW.out _).mono ?_); rintro e w4 ⟨rfl, rfl⟩))
  first | go_end0 | refine bodyPost_ret (results_none rfl _ _ _) rfl ?_
  exact ⟨rfl, MStep.of_below M.out BB.out⟩
set_option maxRecDepth 100000 in
set_option maxHeartbeats 2000000 in
theorem mark_11 (w : World) (base : Nat) (L : Loc) (v : Value) (T : Tabs) (ps : List (Int × Int)) (l : List Int) (va : Int) (u wr : Bool) (h : MmuAt w base L v T ps l) (hm : (T.men == 0) = false) (x : Int) (GT : Aside0 (∀ W, Below w.heap.size w W → Calls Try.prog 84 #[.pointer (some ⟨L.t, 0, none⟩), .int .u32 (va / 512)] W fun e w' => e = .returned (.tuple #[.int .u32 x, .bool false]) ∧ Below W.heap.size W w')) (at_ : Int) (fk fv fi : Int) (hk : (fk == 0) = false) (PL : Aside0 (∀ W v' ps', MmuAt W base L v' T ps' l → Calls Try.prog 87 #[.pointer (some ⟨L.m, 0, none⟩), .agg #[.int .u32 va, .bool u, .bool wr]] W fun e w' => e = .returned (.tuple #[.int .u32 at_, .agg #[.int .i64 fk, .int .u32 fv, .int .u32 fi]]) ∧ Below W.heap.size W w')) :
    Calls Try.prog 69 #[.pointer (some ⟨L.m, 0, none⟩), .agg #[.int .u32 va, .bool u, .bool wr]] w fun e w' => e = .returned (.tuple #[]) ∧ MStep w w' base L v T ps l := by
  have M := Aside0.mk h
  have BX := box1 w (.cells #[.int .u32 va, .bool u, .bool wr] 118 (0, 0))
  obtain ⟨W, hW⟩ : ∃ W, w.alloc (.cells #[.int .u32 va, .bool u, .bool wr] 118 (0, 0)) = W := ⟨_, rfl⟩
  rw [hW] at BX
  have MW := Aside0.mk (M.out.then BX.1)
  have A := Aside0.mk BX.2
  have BB := Aside0.mk BX.1
  have c6 : W.cell? ⟨L.m, 6, none⟩ = some (.int .u32 T.men) := MW.out.cell 6
  clear h BX
  have hS : Aside0 (∀ W', Below W.heap.size W W' → W'.cell? ⟨L.m, 1, none⟩ = some (.pointer (some ⟨L.t, 0, none⟩)) ∧ W'.cell? ⟨w.heap.size, 0, none⟩ = some (.int .u32 va)) := ⟨fun W' hW => ⟨(M.out.then (below_step BB.out hW)).cell 1, cell_of_row _ _ 0 _ _ _ (row_then A.out hW)⟩⟩
  have hS0 := hS.out W (Below.refl _ _)
  go_enter Try.func69, Try.ntmps69
  go_wp2
  go_region_held3 (fun W' => W'.cell? ⟨L.m, 1, none⟩ = some (.pointer (some ⟨L.t, 0, none⟩)) ∧ W'.cell? ⟨w.heap.size, 0, none⟩ = some (.int .u32 va))
    (first | exact hS.out _ (by assumption) | exact hS.out _ ((Below.refl _ _).drew))
    (first
    | (go_at_call 84; (with_reducible refine (GT.out _ (below_step BB.out (Below.refl _ _).drew)).mono ?_); rintro e w1 ⟨rfl, hb⟩; have hb1 : Below W.heap.size W w1 := below_step ((Below.refl _ _).drew) hb))
  have BB := Aside0.mk (below_step BB.out hb1)
  have A := Aside0.mk (row_then A.out hb1)
  have M1 := Aside0.mk (M.out.then BB.out)
  clear hS0 hb1 hb c6
  have S := Aside0.mk (MStep.of_below M.out BB.out)
  obtain ⟨v1, rfl⟩ : ∃ v1, v1 = v := ⟨_, rfl⟩
  have NX := Aside0.mk (NextRow.same w v1)
  have d0 : w1.cell? ⟨w.heap.size, 0, none⟩ = some (.int .u32 va) := cell_of_row _ _ 0 _ _ _ A.out
  have d1 : w1.cell? ⟨w.heap.size, 1, none⟩ = some (.bool u) := cell_of_row _ _ 1 _ _ _ A.out
  have d2 : w1.cell? ⟨w.heap.size, 2, none⟩ = some (.bool wr) := cell_of_row _ _ 2 _ _ _ A.out
  go_wp2_with (first
    | (go_at_call 87; (with_reducible refine (PL.out _ _ _ M1.out).mono ?_); rintro e w2 ⟨rfl, hb⟩; have B2 := Aside0.mk (below_alloc hb (.cells #[.int .i64 fk, .int .u32 fv, .int .u32 fi] 47 (0, 0))); have M2 := Aside0.mk (M1.out.then B2.out); have m0 := M2.out.cell 0; simp only [mmuCells, List.getElem?_toArray, List.getElem?_cons_zero, List.getElem?_cons_succ] at m0; clear hb))
  first | go_end0 | refine bodyPost_ret (results_none rfl _ _ _) rfl ?_
  exact ⟨rfl, S.out.then B2.out⟩
set_option maxRecDepth 100000 in
set_option maxHeartbeats 2000000 in
theorem mark_12 (w : World) (base : Nat) (L : Loc) (v : Value) (T : Tabs) (ps : List (Int × Int)) (l : List Int) (va : Int) (u wr : Bool) (h : MmuAt w base L v T ps l) (hm : (T.men == 0) = false) (x : Int) (GT : Aside0 (∀ W, Below w.heap.size w W → Calls Try.prog 84 #[.pointer (some ⟨L.t, 0, none⟩), .int .u32 (va / 512)] W fun e w' => e = .returned (.tuple #[.int .u32 x, .bool false]) ∧ Below W.heap.size W w')) (at_ : Int) (PL : Aside0 (∀ W v' ps', MmuAt W base L v' T ps' l → Calls Try.prog 87 #[.pointer (some ⟨L.m, 0, none⟩), .agg #[.int .u32 va, .bool u, .bool wr]] W fun e w' => e = .returned (.tuple #[.int .u32 at_, .agg #[.int .i64 0, .int .u32 0, .int .u32 0]]) ∧ Below W.heap.size W w')) (y er : Int) (her : (er == 0) = false) (RG : Aside0 (∀ W v' ps', MmuAt W base L v' T ps' l → Calls Try.prog 41 #[.pointer (some ⟨L.r, 0, none⟩), .int .u32 at_, .int .i64 4] W fun e w' => e = .returned (.tuple #[.int .u32 y, .int .i64 er]) ∧ W = w')) :
    Calls Try.prog 69 #[.pointer (some ⟨L.m, 0, none⟩), .agg #[.int .u32 va, .bool u, .bool wr]] w fun e w' => e = .returned (.tuple #[]) ∧ MStep w w' base L v T ps l := by
  have M := Aside0.mk h
  have BX := box1 w (.cells #[.int .u32 va, .bool u, .bool wr] 118 (0, 0))
  obtain ⟨W, hW⟩ : ∃ W, w.alloc (.cells #[.int .u32 va, .bool u, .bool wr] 118 (0, 0)) = W := ⟨_, rfl⟩
  rw [hW] at BX
  have MW := Aside0.mk (M.out.then BX.1)
  have A := Aside0.mk BX.2
  have BB := Aside0.mk BX.1
  have c6 : W.cell? ⟨L.m, 6, none⟩ = some (.int .u32 T.men) := MW.out.cell 6
  clear h BX
  have hS : Aside0 (∀ W', Below W.heap.size W W' → W'.cell? ⟨L.m, 1, none⟩ = some (.pointer (some ⟨L.t, 0, none⟩)) ∧ W'.cell? ⟨w.heap.size, 0, none⟩ = some (.int .u32 va)) := ⟨fun W' hW => ⟨(M.out.then (below_step BB.out hW)).cell 1, cell_of_row _ _ 0 _ _ _ (row_then A.out hW)⟩⟩
  have hS0 := hS.out W (Below.refl _ _)
  go_enter Try.func69, Try.ntmps69
  go_wp2
  go_region_held3 (fun W' => W'.cell? ⟨L.m, 1, none⟩ = some (.pointer (some ⟨L.t, 0, none⟩)) ∧ W'.cell? ⟨w.heap.size, 0, none⟩ = some (.int .u32 va))
    (first | exact hS.out _ (by assumption) | exact hS.out _ ((Below.refl _ _).drew))
    (first
    | (go_at_call 84; (with_reducible refine (GT.out _ (below_step BB.out (Below.refl _ _).drew)).mono ?_); rintro e w1 ⟨rfl, hb⟩; have hb1 : Below W.heap.size W w1 := below_step ((Below.refl _ _).drew) hb))
  have BB := Aside0.mk (below_step BB.out hb1)
  have A := Aside0.mk (row_then A.out hb1)
  have M1 := Aside0.mk (M.out.then BB.out)
  clear hS0 hb1 hb c6
  have S := Aside0.mk (MStep.of_below M.out BB.out)
  obtain ⟨v1, rfl⟩ : ∃ v1, v1 = v := ⟨_, rfl⟩
  have NX := Aside0.mk (NextRow.same w v1)
  have d0 : w1.cell? ⟨w.heap.size, 0, none⟩ = some (.int .u32 va) := cell_of_row _ _ 0 _ _ _ A.out
  have d1 : w1.cell? ⟨w.heap.size, 1, none⟩ = some (.bool u) := cell_of_row _ _ 1 _ _ _ A.out
  have d2 : w1.cell? ⟨w.heap.size, 2, none⟩ = some (.bool wr) := cell_of_row _ _ 2 _ _ _ A.out
  go_wp2_with (first
    | (go_at_call 87; (with_reducible refine (PL.out _ _ _ M1.out).mono ?_); rintro e w2 ⟨rfl, hb⟩; have B2 := Aside0.mk (below_alloc hb (.cells #[.int .i64 0, .int .u32 0, .int .u32 0] 47 (0, 0))); have M2 := Aside0.mk (M1.out.then B2.out); have m0 := M2.out.cell 0; simp only [mmuCells, List.getElem?_toArray, List.getElem?_cons_zero, List.getElem?_cons_succ] at m0; clear hb)
    | (go_at_call 41; (with_reducible refine (RG.out _ _ _ M2.out).mono ?_); rintro e w3 ⟨rfl, rfl⟩))
  first | go_end0 | refine bodyPost_ret (results_none rfl _ _ _) rfl ?_
  exact ⟨rfl, S.out.then B2.out⟩
set_option maxRecDepth 100000 in
set_option maxHeartbeats 2000000 in
theorem mark_13 (w : World) (base : Nat) (L : Loc) (v : Value) (T : Tabs) (ps : List (Int × Int)) (l : List Int) (va : Int) (u wr : Bool) (h : MmuAt w base L v T ps l) (hm : (T.men == 0) = false) (x : Int) (GT : Aside0 (∀ W, Below w.heap.size w W → Calls Try.prog 84 #[.pointer (some ⟨L.t, 0, none⟩), .int .u32 (va / 512)] W fun e w' => e = .returned (.tuple #[.int .u32 x, .bool false]) ∧ Below W.heap.size W w')) (at_ : Int) (PL : Aside0 (∀ W v' ps', MmuAt W base L v' T ps' l → Calls Try.prog 87 #[.pointer (some ⟨L.m, 0, none⟩), .agg #[.int .u32 va, .bool u, .bool wr]] W fun e w' => e = .returned (.tuple #[.int .u32 at_, .agg #[.int .i64 0, .int .u32 0, .int .u32 0]]) ∧ Below W.heap.size W w')) (y y' : Int) (RG : Aside0 (∀ W v' ps', MmuAt W base L v' T ps' l → Calls Try.prog 41 #[.pointer (some ⟨L.r, 0, none⟩), .int .u32 at_, .int .i64 4] W fun e w' => e = .returned (.tuple #[.int .u32 y, .int .i64 0]) ∧ W = w')) (hy : Go.bits .or .u32 y 67108864 = y') (l' : List Int) (RP : Aside0 (∀ W v' ps', MmuAt W base L v' T ps' l → Calls Try.prog 39 #[.pointer (some ⟨L.r, 0, none⟩), .int .u32 at_, .int .u32 y', .int .i64 4] W fun e w' => e = .returned (.int .i64 0) ∧ MStep W w' base L v' T ps' l')) :
    Calls Try.prog 69 #[.pointer (some ⟨L.m, 0, none⟩), .agg #[.int .u32 va, .bool u, .bool wr]] w fun e w' => e = .returned (.tuple #[]) ∧ MStep w w' base L v T ps l' := by
  have M := Aside0.mk h
  have BX := box1 w (.cells #[.int .u32 va, .bool u, .bool wr] 118 (0, 0))
  obtain ⟨W, hW⟩ : ∃ W, w.alloc (.cells #[.int .u32 va, .bool u, .bool wr] 118 (0, 0)) = W := ⟨_, rfl⟩
  rw [hW] at BX
  have MW := Aside0.mk (M.out.then BX.1)
  have A := Aside0.mk BX.2
  have BB := Aside0.mk BX.1
  have c6 : W.cell? ⟨L.m, 6, none⟩ = some (.int .u32 T.men) := MW.out.cell 6
  clear h BX
  have hS : Aside0 (∀ W', Below W.heap.size W W' → W'.cell? ⟨L.m, 1, none⟩ = some (.pointer (some ⟨L.t, 0, none⟩)) ∧ W'.cell? ⟨w.heap.size, 0, none⟩ = some (.int .u32 va)) := ⟨fun W' hW => ⟨(M.out.then (below_step BB.out hW)).cell 1, cell_of_row _ _ 0 _ _ _ (row_then A.out hW)⟩⟩
  have hS0 := hS.out W (Below.refl _ _)
  go_enter Try.func69, Try.ntmps69
  go_wp2
  go_region_held3 (fun W' => W'.cell? ⟨L.m, 1, none⟩ = some (.pointer (some ⟨L.t, 0, none⟩)) ∧ W'.cell? ⟨w.heap.size, 0, none⟩ = some (.int .u32 va))
    (first | exact hS.out _ (by assumption) | exact hS.out _ ((Below.refl _ _).drew))
    (first
    | (go_at_call 84; (with_reducible refine (GT.out _ (below_step BB.out (Below.refl _ _).drew)).mono ?_); rintro e w1 ⟨rfl, hb⟩; have hb1 : Below W.heap.size W w1 := below_step ((Below.refl _ _).drew) hb))
  have BB := Aside0.mk (below_step BB.out hb1)
  have A := Aside0.mk (row_then A.out hb1)
  have M1 := Aside0.mk (M.out.then BB.out)
  clear hS0 hb1 hb c6
  have S := Aside0.mk (MStep.of_below M.out BB.out)
  obtain ⟨v1, rfl⟩ : ∃ v1, v1 = v := ⟨_, rfl⟩
  have NX := Aside0.mk (NextRow.same w v1)
  have d0 : w1.cell? ⟨w.heap.size, 0, none⟩ = some (.int .u32 va) := cell_of_row _ _ 0 _ _ _ A.out
  have d1 : w1.cell? ⟨w.heap.size, 1, none⟩ = some (.bool u) := cell_of_row _ _ 1 _ _ _ A.out
  have d2 : w1.cell? ⟨w.heap.size, 2, none⟩ = some (.bool wr) := cell_of_row _ _ 2 _ _ _ A.out
  go_wp2_with (first
    | (go_at_call 87; (with_reducible refine (PL.out _ _ _ M1.out).mono ?_); rintro e w2 ⟨rfl, hb⟩; have B2 := Aside0.mk (below_alloc hb (.cells #[.int .i64 0, .int .u32 0, .int .u32 0] 47 (0, 0))); have M2 := Aside0.mk (M1.out.then B2.out); have m0 := M2.out.cell 0; simp only [mmuCells, List.getElem?_toArray, List.getElem?_cons_zero, List.getElem?_cons_succ] at m0; clear hb)
    | (go_at_call 41; (with_reducible refine (RG.out _ _ _ M2.out).mono ?_); rintro e w3 ⟨rfl, rfl⟩)
    | (go_at_call 39; (with_reducible refine (RP.out _ _ _ M2.out).mono ?_); rintro e w5 ⟨rfl, s5⟩; have S5 := Aside0.mk s5; clear s5))
  first | go_end0 | refine bodyPost_ret (results_none rfl _ _ _) rfl ?_
  exact ⟨rfl, MStep.via (S.out.chg.then B2.out) NX.out S5.out⟩
set_option maxRecDepth 100000 in
set_option maxHeartbeats 2000000 in
theorem mark_21 (w : World) (base : Nat) (L : Loc) (v : Value) (T : Tabs) (ps : List (Int × Int)) (l : List Int) (va : Int) (u wr : Bool) (h : MmuAt w base L v T ps l) (hm : (T.men == 0) = false) (x : Int) (GT : Aside0 (∀ W, Below w.heap.size w W → Calls Try.prog 84 #[.pointer (some ⟨L.t, 0, none⟩), .int .u32 (va / 512)] W fun e w' => e = .returned (.tuple #[.int .u32 x, .bool true]) ∧ Below W.heap.size W w')) (PW : Aside0 (∀ W, Calls Try.prog 85 #[.int .u32 x] W fun e w' => e = .returned (.bool false) ∧ W = w')) (x' : Int) (hx : Go.bits .or .u32 x 67108864 = x') (HE : Aside0 (∀ p ∈ putP (va / 512) x' ps, (0 ≤ p.1 ∧ p.1 < 8388608) ∧ 0 ≤ p.2 ∧ p.2 < 4294967296)) (at_ : Int) (fk fv fi : Int) (hk : (fk == 0) = false) (PL : Aside0 (∀ W v' ps', MmuAt W base L v' T ps' l → Calls Try.prog 87 #[.pointer (some ⟨L.m, 0, none⟩), .agg #[.int .u32 va, .bool u, .bool wr]] W fun e w' => e = .returned (.tuple #[.int .u32 at_, .agg #[.int .i64 fk, .int .u32 fv, .int .u32 fi]]) ∧ Below W.heap.size W w')) :
    Calls Try.prog 69 #[.pointer (some ⟨L.m, 0, none⟩), .agg #[.int .u32 va, .bool u, .bool wr]] w fun e w' => e = .returned (.tuple #[]) ∧ MStep w w' base L v T (putP (va / 512) x' ps) l := by
  have M := Aside0.mk h
  have BX := box1 w (.cells #[.int .u32 va, .bool u, .bool wr] 118 (0, 0))
  obtain ⟨W, hW⟩ : ∃ W, w.alloc (.cells #[.int .u32 va, .bool u, .bool wr] 118 (0, 0)) = W := ⟨_, rfl⟩
  rw [hW] at BX
  have MW := Aside0.mk (M.out.then BX.1)
  have A := Aside0.mk BX.2
  have BB := Aside0.mk BX.1
  have c6 : W.cell? ⟨L.m, 6, none⟩ = some (.int .u32 T.men) := MW.out.cell 6
  clear h BX
  have hS : Aside0 (∀ W', Below W.heap.size W W' → W'.cell? ⟨L.m, 1, none⟩ = some (.pointer (some ⟨L.t, 0, none⟩)) ∧ W'.cell? ⟨w.heap.size, 0, none⟩ = some (.int .u32 va)) := ⟨fun W' hW => ⟨(M.out.then (below_step BB.out hW)).cell 1, cell_of_row _ _ 0 _ _ _ (row_then A.out hW)⟩⟩
  have hS0 := hS.out W (Below.refl _ _)
  go_enter Try.func69, Try.ntmps69
  go_wp2
  go_region_held3 (fun W' => W'.cell? ⟨L.m, 1, none⟩ = some (.pointer (some ⟨L.t, 0, none⟩)) ∧ W'.cell? ⟨w.heap.size, 0, none⟩ = some (.int .u32 va))
    (first | exact hS.out _ (by assumption) | exact hS.out _ ((Below.refl _ _).drew))
    (first
    | (go_at_call 84; (with_reducible refine (GT.out _ (below_step BB.out (Below.refl _ _).drew)).mono ?_); rintro e w1 ⟨rfl, hb⟩; have hb1 : Below W.heap.size W w1 := below_step ((Below.refl _ _).drew) hb))
  have BB := Aside0.mk (below_step BB.out hb1)
  have A := Aside0.mk (row_then A.out hb1)
  have M1 := Aside0.mk (M.out.then BB.out)
  clear hS0 hb1 hb c6
  have hT : Aside0 (∀ W', Below w1.heap.size w1 W' → W'.cell? ⟨L.m, 1, none⟩ = some (.pointer (some ⟨L.t, 0, none⟩)) ∧ W'.cell? ⟨w.heap.size, 0, none⟩ = some (.int .u32 va)) := ⟨fun W' hW => ⟨(M1.out.then hW).cell 1, cell_of_row _ _ 0 _ _ _ (row_then A.out hW)⟩⟩
  have hT0 := hT.out w1 (Below.refl _ _)
  go_wp2_with (first
    | (go_at_call 85; (with_reducible refine (PW.out _).mono ?_); rintro e w4 ⟨rfl, rfl⟩))
  go_region_held3 (fun W' => W'.cell? ⟨L.m, 1, none⟩ = some (.pointer (some ⟨L.t, 0, none⟩)) ∧ W'.cell? ⟨w.heap.size, 0, none⟩ = some (.int .u32 va))
    (first | exact hT.out _ (by assumption) | exact hT.out _ ((Below.refl _ _).drew) | exact hT2.out)
    (first
    | (go_at_call 86; (with_reducible refine (put_call _ _ _ _ _ (va / 512) x' (M1.out.then ((Below.refl _ _).drew)).tlb).mono ?_); rintro e w7 ⟨rfl, v7, h7, k7, n7⟩; have S7 := Aside0.mk ((M1.out.then ((Below.refl _ _).drew)).tlb_step h7 k7 (NextRow.of_or n7) HE.out); have hT2 : Aside0 (w7.cell? ⟨L.m, 1, none⟩ = some (.pointer (some ⟨L.t, 0, none⟩)) ∧ w7.cell? ⟨w.heap.size, 0, none⟩ = some (.int .u32 va)) := ⟨by obtain ⟨v8, h8, _⟩ := S7.out.at_; exact ⟨h8.cell 1, cell_of_row _ _ 0 _ _ _ (box_step M.out A.out (by have := (Array.getElem?_eq_some_iff.1 A.out).1; exact this) (Nat.le_refl _) S7.out)⟩⟩; have A7 := Aside0.mk (box_step M.out A.out (by have := (Array.getElem?_eq_some_iff.1 A.out).1; exact this) (Nat.le_refl _) S7.out); clear h7 k7 n7))
  have S := Aside0.mk (MStep.after (BB.out.drew) S7.out)
  obtain ⟨v1, m1, nx⟩ := S.out.at_
  have M1 := Aside0.mk m1
  have NX := Aside0.mk nx
  have A := A7
  clear m1 nx hT0
  have d0 : w7.cell? ⟨w.heap.size, 0, none⟩ = some (.int .u32 va) := cell_of_row _ _ 0 _ _ _ A.out
  have d1 : w7.cell? ⟨w.heap.size, 1, none⟩ = some (.bool u) := cell_of_row _ _ 1 _ _ _ A.out
  have d2 : w7.cell? ⟨w.heap.size, 2, none⟩ = some (.bool wr) := cell_of_row _ _ 2 _ _ _ A.out
  go_wp2_with (first
    | (go_at_call 87; (with_reducible refine (PL.out _ _ _ M1.out).mono ?_); rintro e w2 ⟨rfl, hb⟩; have B2 := Aside0.mk (below_alloc hb (.cells #[.int .i64 fk, .int .u32 fv, .int .u32 fi] 47 (0, 0))); have M2 := Aside0.mk (M1.out.then B2.out); have m0 := M2.out.cell 0; simp only [mmuCells, List.getElem?_toArray, List.getElem?_cons_zero, List.getElem?_cons_succ] at m0; clear hb))
  first | go_end0 | refine bodyPost_ret (results_none rfl _ _ _) rfl ?_
  exact ⟨rfl, S.out.then B2.out⟩
set_option maxRecDepth 100000 in
set_option maxHeartbeats 2000000 in
theorem mark_22 (w : World) (base : Nat) (L : Loc) (v : Value) (T : Tabs) (ps : List (Int × Int)) (l : List Int) (va : Int) (u wr : Bool) (h : MmuAt w base L v T ps l) (hm : (T.men == 0) = false) (x : Int) (GT : Aside0 (∀ W, Below w.heap.size w W → Calls Try.prog 84 #[.pointer (some ⟨L.t, 0, none⟩), .int .u32 (va / 512)] W fun e w' => e = .returned (.tuple #[.int .u32 x, .bool true]) ∧ Below W.heap.size W w')) (PW : Aside0 (∀ W, Calls Try.prog 85 #[.int .u32 x] W fun e w' => e = .returned (.bool false) ∧ W = w')) (x' : Int) (hx : Go.bits .or .u32 x 67108864 = x') (HE : Aside0 (∀ p ∈ putP (va / 512) x' ps, (0 ≤ p.1 ∧ p.1 < 8388608) ∧ 0 ≤ p.2 ∧ p.2 < 4294967296)) (at_ : Int) (PL : Aside0 (∀ W v' ps', MmuAt W base L v' T ps' l → Calls Try.prog 87 #[.pointer (some ⟨L.m, 0, none⟩), .agg #[.int .u32 va, .bool u, .bool wr]] W fun e w' => e = .returned (.tuple #[.int .u32 at_, .agg #[.int .i64 0, .int .u32 0, .int .u32 0]]) ∧ Below W.heap.size W w')) (y er : Int) (her : (er == 0) = false) (RG : Aside0 (∀ W v' ps', MmuAt W base L v' T ps' l → Calls Try.prog 41 #[.pointer (some ⟨L.r, 0, none⟩), .int .u32 at_, .int .i64 4] W fun e w' => e = .returned (.tuple #[.int .u32 y, .int .i64 er]) ∧ W = w')) :
    Calls Try.prog 69 #[.pointer (some ⟨L.m, 0, none⟩), .agg #[.int .u32 va, .bool u, .bool wr]] w fun e w' => e = .returned (.tuple #[]) ∧ MStep w w' base L v T (putP (va / 512) x' ps) l := by
  have M := Aside0.mk h
  have BX := box1 w (.cells #[.int .u32 va, .bool u, .bool wr] 118 (0, 0))
  obtain ⟨W, hW⟩ : ∃ W, w.alloc (.cells #[.int .u32 va, .bool u, .bool wr] 118 (0, 0)) = W := ⟨_, rfl⟩
  rw [hW] at BX
  have MW := Aside0.mk (M.out.then BX.1)
  have A := Aside0.mk BX.2
  have BB := Aside0.mk BX.1
  have c6 : W.cell? ⟨L.m, 6, none⟩ = some (.int .u32 T.men) := MW.out.cell 6
  clear h BX
  have hS : Aside0 (∀ W', Below W.heap.size W W' → W'.cell? ⟨L.m, 1, none⟩ = some (.pointer (some ⟨L.t, 0, none⟩)) ∧ W'.cell? ⟨w.heap.size, 0, none⟩ = some (.int .u32 va)) := ⟨fun W' hW => ⟨(M.out.then (below_step BB.out hW)).cell 1, cell_of_row _ _ 0 _ _ _ (row_then A.out hW)⟩⟩
  have hS0 := hS.out W (Below.refl _ _)
  go_enter Try.func69, Try.ntmps69
  go_wp2
  go_region_held3 (fun W' => W'.cell? ⟨L.m, 1, none⟩ = some (.pointer (some ⟨L.t, 0, none⟩)) ∧ W'.cell? ⟨w.heap.size, 0, none⟩ = some (.int .u32 va))
    (first | exact hS.out _ (by assumption) | exact hS.out _ ((Below.refl _ _).drew))
    (first
    | (go_at_call 84; (with_reducible refine (GT.out _ (below_step BB.out (Below.refl _ _).drew)).mono ?_); rintro e w1 ⟨rfl, hb⟩; have hb1 : Below W.heap.size W w1 := below_step ((Below.refl _ _).drew) hb))
  have BB := Aside0.mk (below_step BB.out hb1)
  have A := Aside0.mk (row_then A.out hb1)
  have M1 := Aside0.mk (M.out.then BB.out)
  clear hS0 hb1 hb c6
  have hT : Aside0 (∀ W', Below w1.heap.size w1 W' → W'.cell? ⟨L.m, 1, none⟩ = some (.pointer (some ⟨L.t, 0, none⟩)) ∧ W'.cell? ⟨w.heap.size, 0, none⟩ = some (.int .u32 va)) := ⟨fun W' hW => ⟨(M1.out.then hW).cell 1, cell_of_row _ _ 0 _ _ _ (row_then A.out hW)⟩⟩
  have hT0 := hT.out w1 (Below.refl _ _)
  go_wp2_with (first
    | (go_at_call 85; (with_reducible refine (PW.out _).mono ?_); rintro e w4 ⟨rfl, rfl⟩))
  go_region_held3 (fun W' => W'.cell? ⟨L.m, 1, none⟩ = some (.pointer (some ⟨L.t, 0, none⟩)) ∧ W'.cell? ⟨w.heap.size, 0, none⟩ = some (.int .u32 va))
    (first | exact hT.out _ (by assumption) | exact hT.out _ ((Below.refl _ _).drew) | exact hT2.out)
    (first
    | (go_at_call 86; (with_reducible refine (put_call _ _ _ _ _ (va / 512) x' (M1.out.then ((Below.refl _ _).drew)).tlb).mono ?_); rintro e w7 ⟨rfl, v7, h7, k7, n7⟩; have S7 := Aside0.mk ((M1.out.then ((Below.refl _ _).drew)).tlb_step h7 k7 (NextRow.of_or n7) HE.out); have hT2 : Aside0 (w7.cell? ⟨L.m, 1, none⟩ = some (.pointer (some ⟨L.t, 0, none⟩)) ∧ w7.cell? ⟨w.heap.size, 0, none⟩ = some (.int .u32 va)) := ⟨by obtain ⟨v8, h8, _⟩ := S7.out.at_; exact ⟨h8.cell 1, cell_of_row _ _ 0 _ _ _ (box_step M.out A.out (by have := (Array.getElem?_eq_some_iff.1 A.out).1; exact this) (Nat.le_refl _) S7.out)⟩⟩; have A7 := Aside0.mk (box_step M.out A.out (by have := (Array.getElem?_eq_some_iff.1 A.out).1; exact this) (Nat.le_refl _) S7.out); clear h7 k7 n7))
  have S := Aside0.mk (MStep.after (BB.out.drew) S7.out)
  obtain ⟨v1, m1, nx⟩ := S.out.at_
  have M1 := Aside0.mk m1
  have NX := Aside0.mk nx
  have A := A7
  clear m1 nx hT0
  have d0 : w7.cell? ⟨w.heap.size, 0, none⟩ = some (.int .u32 va) := cell_of_row _ _ 0 _ _ _ A.out
  have d1 : w7.cell? ⟨w.heap.size, 1, none⟩ = some (.bool u) := cell_of_row _ _ 1 _ _ _ A.out
  have d2 : w7.cell? ⟨w.heap.size, 2, none⟩ = some (.bool wr) := cell_of_row _ _ 2 _ _ _ A.out
  go_wp2_with (first
    | (go_at_call 87; (with_reducible refine (PL.out _ _ _ M1.out).mono ?_); rintro e w2 ⟨rfl, hb⟩; have B2 := Aside0.mk (below_alloc hb (.cells #[.int .i64 0, .int .u32 0, .int .u32 0] 47 (0, 0))); have M2 := Aside0.mk (M1.out.then B2.out); have m0 := M2.out.cell 0; simp only [mmuCells, List.getElem?_toArray, List.getElem?_cons_zero, List.getElem?_cons_succ] at m0; clear hb)
    | (go_at_call 41; (with_reducible refine (RG.out _ _ _ M2.out).mono ?_); rintro e w3 ⟨rfl, rfl⟩))
  first | go_end0 | refine bodyPost_ret (results_none rfl _ _ _) rfl ?_
  exact ⟨rfl, S.out.then B2.out⟩
set_option maxRecDepth 100000 in
set_option maxHeartbeats 2000000 in
theorem mark_23 (w : World) (base : Nat) (L : Loc) (v : Value) (T : Tabs) (ps : List (Int × Int)) (l : List Int) (va : Int) (u wr : Bool) (h : MmuAt w base L v T ps l) (hm : (T.men == 0) = false) (x : Int) (GT : Aside0 (∀ W, Below w.heap.size w W → Calls Try.prog 84 #[.pointer (some ⟨L.t, 0, none⟩), .int .u32 (va / 512)] W fun e w' => e = .returned (.tuple #[.int .u32 x, .bool true]) ∧ Below W.heap.size W w')) (PW : Aside0 (∀ W, Calls Try.prog 85 #[.int .u32 x] W fun e w' => e = .returned (.bool false) ∧ W = w')) (x' : Int) (hx : Go.bits .or .u32 x 67108864 = x') (HE : Aside0 (∀ p ∈ putP (va / 512) x' ps, (0 ≤ p.1 ∧ p.1 < 8388608) ∧ 0 ≤ p.2 ∧ p.2 < 4294967296)) (at_ : Int) (PL : Aside0 (∀ W v' ps', MmuAt W base L v' T ps' l → Calls Try.prog 87 #[.pointer (some ⟨L.m, 0, none⟩), .agg #[.int .u32 va, .bool u, .bool wr]] W fun e w' => e = .returned (.tuple #[.int .u32 at_, .agg #[.int .i64 0, .int .u32 0, .int .u32 0]]) ∧ Below W.heap.size W w')) (y y' : Int) (RG : Aside0 (∀ W v' ps', MmuAt W base L v' T ps' l → Calls Try.prog 41 #[.pointer (some ⟨L.r, 0, none⟩), .int .u32 at_, .int .i64 4] W fun e w' => e = .returned (.tuple #[.int .u32 y, .int .i64 0]) ∧ W = w')) (hy : Go.bits .or .u32 y 67108864 = y') (l' : List Int) (RP : Aside0 (∀ W v' ps', MmuAt W base L v' T ps' l → Calls Try.prog 39 #[.pointer (some ⟨L.r, 0, none⟩), .int .u32 at_, .int .u32 y', .int .i64 4] W fun e w' => e = .returned (.int .i64 0) ∧ MStep W w' base L v' T ps' l')) :
    Calls Try.prog 69 #[.pointer (some ⟨L.m, 0, none⟩), .agg #[.int .u32 va, .bool u, .bool wr]] w fun e w' => e = .returned (.tuple #[]) ∧ MStep w w' base L v T (putP (va / 512) x' ps) l' := by
  have M := Aside0.mk h
  have BX := box1 w (.cells #[.int .u32 va, .bool u, .bool wr] 118 (0, 0))
  obtain ⟨W, hW⟩ : ∃ W, w.alloc (.cells #[.int .u32 va, .bool u, .bool wr] 118 (0, 0)) = W := ⟨_, rfl⟩
  rw [hW] at BX
  have MW := Aside0.mk (M.out.then BX.1)
  have A := Aside0.mk BX.2
  have BB := Aside0.mk BX.1
  have c6 : W.cell? ⟨L.m, 6, none⟩ = some (.int .u32 T.men) := MW.out.cell 6
  clear h BX
  have hS : Aside0 (∀ W', Below W.heap.size W W' → W'.cell? ⟨L.m, 1, none⟩ = some (.pointer (some ⟨L.t, 0, none⟩)) ∧ W'.cell? ⟨w.heap.size, 0, none⟩ = some (.int .u32 va)) := ⟨fun W' hW => ⟨(M.out.then (below_step BB.out hW)).cell 1, cell_of_row _ _ 0 _ _ _ (row_then A.out hW)⟩⟩
  have hS0 := hS.out W (Below.refl _ _)
  go_enter Try.func69, Try.ntmps69
  go_wp2
  go_region_held3 (fun W' => W'.cell? ⟨L.m, 1, none⟩ = some (.pointer (some ⟨L.t, 0, none⟩)) ∧ W'.cell? ⟨w.heap.size, 0, none⟩ = some (.int .u32 va))
    (first | exact hS.out _ (by assumption) | exact hS.out _ ((Below.refl _ _).drew))
    (first
    | (go_at_call 84; (with_reducible refine (GT.out _ (below_step BB.out (Below.refl _ _).drew)).mono ?_); rintro e w1 ⟨rfl, hb⟩; have hb1 : Below W.heap.size W w1 := below_step ((Below.refl _ _).drew) hb))
  have BB := Aside0.mk (below_step BB.out hb1)
  have A := Aside0.mk (row_then A.out hb1)
  have M1 := Aside0.mk (M.out.then BB.out)
  clear hS0 hb1 hb c6
  have hT : Aside0 (∀ W', Below w1.heap.size w1 W' → W'.cell? ⟨L.m, 1, none⟩ = some (.pointer (some ⟨L.t, 0, none⟩)) ∧ W'.cell? ⟨w.heap.size, 0, none⟩ = some (.int .u32 va)) := ⟨fun W' hW => ⟨(M1.out.then hW).cell 1, cell_of_row _ _ 0 _ _ _ (row_then A.out hW)⟩⟩
  have hT0 := hT.out w1 (Below.refl _ _)
  go_wp2_with (first
    | (go_at_call 85; (with_reducible refine (PW.out _).mono ?_); rintro e w4 ⟨rfl, rfl⟩))
  go_region_held3 (fun W' => W'.cell? ⟨L.m, 1, none⟩ = some (.pointer (some ⟨L.t, 0, none⟩)) ∧ W'.cell? ⟨w.heap.size, 0, none⟩ = some (.int .u32 va))
    (first | exact hT.out _ (by assumption) | exact hT.out _ ((Below.refl _ _).drew) | exact hT2.out)
    (first
    | (go_at_call 86; (with_reducible refine (put_call _ _ _ _ _ (va / 512) x' (M1.out.then ((Below.refl _ _).drew)).tlb).mono ?_); rintro e w7 ⟨rfl, v7, h7, k7, n7⟩; have S7 := Aside0.mk ((M1.out.then ((Below.refl _ _).drew)).tlb_step h7 k7 (NextRow.of_or n7) HE.out); have hT2 : Aside0 (w7.cell? ⟨L.m, 1, none⟩ = some (.pointer (some ⟨L.t, 0, none⟩)) ∧ w7.cell? ⟨w.heap.size, 0, none⟩ = some (.int .u32 va)) := ⟨by obtain ⟨v8, h8, _⟩ := S7.out.at_; exact ⟨h8.cell 1, cell_of_row _ _ 0 _ _ _ (box_step M.out A.out (by have := (Array.getElem?_eq_some_iff.1 A.out).1; exact this) (Nat.le_refl _) S7.out)⟩⟩; have A7 := Aside0.mk (box_step M.out A.out (by have := (Array.getElem?_eq_some_iff.1 A.out).1; exact this) (Nat.le_refl _) S7.out); clear h7 k7 n7))
  have S := Aside0.mk (MStep.after (BB.out.drew) S7.out)
  obtain ⟨v1, m1, nx⟩ := S.out.at_
  have M1 := Aside0.mk m1
  have NX := Aside0.mk nx
  have A := A7
  clear m1 nx hT0
  have d0 : w7.cell? ⟨w.heap.size, 0, none⟩ = some (.int .u32 va) := cell_of_row _ _ 0 _ _ _ A.out
  have d1 : w7.cell? ⟨w.heap.size, 1, none⟩ = some (.bool u) := cell_of_row _ _ 1 _ _ _ A.out
  have d2 : w7.cell? ⟨w.heap.size, 2, none⟩ = some (.bool wr) := cell_of_row _ _ 2 _ _ _ A.out
  go_wp2_with (first
    | (go_at_call 87; (with_reducible refine (PL.out _ _ _ M1.out).mono ?_); rintro e w2 ⟨rfl, hb⟩; have B2 := Aside0.mk (below_alloc hb (.cells #[.int .i64 0, .int .u32 0, .int .u32 0] 47 (0, 0))); have M2 := Aside0.mk (M1.out.then B2.out); have m0 := M2.out.cell 0; simp only [mmuCells, List.getElem?_toArray, List.getElem?_cons_zero, List.getElem?_cons_succ] at m0; clear hb)
    | (go_at_call 41; (with_reducible refine (RG.out _ _ _ M2.out).mono ?_); rintro e w3 ⟨rfl, rfl⟩)
    | (go_at_call 39; (with_reducible refine (RP.out _ _ _ M2.out).mono ?_); rintro e w5 ⟨rfl, s5⟩; have S5 := Aside0.mk s5; clear s5))
  first | go_end0 | refine bodyPost_ret (results_none rfl _ _ _) rfl ?_
  exact ⟨rfl, MStep.via (S.out.chg.then B2.out) NX.out S5.out⟩
end Go.Proofs.Ytiogbgjeimdgmaa.MmuWalk
