/- The functions of layers 3 and 5, walked: entries of page tables; where an MMU's parts lie. -/
import Derived.Test.YtiogbgjeimdgmaaGRam
import Derived.Test.YtiogbgjeimdgmaaGTlb
import Derived.Deep.RegionHeld3
namespace Go.Proofs.Ytiogbgjeimdgmaa.MmuWalk
open Go.RowKit Go.Proofs.Ytiogbgjeimdgmaa.Aid Go.Proofs.YtiogbgjeimdgmaaW.PrintWords Go.Proofs.YtiogbgjeimdgmaaW.PrintLast Go.Proofs.YtiogbgjeimdgmaaW.PrintMore
open Go.Proofs.Ytiogbgjeimdgmaa.RamWalk (RamAt Bytes leN)
open Go.Proofs.Ytiogbgjeimdgmaa.TlbWalk (TlbAt Kept2 putP dropP posP entP)
attribute [local go_sem] max2_int min2_int max_two min_two max_three min_three max_four min_four   -- for this text's walks alone
set_option linter.unusedVariables false
set_option linter.unusedSimpArgs false
/-! An MMU in memory. -/
/-- Of what was there, the blocks of S alone may have turned. -/
structure Chg (S : Nat → Prop) (w w' : World) : Prop where
  os : w'.os = w.os
  tape : w'.tape = w.tape
  output : w'.output = w.output
  size : w.heap.size ≤ w'.heap.size
  block : ∀ k, k < w.heap.size → ¬ S k → w'.heap[k]? = w.heap[k]?
theorem Chg.of_below {w w' : World} (h : Below w.heap.size w w') (S : Nat → Prop) : Chg S w w' := ⟨h.os, h.tape, h.output, h.size, fun k hk _ => h.block k hk⟩
theorem Chg.refl (w : World) (S : Nat → Prop) : Chg S w w := Chg.of_below (Below.refl _ _) S
theorem Chg.trans {w w1 w2 : World} {S S' : Nat → Prop} (h : Chg S w w1) (k : Chg S' w1 w2) (hs : ∀ i, i < w.heap.size → S' i → S i) : Chg S w w2 :=
  ⟨k.os.trans h.os, k.tape.trans h.tape, k.output.trans h.output, Nat.le_trans h.size k.size, fun i hi h1 => (k.block i (Nat.lt_of_lt_of_le hi h.size) (fun e => h1 (hs i hi e))).trans (h.block i hi h1)⟩
theorem Chg.mono {w w1 : World} {S S' : Nat → Prop} (h : Chg S w w1) (hs : ∀ i, S i → S' i) : Chg S' w w1 := ⟨h.os, h.tape, h.output, h.size, fun i hi h1 => h.block i hi (fun e => h1 (hs i e))⟩
theorem Chg.then {w w1 w2 : World} {S : Nat → Prop} (h : Chg S w w1) (k : Below w1.heap.size w1 w2) : Chg S w w2 :=
  ⟨k.os.trans h.os, k.tape.trans h.tape, k.output.trans h.output, Nat.le_trans h.size k.size, fun i hi h1 => (k.block i (Nat.lt_of_lt_of_le hi h.size)).trans (h.block i hi h1)⟩
theorem Chg.below {w0 w w' : World} {S : Nat → Prop} (h : Chg S w w') (b : Below w0.heap.size w0 w) (hs : ∀ i, S i → w0.heap.size ≤ i) : Below w0.heap.size w0 w' :=
  ⟨h.os.trans b.os, h.tape.trans b.tape, h.output.trans b.output, Nat.le_trans b.size h.size, fun i hi => (h.block i (Nat.lt_of_lt_of_le hi b.size) (fun e => by have := hs i e; omega)).trans (b.block i hi)⟩
/-- The registers that tell how addresses are translated. -/
structure Tabs where
  p0b : Int
  p0l : Int
  sb : Int
  sl : Int
  men : Int
def Tabs.ok (T : Tabs) : Prop := (0 ≤ T.p0b ∧ T.p0b < 4294967296) ∧ (0 ≤ T.p0l ∧ T.p0l < 4294967296) ∧ (0 ≤ T.sb ∧ T.sb < 4294967296) ∧ (0 ≤ T.sl ∧ T.sl < 4294967296) ∧ (0 ≤ T.men ∧ T.men < 4294967296)
def Tabs.val (T : Tabs) : Value := .agg #[.int .u32 T.p0b, .int .u32 T.p0l, .int .u32 T.sb, .int .u32 T.sl, .int .u32 T.men]
def mmuCells (gr gt : Nat) (T : Tabs) : Array Value := #[.pointer (some ⟨gr, 0, none⟩), .pointer (some ⟨gt, 0, none⟩), .int .u32 T.p0b, .int .u32 T.p0l, .int .u32 T.sb, .int .u32 T.sl, .int .u32 T.men]
/-- Where the parts of an MMU lie. -/
structure Loc where
  m : Nat
  r : Nat
  b : Nat
  c : Nat
  t : Nat
structure MmuAt (W : World) (base : Nat) (L : Loc) (v : Value) (T : Tabs) (ps : List (Int × Int)) (l : List Int) : Prop where
  blk : W.heap[L.m]? = some (.cells (mmuCells L.r L.t T) 107 (0, 0))
  ge : base ≤ L.m
  ram : RamAt W base L.r (.slice (some ⟨L.b, 0, none⟩) l.length L.c) l
  tlb : TlbAt W base L.t v ps
  by_ : Bytes l
  ok : T.ok
  ents : ∀ p ∈ ps, (0 ≤ p.1 ∧ p.1 < 8388608) ∧ 0 ≤ p.2 ∧ p.2 < 4294967296
theorem MmuAt.lt {W : World} {base : Nat} {L : Loc} {v : Value} {T : Tabs} {ps : List (Int × Int)} {l : List Int} (h : MmuAt W base L v T ps l) : L.m < W.heap.size := (Array.getElem?_eq_some_iff.1 h.blk).1
theorem MmuAt.then {W W' : World} {base : Nat} {L : Loc} {v : Value} {T : Tabs} {ps : List (Int × Int)} {l : List Int} (h : MmuAt W base L v T ps l) (k : Below W.heap.size W W') : MmuAt W' base L v T ps l :=
  ⟨(k.block L.m h.lt).trans h.blk, h.ge, h.ram.then k, h.tlb.then k, h.by_, h.ok, h.ents⟩
theorem MmuAt.cell {W : World} {base : Nat} {L : Loc} {v : Value} {T : Tabs} {ps : List (Int × Int)} {l : List Int} (h : MmuAt W base L v T ps l) (j : Nat) : W.cell? ⟨L.m, j, none⟩ = (mmuCells L.r L.t T)[j]? := cell_of_row W L.m j _ _ _ h.blk
theorem MmuAt.free {W : World} {base : Nat} {L : Loc} {v : Value} {T : Tabs} {ps : List (Int × Int)} {l : List Int} (h : MmuAt W base L v T ps l) (j : Nat) : W.frozen? ⟨L.m, j, none⟩ = false := frozen_of_row W L.m j _ _ h.blk
def R32 (x : Int) : Prop := 0 ≤ x ∧ x < 4294967296
theorem and_mask (j : Nat) (hj : j ≤ 32) (x c : Int) (hx : R32 x) (hc : c = ((2 ^ j - 1 : Nat) : Int)) : Go.bits .and .u32 x c = x % ((2 ^ j : Nat) : Int) := by
  obtain ⟨n, rfl⟩ : ∃ n : Nat, x = n := ⟨x.toNat, by have := hx.1; omega⟩
  have hn : n < 4294967296 := by have := hx.2; omega
  have hp : 2 ^ j ≤ 2 ^ 32 := Nat.pow_le_pow_right (by decide) hj
  have hpos := Nat.two_pow_pos j
  rw [hc, u32_and_nat n _ hn (by omega), Nat.and_two_pow_sub_one_eq_mod]
  exact Int.natCast_emod _ _
theorem or_low (j : Nat) (a b : Int) (ha : 0 ≤ a) (hb : 0 ≤ b) (hb1 : b < ((2 ^ j : Nat) : Int)) (h : a * ((2 ^ j : Nat) : Int) + b < 4294967296) : Go.bits .or .u32 (a * ((2 ^ j : Nat) : Int)) b = a * ((2 ^ j : Nat) : Int) + b := by
  obtain ⟨n, rfl⟩ : ∃ n : Nat, a = n := ⟨a.toNat, by omega⟩
  obtain ⟨m, rfl⟩ : ∃ m : Nat, b = m := ⟨b.toNat, by omega⟩
  have hm : m < 2 ^ j := by omega
  have h' : n * 2 ^ j + m < 4294967296 := by
    have e : ((n * 2 ^ j + m : Nat) : Int) = (n : Int) * ((2 ^ j : Nat) : Int) + (m : Int) := by rw [Int.natCast_add, Int.natCast_mul]
    omega
  have e1 : n * 2 ^ j ||| m = n * 2 ^ j + m := by rw [← Nat.shiftLeft_eq]; exact (Nat.shiftLeft_add_eq_or_of_lt hm n).symm
  rw [← Int.natCast_mul, u32_or_nat _ _ (by omega) (by omega), e1]
  exact Int.natCast_add _ _
set_option maxRecDepth 100000 in
theorem and_flag (j : Nat) (hj : j < 32) (x c : Int) (hx : R32 x) (hc : c = ((2 ^ j : Nat) : Int)) : (Go.bits .and .u32 x c != 0) = decide (x / ((2 ^ j : Nat) : Int) % 2 = 1) := by
  obtain ⟨n, rfl⟩ : ∃ n : Nat, x = n := ⟨x.toNat, by have := hx.1; omega⟩
  rw [u32_flag j n c hc hj (by have := hx.2; omega), Nat.testBit_eq_decide_div_mod_eq]
  have e : ((n : Int) / ((2 ^ j : Nat) : Int) % 2) = ((n / 2 ^ j % 2 : Nat) : Int) := by
    rw [← Int.natCast_ediv]; exact (Int.natCast_emod _ _).symm
  rw [e]
  congr 1
  apply propext
  constructor
  · intro h; rw [h]; rfl
  · intro h; exact_mod_cast h
/-- What an entry says. -/
def protE (x : Int) : Int := x / 134217728 % 4
def isE (x : Int) : Bool := decide (x / 2147483648 % 2 = 1)
def wrE (x : Int) : Bool := decide (x / 67108864 % 2 = 1)
def placeE (x va : Int) : Int := x % 2097152 * 512 + va % 512
def mayE (x : Int) (user wr : Bool) : Bool := if user = false then decide (protE x ≠ 0) else if wr = true then decide (protE x = 3) else decide (2 ≤ protE x)
theorem placeE_r (x va : Int) : R32 (placeE x va) := by unfold R32 placeE; omega
theorem pplace_call (w : World) (x va : Int) (hx : R32 x) (hv : R32 va) : Calls Try.prog 81 #[.int .u32 x, .int .u32 va] w fun e w' => e = .returned (.int .u32 (placeE x va)) ∧ w = w' := by
  have e1 : Go.bits .and .u32 x 2097151 = x % 2097152 := and_mask 21 (by decide) x _ hx rfl
  have e2 : Go.bits .and .u32 va 511 = va % 512 := and_mask 9 (by decide) va _ hv rfl
  have e3 : x % 2097152 * 512 % 4294967296 = x % 2097152 * 512 := by omega
  have e4 : Go.bits .or .u32 (x % 2097152 * 512) (va % 512) = x % 2097152 * 512 + va % 512 := or_low 9 (x % 2097152) (va % 512) (by omega) (by omega) (show va % 512 < 512 by omega) (show x % 2097152 * 512 + va % 512 < 4294967296 by omega)
  go_enter Try.func81, Try.ntmps81
  go_wp2
  go_ret
  exact ⟨rfl, rfl⟩
theorem pis_call (w : World) (x : Int) (hx : R32 x) : Calls Try.prog 91 #[.int .u32 x] w fun e w' => e = .returned (.bool (isE x)) ∧ w = w' := by
  have e1 : (Go.bits .and .u32 x 2147483648 != 0) = isE x := and_flag 31 (by decide) x _ hx rfl
  go_enter Try.func91, Try.ntmps91
  go_wp2
  go_ret
  exact ⟨rfl, rfl⟩
theorem pwr_call (w : World) (x : Int) (hx : R32 x) : Calls Try.prog 85 #[.int .u32 x] w fun e w' => e = .returned (.bool (wrE x)) ∧ w = w' := by
  have e1 : (Go.bits .and .u32 x 67108864 != 0) = wrE x := and_flag 26 (by decide) x _ hx rfl
  go_enter Try.func85, Try.ntmps85
  go_wp2
  go_ret
  exact ⟨rfl, rfl⟩
theorem pprot_call (w : World) (x : Int) (hx : R32 x) : Calls Try.prog 93 #[.int .u32 x] w fun e w' => e = .returned (.int .i64 (protE x)) ∧ w = w' := by
  have e1 : Go.bits .and .u32 (x / 134217728) 3 = protE x := and_mask 2 (by decide) (x / 134217728) _ (by unfold R32 at *; omega) rfl
  have e2 : wrap64 (protE x) = protE x := by unfold protE; exact wrap64_in (by omega) (by omega)
  go_enter Try.func93, Try.ntmps93
  go_wp2
  go_ret
  refine ⟨?_, rfl⟩
  show Ending.returned (Value.int .i64 (wrap64 (protE x))) = _
  rw [e2]
theorem pmay_call (w : World) (x : Int) (user wr : Bool) (hx : R32 x) : Calls Try.prog 90 #[.int .u32 x, .bool user, .bool wr] w fun e w' => e = .returned (.bool (mayE x user wr)) ∧ w = w' := by
  have P := Aside0.mk (pprot_call w x hx)
  unfold mayE
  generalize protE x = p at *
  cases user <;> cases wr
  all_goals
    go_enter Try.func90, Try.ntmps90
    go_wp2_with (first | (go_at_call 93; (with_reducible refine (P.out).mono ?_); rintro e w1 ⟨rfl, rfl⟩))
    go_ret
    refine ⟨?_, rfl⟩
    first | rfl | simp
/-- A fault: its kind, its address, what it was. -/
abbrev Flt := Int × Int × Int
def fltV (f : Flt) : Value := .agg #[.int .i64 f.1, .int .u32 f.2.1, .int .u32 f.2.2]
def noF : Flt := (0, 0, 0)
def flt (k va i : Int) (wr : Bool) : Flt := (k, va, if wr = true then i + 4 else i)
theorem infoF : (Try.prog.info? 47).map (·.size) = some 3 := by kernel_rfl
theorem fault_call (w : World) (va : Int) (u wr : Bool) (k i : Int) (hi : i = 0 ∨ i = 1) : Calls Try.prog 83 #[.agg #[.int .u32 va, .bool u, .bool wr], .int .i64 k, .int .u32 i] w fun e w' => e = .returned (fltV (flt k va i wr)) ∧ Below w.heap.size w w' := by
  have o1 : Go.bits .or .u32 0 4 = 4 := by decide +kernel
  have o2 : Go.bits .or .u32 1 4 = 5 := by decide +kernel
  rcases hi with rfl | rfl <;> cases wr
  all_goals
    go_enter Try.func83, Try.ntmps83
    go_wp2
    refine bodyPost_ret (results_cell_row rfl _ _ (w.heap.size + 1) 47 _ (0, 0) _ rfl (heap_alloc2_new _ _ _) Try.underlying47 rfl infoF) rfl ⟨rfl, below_alloc (below_alloc (Below.refl _ _) _) _⟩
end Go.Proofs.Ytiogbgjeimdgmaa.MmuWalk
/- The MMU's place, walked: where the entry of an address's page lies. -/
namespace Go.Proofs.Ytiogbgjeimdgmaa.MmuWalk
open Go.RowKit Go.Proofs.Ytiogbgjeimdgmaa.Aid Go.Proofs.YtiogbgjeimdgmaaW.PrintWords Go.Proofs.YtiogbgjeimdgmaaW.PrintLast Go.Proofs.YtiogbgjeimdgmaaW.PrintMore
open Go.Proofs.Ytiogbgjeimdgmaa.RamWalk (RamAt Bytes leN)
open Go.Proofs.Ytiogbgjeimdgmaa.TlbWalk (TlbAt Kept2 putP dropP posP entP)
attribute [local go_sem] max2_int min2_int max_two min_two max_three min_three max_four min_four   -- for this text's walks alone
set_option linter.unusedVariables false
set_option linter.unusedSimpArgs false
def pageE (va : Int) : Int := va / 512 % 2097152
def baseT (T : Tabs) (va : Int) : Int := if va / 2147483648 = 1 then T.sb else T.p0b
def lenT (T : Tabs) (va : Int) : Int := if va / 2147483648 = 1 then T.sl else T.p0l
def offE (T : Tabs) (va : Int) : Bool := decide (va / 1073741824 % 2 = 1) || decide (lenT T va ≤ pageE va)
def atE (T : Tabs) (va : Int) : Int := (baseT T va + 4 * pageE va) % 4294967296
def accV (va : Int) (u wr : Bool) : Value := .agg #[.int .u32 va, .bool u, .bool wr]
theorem box2 (w : World) (o1 o2 : Obj) : Below w.heap.size w ((w.alloc o1).alloc o2) ∧ ((w.alloc o1).alloc o2).heap[w.heap.size]? = some o1 ∧ ((w.alloc o1).alloc o2).heap[w.heap.size + 1]? = some o2 :=
  ⟨below_alloc (below_alloc (Below.refl _ _) _) _, heap_alloc2_old _ _ _, heap_alloc2_new _ _ _⟩
theorem below_setRow {B : Nat} {w W : World} (h : Below B w W) {g : Nat} (hg : B ≤ g) (cs : Array Value) : Below B w (W.setRow g cs) :=
  h.trans ⟨rfl, rfl, rfl, by simp [World.setRow], fun k hk => setRow_other _ g k _ (by omega)⟩
theorem row_then {W W' : World} {g : Nat} {o : Obj} (h : W.heap[g]? = some o) (b : Below W.heap.size W W') : W'.heap[g]? = some o := (b.block g (Array.getElem?_eq_some_iff.1 h).1).trans h
set_option maxHeartbeats 1000000 in
theorem place_no1 (w : World) (base : Nat) (L : Loc) (v : Value) (T : Tabs) (ps : List (Int × Int)) (l : List Int) (va q pg j : Int) (u wr : Bool) (h : MmuAt w base L v T ps l)
    (e1 : Go.bits .and .u32 (va / 512) 2097151 = pg) (e2 : Go.bits .and .u32 (va / 1073741824) 1 = q) (hs : va / 2147483648 = 1) (hq : q = 1) (F : Aside0 (∀ W, Calls Try.prog 83 #[.agg #[.int .u32 va, .bool u, .bool wr], .int .i64 2, .int .u32 1] W fun e w' => e = .returned (.agg #[.int .i64 2, .int .u32 va, .int .u32 j]) ∧ Below W.heap.size W w')) :
    Calls Try.prog 87 #[.pointer (some ⟨L.m, 0, none⟩), .agg #[.int .u32 va, .bool u, .bool wr]] w fun e w' => e = .returned (.tuple #[.int .u32 0, .agg #[.int .i64 2, .int .u32 va, .int .u32 j]]) ∧ Below w.heap.size w w' := by
  have M := Aside0.mk h
  clear h
  go_enter Try.func87, Try.ntmps87
  go_wp2
  have BX := box2 w (.cells #[.int .u32 va, .bool u, .bool wr] 118 (0, 0)) (.cells #[.int .i64 0, .int .u32 0, .int .u32 0] 47 (0, 0))
  generalize (w.alloc (.cells #[.int .u32 va, .bool u, .bool wr] 118 (0, 0))).alloc (.cells #[.int .i64 0, .int .u32 0, .int .u32 0] 47 (0, 0)) = W at *
  have MW := M.out.then BX.1
  have c2 : W.cell? ⟨L.m, 2, none⟩ = some (.int .u32 T.p0b) := MW.cell 2
  have c3 : W.cell? ⟨L.m, 3, none⟩ = some (.int .u32 T.p0l) := MW.cell 3
  have c4 : W.cell? ⟨L.m, 4, none⟩ = some (.int .u32 T.sb) := MW.cell 4
  have c5 : W.cell? ⟨L.m, 5, none⟩ = some (.int .u32 T.sl) := MW.cell 5
  have d0 : W.cell? ⟨w.heap.size, 0, none⟩ = some (.int .u32 va) := cell_of_row _ _ 0 _ _ _ BX.2.1
  have d1 : W.cell? ⟨w.heap.size, 1, none⟩ = some (.bool u) := cell_of_row _ _ 1 _ _ _ BX.2.1
  have d2 : W.cell? ⟨w.heap.size, 2, none⟩ = some (.bool wr) := cell_of_row _ _ 2 _ _ _ BX.2.1
  have BX := Aside0.mk BX
  clear MW
  go_region
  go_wp2
  go_region
  go_wp2_with (first
    | (go_at_call 83; (with_reducible refine (F.out _).mono ?_); rintro e w1 ⟨rfl, hb⟩; have B1 := Aside0.mk hb; have Z1 := Aside0.mk (row_then (W := W) BX.out.2.2 (show Below W.heap.size W w1 from by first | exact (((Below.refl W.heap.size W).drew).drew).trans hb | exact ((Below.refl W.heap.size W).drew).trans hb)); have BB := Aside0.mk (show Below w.heap.size w w1 from below_step BX.out.1 (by first | exact (((Below.refl W.heap.size W).drew).drew).trans hb | exact ((Below.refl W.heap.size W).drew).trans hb)); clear hb)
    | (refine wpList_store_row rfl 47 (.tmp 5) (.tmp 48) rfl (w.heap.size + 1) #[.int .i64 2, .int .u32 va, .int .u32 j] rfl rfl _ _ Z1.out infoF rfl (by kernel_rfl) ?_))
  refine bodyPost_ret (results_tc rfl _ _ (w.heap.size + 1) 47 #[.int .i64 2, .int .u32 va, .int .u32 j] (0, 0) _ rfl (setRow_heap _ _ _ _ 47 _ Z1.out) Try.underlying47 rfl infoF) rfl ⟨rfl, below_setRow BB.out (by omega) _⟩
set_option maxHeartbeats 1000000 in
theorem place_no2 (w : World) (base : Nat) (L : Loc) (v : Value) (T : Tabs) (ps : List (Int × Int)) (l : List Int) (va q pg j : Int) (u wr : Bool) (h : MmuAt w base L v T ps l)
    (e1 : Go.bits .and .u32 (va / 512) 2097151 = pg) (e2 : Go.bits .and .u32 (va / 1073741824) 1 = q) (hs : va / 2147483648 = 1) (hq : (q == 1) = false) (hn : T.sl ≤ pg) (F : Aside0 (∀ W, Calls Try.prog 83 #[.agg #[.int .u32 va, .bool u, .bool wr], .int .i64 2, .int .u32 1] W fun e w' => e = .returned (.agg #[.int .i64 2, .int .u32 va, .int .u32 j]) ∧ Below W.heap.size W w')) :
    Calls Try.prog 87 #[.pointer (some ⟨L.m, 0, none⟩), .agg #[.int .u32 va, .bool u, .bool wr]] w fun e w' => e = .returned (.tuple #[.int .u32 0, .agg #[.int .i64 2, .int .u32 va, .int .u32 j]]) ∧ Below w.heap.size w w' := by
  have M := Aside0.mk h
  clear h
  go_enter Try.func87, Try.ntmps87
  go_wp2
  have BX := box2 w (.cells #[.int .u32 va, .bool u, .bool wr] 118 (0, 0)) (.cells #[.int .i64 0, .int .u32 0, .int .u32 0] 47 (0, 0))
  generalize (w.alloc (.cells #[.int .u32 va, .bool u, .bool wr] 118 (0, 0))).alloc (.cells #[.int .i64 0, .int .u32 0, .int .u32 0] 47 (0, 0)) = W at *
  have MW := M.out.then BX.1
  have c2 : W.cell? ⟨L.m, 2, none⟩ = some (.int .u32 T.p0b) := MW.cell 2
  have c3 : W.cell? ⟨L.m, 3, none⟩ = some (.int .u32 T.p0l) := MW.cell 3
  have c4 : W.cell? ⟨L.m, 4, none⟩ = some (.int .u32 T.sb) := MW.cell 4
  have c5 : W.cell? ⟨L.m, 5, none⟩ = some (.int .u32 T.sl) := MW.cell 5
  have d0 : W.cell? ⟨w.heap.size, 0, none⟩ = some (.int .u32 va) := cell_of_row _ _ 0 _ _ _ BX.2.1
  have d1 : W.cell? ⟨w.heap.size, 1, none⟩ = some (.bool u) := cell_of_row _ _ 1 _ _ _ BX.2.1
  have d2 : W.cell? ⟨w.heap.size, 2, none⟩ = some (.bool wr) := cell_of_row _ _ 2 _ _ _ BX.2.1
  have BX := Aside0.mk BX
  clear MW
  go_region
  go_wp2
  go_region
  go_wp2_with (first
    | (go_at_call 83; (with_reducible refine (F.out _).mono ?_); rintro e w1 ⟨rfl, hb⟩; have B1 := Aside0.mk hb; have Z1 := Aside0.mk (row_then (W := W) BX.out.2.2 (show Below W.heap.size W w1 from by first | exact (((Below.refl W.heap.size W).drew).drew).trans hb | exact ((Below.refl W.heap.size W).drew).trans hb)); have BB := Aside0.mk (show Below w.heap.size w w1 from below_step BX.out.1 (by first | exact (((Below.refl W.heap.size W).drew).drew).trans hb | exact ((Below.refl W.heap.size W).drew).trans hb)); clear hb)
    | (refine wpList_store_row rfl 47 (.tmp 5) (.tmp 48) rfl (w.heap.size + 1) #[.int .i64 2, .int .u32 va, .int .u32 j] rfl rfl _ _ Z1.out infoF rfl (by kernel_rfl) ?_))
  refine bodyPost_ret (results_tc rfl _ _ (w.heap.size + 1) 47 #[.int .i64 2, .int .u32 va, .int .u32 j] (0, 0) _ rfl (setRow_heap _ _ _ _ 47 _ Z1.out) Try.underlying47 rfl infoF) rfl ⟨rfl, below_setRow BB.out (by omega) _⟩
set_option maxHeartbeats 1000000 in
theorem place_no3 (w : World) (base : Nat) (L : Loc) (v : Value) (T : Tabs) (ps : List (Int × Int)) (l : List Int) (va q pg j : Int) (u wr : Bool) (h : MmuAt w base L v T ps l)
    (e1 : Go.bits .and .u32 (va / 512) 2097151 = pg) (e2 : Go.bits .and .u32 (va / 1073741824) 1 = q) (hs : (va / 2147483648 == 1) = false) (hq : q = 1) (F : Aside0 (∀ W, Calls Try.prog 83 #[.agg #[.int .u32 va, .bool u, .bool wr], .int .i64 2, .int .u32 1] W fun e w' => e = .returned (.agg #[.int .i64 2, .int .u32 va, .int .u32 j]) ∧ Below W.heap.size W w')) :
    Calls Try.prog 87 #[.pointer (some ⟨L.m, 0, none⟩), .agg #[.int .u32 va, .bool u, .bool wr]] w fun e w' => e = .returned (.tuple #[.int .u32 0, .agg #[.int .i64 2, .int .u32 va, .int .u32 j]]) ∧ Below w.heap.size w w' := by
  have M := Aside0.mk h
  clear h
  go_enter Try.func87, Try.ntmps87
  go_wp2
  have BX := box2 w (.cells #[.int .u32 va, .bool u, .bool wr] 118 (0, 0)) (.cells #[.int .i64 0, .int .u32 0, .int .u32 0] 47 (0, 0))
  generalize (w.alloc (.cells #[.int .u32 va, .bool u, .bool wr] 118 (0, 0))).alloc (.cells #[.int .i64 0, .int .u32 0, .int .u32 0] 47 (0, 0)) = W at *
  have MW := M.out.then BX.1
  have c2 : W.cell? ⟨L.m, 2, none⟩ = some (.int .u32 T.p0b) := MW.cell 2
  have c3 : W.cell? ⟨L.m, 3, none⟩ = some (.int .u32 T.p0l) := MW.cell 3
  have c4 : W.cell? ⟨L.m, 4, none⟩ = some (.int .u32 T.sb) := MW.cell 4
  have c5 : W.cell? ⟨L.m, 5, none⟩ = some (.int .u32 T.sl) := MW.cell 5
  have d0 : W.cell? ⟨w.heap.size, 0, none⟩ = some (.int .u32 va) := cell_of_row _ _ 0 _ _ _ BX.2.1
  have d1 : W.cell? ⟨w.heap.size, 1, none⟩ = some (.bool u) := cell_of_row _ _ 1 _ _ _ BX.2.1
  have d2 : W.cell? ⟨w.heap.size, 2, none⟩ = some (.bool wr) := cell_of_row _ _ 2 _ _ _ BX.2.1
  have BX := Aside0.mk BX
  clear MW
  go_region
  go_wp2_with (first
    | (go_at_call 83; (with_reducible refine (F.out _).mono ?_); rintro e w1 ⟨rfl, hb⟩; have B1 := Aside0.mk hb; have Z1 := Aside0.mk (row_then (W := W) BX.out.2.2 (show Below W.heap.size W w1 from by first | exact (((Below.refl W.heap.size W).drew).drew).trans hb | exact ((Below.refl W.heap.size W).drew).trans hb)); have BB := Aside0.mk (show Below w.heap.size w w1 from below_step BX.out.1 (by first | exact (((Below.refl W.heap.size W).drew).drew).trans hb | exact ((Below.refl W.heap.size W).drew).trans hb)); clear hb)
    | (refine wpList_store_row rfl 47 (.tmp 5) (.tmp 48) rfl (w.heap.size + 1) #[.int .i64 2, .int .u32 va, .int .u32 j] rfl rfl _ _ Z1.out infoF rfl (by kernel_rfl) ?_))
  refine bodyPost_ret (results_tc rfl _ _ (w.heap.size + 1) 47 #[.int .i64 2, .int .u32 va, .int .u32 j] (0, 0) _ rfl (setRow_heap _ _ _ _ 47 _ Z1.out) Try.underlying47 rfl infoF) rfl ⟨rfl, below_setRow BB.out (by omega) _⟩
set_option maxHeartbeats 1000000 in
theorem place_no4 (w : World) (base : Nat) (L : Loc) (v : Value) (T : Tabs) (ps : List (Int × Int)) (l : List Int) (va q pg j : Int) (u wr : Bool) (h : MmuAt w base L v T ps l)
    (e1 : Go.bits .and .u32 (va / 512) 2097151 = pg) (e2 : Go.bits .and .u32 (va / 1073741824) 1 = q) (hs : (va / 2147483648 == 1) = false) (hq : (q == 1) = false) (hn : T.p0l ≤ pg) (F : Aside0 (∀ W, Calls Try.prog 83 #[.agg #[.int .u32 va, .bool u, .bool wr], .int .i64 2, .int .u32 1] W fun e w' => e = .returned (.agg #[.int .i64 2, .int .u32 va, .int .u32 j]) ∧ Below W.heap.size W w')) :
    Calls Try.prog 87 #[.pointer (some ⟨L.m, 0, none⟩), .agg #[.int .u32 va, .bool u, .bool wr]] w fun e w' => e = .returned (.tuple #[.int .u32 0, .agg #[.int .i64 2, .int .u32 va, .int .u32 j]]) ∧ Below w.heap.size w w' := by
  have M := Aside0.mk h
  clear h
  go_enter Try.func87, Try.ntmps87
  go_wp2
  have BX := box2 w (.cells #[.int .u32 va, .bool u, .bool wr] 118 (0, 0)) (.cells #[.int .i64 0, .int .u32 0, .int .u32 0] 47 (0, 0))
  generalize (w.alloc (.cells #[.int .u32 va, .bool u, .bool wr] 118 (0, 0))).alloc (.cells #[.int .i64 0, .int .u32 0, .int .u32 0] 47 (0, 0)) = W at *
  have MW := M.out.then BX.1
  have c2 : W.cell? ⟨L.m, 2, none⟩ = some (.int .u32 T.p0b) := MW.cell 2
  have c3 : W.cell? ⟨L.m, 3, none⟩ = some (.int .u32 T.p0l) := MW.cell 3
  have c4 : W.cell? ⟨L.m, 4, none⟩ = some (.int .u32 T.sb) := MW.cell 4
  have c5 : W.cell? ⟨L.m, 5, none⟩ = some (.int .u32 T.sl) := MW.cell 5
  have d0 : W.cell? ⟨w.heap.size, 0, none⟩ = some (.int .u32 va) := cell_of_row _ _ 0 _ _ _ BX.2.1
  have d1 : W.cell? ⟨w.heap.size, 1, none⟩ = some (.bool u) := cell_of_row _ _ 1 _ _ _ BX.2.1
  have d2 : W.cell? ⟨w.heap.size, 2, none⟩ = some (.bool wr) := cell_of_row _ _ 2 _ _ _ BX.2.1
  have BX := Aside0.mk BX
  clear MW
  go_region
  go_wp2_with (first
    | (go_at_call 83; (with_reducible refine (F.out _).mono ?_); rintro e w1 ⟨rfl, hb⟩; have B1 := Aside0.mk hb; have Z1 := Aside0.mk (row_then (W := W) BX.out.2.2 (show Below W.heap.size W w1 from by first | exact (((Below.refl W.heap.size W).drew).drew).trans hb | exact ((Below.refl W.heap.size W).drew).trans hb)); have BB := Aside0.mk (show Below w.heap.size w w1 from below_step BX.out.1 (by first | exact (((Below.refl W.heap.size W).drew).drew).trans hb | exact ((Below.refl W.heap.size W).drew).trans hb)); clear hb)
    | (refine wpList_store_row rfl 47 (.tmp 5) (.tmp 48) rfl (w.heap.size + 1) #[.int .i64 2, .int .u32 va, .int .u32 j] rfl rfl _ _ Z1.out infoF rfl (by kernel_rfl) ?_))
  refine bodyPost_ret (results_tc rfl _ _ (w.heap.size + 1) 47 #[.int .i64 2, .int .u32 va, .int .u32 j] (0, 0) _ rfl (setRow_heap _ _ _ _ 47 _ Z1.out) Try.underlying47 rfl infoF) rfl ⟨rfl, below_setRow BB.out (by omega) _⟩
set_option maxHeartbeats 1000000 in
theorem place_yes1 (w : World) (base : Nat) (L : Loc) (v : Value) (T : Tabs) (ps : List (Int × Int)) (l : List Int) (va q pg : Int) (u wr : Bool) (h : MmuAt w base L v T ps l)
    (e1 : Go.bits .and .u32 (va / 512) 2097151 = pg) (e2 : Go.bits .and .u32 (va / 1073741824) 1 = q) (hs : va / 2147483648 = 1) (hq : (q == 1) = false) (hn : ¬ T.sl ≤ pg) :
    Calls Try.prog 87 #[.pointer (some ⟨L.m, 0, none⟩), .agg #[.int .u32 va, .bool u, .bool wr]] w fun e w' => e = .returned (.tuple #[.int .u32 ((T.sb + 4 * pg % 4294967296) % 4294967296), .agg #[.int .i64 0, .int .u32 0, .int .u32 0]]) ∧ Below w.heap.size w w' := by
  have M := Aside0.mk h
  clear h
  go_enter Try.func87, Try.ntmps87
  go_wp2
  have BX := box2 w (.cells #[.int .u32 va, .bool u, .bool wr] 118 (0, 0)) (.cells #[.int .i64 0, .int .u32 0, .int .u32 0] 47 (0, 0))
  generalize (w.alloc (.cells #[.int .u32 va, .bool u, .bool wr] 118 (0, 0))).alloc (.cells #[.int .i64 0, .int .u32 0, .int .u32 0] 47 (0, 0)) = W at *
  have MW := M.out.then BX.1
  have c2 : W.cell? ⟨L.m, 2, none⟩ = some (.int .u32 T.p0b) := MW.cell 2
  have c3 : W.cell? ⟨L.m, 3, none⟩ = some (.int .u32 T.p0l) := MW.cell 3
  have c4 : W.cell? ⟨L.m, 4, none⟩ = some (.int .u32 T.sb) := MW.cell 4
  have c5 : W.cell? ⟨L.m, 5, none⟩ = some (.int .u32 T.sl) := MW.cell 5
  have d0 : W.cell? ⟨w.heap.size, 0, none⟩ = some (.int .u32 va) := cell_of_row _ _ 0 _ _ _ BX.2.1
  have d1 : W.cell? ⟨w.heap.size, 1, none⟩ = some (.bool u) := cell_of_row _ _ 1 _ _ _ BX.2.1
  have d2 : W.cell? ⟨w.heap.size, 2, none⟩ = some (.bool wr) := cell_of_row _ _ 2 _ _ _ BX.2.1
  have BX := Aside0.mk BX
  clear MW
  go_region
  go_wp2
  go_region
  go_wp2_with (first
    | (refine wpList_store_row rfl 47 (.tmp 5) (.tmp 53) rfl (w.heap.size + 1) #[.int .i64 0, .int .u32 0, .int .u32 0] rfl rfl _ _ (show (W.drew.drew).heap[w.heap.size + 1]? = some (.cells #[.int .i64 0, .int .u32 0, .int .u32 0] 47 (0, 0)) from BX.out.2.2) infoF rfl (by kernel_rfl) ?_))
  refine bodyPost_ret (results_tc rfl _ _ (w.heap.size + 1) 47 #[.int .i64 0, .int .u32 0, .int .u32 0] (0, 0) _ rfl (setRow_heap _ _ _ _ 47 _ (show (W.drew.drew).heap[w.heap.size + 1]? = some (.cells #[.int .i64 0, .int .u32 0, .int .u32 0] 47 (0, 0)) from BX.out.2.2)) Try.underlying47 rfl infoF) rfl ⟨rfl, below_setRow ((BX.out.1.drew).drew) (by omega) _⟩
set_option maxHeartbeats 1000000 in
theorem place_yes2 (w : World) (base : Nat) (L : Loc) (v : Value) (T : Tabs) (ps : List (Int × Int)) (l : List Int) (va q pg : Int) (u wr : Bool) (h : MmuAt w base L v T ps l)
    (e1 : Go.bits .and .u32 (va / 512) 2097151 = pg) (e2 : Go.bits .and .u32 (va / 1073741824) 1 = q) (hs : (va / 2147483648 == 1) = false) (hq : (q == 1) = false) (hn : ¬ T.p0l ≤ pg) :
    Calls Try.prog 87 #[.pointer (some ⟨L.m, 0, none⟩), .agg #[.int .u32 va, .bool u, .bool wr]] w fun e w' => e = .returned (.tuple #[.int .u32 ((T.p0b + 4 * pg % 4294967296) % 4294967296), .agg #[.int .i64 0, .int .u32 0, .int .u32 0]]) ∧ Below w.heap.size w w' := by
  have M := Aside0.mk h
  clear h
  go_enter Try.func87, Try.ntmps87
  go_wp2
  have BX := box2 w (.cells #[.int .u32 va, .bool u, .bool wr] 118 (0, 0)) (.cells #[.int .i64 0, .int .u32 0, .int .u32 0] 47 (0, 0))
  generalize (w.alloc (.cells #[.int .u32 va, .bool u, .bool wr] 118 (0, 0))).alloc (.cells #[.int .i64 0, .int .u32 0, .int .u32 0] 47 (0, 0)) = W at *
  have MW := M.out.then BX.1
  have c2 : W.cell? ⟨L.m, 2, none⟩ = some (.int .u32 T.p0b) := MW.cell 2
  have c3 : W.cell? ⟨L.m, 3, none⟩ = some (.int .u32 T.p0l) := MW.cell 3
  have c4 : W.cell? ⟨L.m, 4, none⟩ = some (.int .u32 T.sb) := MW.cell 4
  have c5 : W.cell? ⟨L.m, 5, none⟩ = some (.int .u32 T.sl) := MW.cell 5
  have d0 : W.cell? ⟨w.heap.size, 0, none⟩ = some (.int .u32 va) := cell_of_row _ _ 0 _ _ _ BX.2.1
  have d1 : W.cell? ⟨w.heap.size, 1, none⟩ = some (.bool u) := cell_of_row _ _ 1 _ _ _ BX.2.1
  have d2 : W.cell? ⟨w.heap.size, 2, none⟩ = some (.bool wr) := cell_of_row _ _ 2 _ _ _ BX.2.1
  have BX := Aside0.mk BX
  clear MW
  go_region
  go_wp2_with (first
    | (refine wpList_store_row rfl 47 (.tmp 5) (.tmp 53) rfl (w.heap.size + 1) #[.int .i64 0, .int .u32 0, .int .u32 0] rfl rfl _ _ (show (W.drew).heap[w.heap.size + 1]? = some (.cells #[.int .i64 0, .int .u32 0, .int .u32 0] 47 (0, 0)) from BX.out.2.2) infoF rfl (by kernel_rfl) ?_))
  refine bodyPost_ret (results_tc rfl _ _ (w.heap.size + 1) 47 #[.int .i64 0, .int .u32 0, .int .u32 0] (0, 0) _ rfl (setRow_heap _ _ _ _ 47 _ (show (W.drew).heap[w.heap.size + 1]? = some (.cells #[.int .i64 0, .int .u32 0, .int .u32 0] 47 (0, 0)) from BX.out.2.2)) Try.underlying47 rfl infoF) rfl ⟨rfl, below_setRow (BX.out.1.drew) (by omega) _⟩
theorem ok_add (T : Tabs) (va b : Int) : (b + 4 * pageE va % 4294967296) % 4294967296 = (b + 4 * pageE va) % 4294967296 := by omega
theorem place_call (w : World) (base : Nat) (L : Loc) (v : Value) (T : Tabs) (ps : List (Int × Int)) (l : List Int) (va : Int) (u wr : Bool) (hv : R32 va) (h : MmuAt w base L v T ps l) :
    Calls Try.prog 87 #[.pointer (some ⟨L.m, 0, none⟩), accV va u wr] w fun e w' => e = .returned (.tuple #[.int .u32 (if offE T va = true then 0 else atE T va), fltV (if offE T va = true then flt 2 va 1 wr else noF)]) ∧ Below w.heap.size w w' := by
  have e1 : Go.bits .and .u32 (va / 512) 2097151 = pageE va := and_mask 21 (by decide) (va / 512) _ (by unfold R32 at *; omega) rfl
  have e2 : Go.bits .and .u32 (va / 1073741824) 1 = va / 1073741824 % 2 := and_mask 1 (by decide) (va / 1073741824) _ (by unfold R32 at *; omega) rfl
  have F := Aside0.mk (fun W => fault_call W va u wr 2 1 (.inr rfl))
  unfold offE lenT atE baseT accV
  by_cases hs : va / 2147483648 = 1
  · rw [if_pos hs, if_pos hs]
    by_cases hq : va / 1073741824 % 2 = 1
    · rw [if_pos (by rw [decide_eq_true hq]; rfl), if_pos (by rw [decide_eq_true hq]; rfl)]
      exact place_no1 w base L v T ps l va _ _ _ u wr h e1 e2 hs hq F
    · by_cases hn : T.sl ≤ pageE va
      · rw [if_pos (by rw [decide_eq_true hn, Bool.or_true]), if_pos (by rw [decide_eq_true hn, Bool.or_true])]
        exact place_no2 w base L v T ps l va _ _ _ u wr h e1 e2 hs (beq_eq_false_iff_ne.mpr hq) hn F
      · rw [if_neg (by rw [decide_eq_false hn, decide_eq_false hq]; decide), if_neg (by rw [decide_eq_false hn, decide_eq_false hq]; decide), ← ok_add T]
        exact place_yes1 w base L v T ps l va _ _ u wr h e1 e2 hs (beq_eq_false_iff_ne.mpr hq) hn
  · have hs' : (va / 2147483648 == 1) = false := beq_eq_false_iff_ne.mpr hs
    rw [if_neg hs, if_neg hs]
    by_cases hq : va / 1073741824 % 2 = 1
    · rw [if_pos (by rw [decide_eq_true hq]; rfl), if_pos (by rw [decide_eq_true hq]; rfl)]
      exact place_no3 w base L v T ps l va _ _ _ u wr h e1 e2 hs' hq F
    · by_cases hn : T.p0l ≤ pageE va
      · rw [if_pos (by rw [decide_eq_true hn, Bool.or_true]), if_pos (by rw [decide_eq_true hn, Bool.or_true])]
        exact place_no4 w base L v T ps l va _ _ _ u wr h e1 e2 hs' (beq_eq_false_iff_ne.mpr hq) hn F
      · rw [if_neg (by rw [decide_eq_false hn, decide_eq_false hq]; decide), if_neg (by rw [decide_eq_false hn, decide_eq_false hq]; decide), ← ok_add T]
        exact place_yes2 w base L v T ps l va _ _ u wr h e1 e2 hs' (beq_eq_false_iff_ne.mpr hq) hn
end Go.Proofs.Ytiogbgjeimdgmaa.MmuWalk
/- The MMU's entry, walked: an address's page's entry, buffered or not. -/
namespace Go.Proofs.Ytiogbgjeimdgmaa.MmuWalk
open Go.RowKit Go.Proofs.Ytiogbgjeimdgmaa.Aid Go.Proofs.YtiogbgjeimdgmaaW.PrintWords Go.Proofs.YtiogbgjeimdgmaaW.PrintLast Go.Proofs.YtiogbgjeimdgmaaW.PrintMore
open Go.Proofs.Ytiogbgjeimdgmaa.RamWalk (RamAt Bytes leN leN_bounds get_i get_bus_i)
open Go.Proofs.Ytiogbgjeimdgmaa.TlbWalk (TlbAt Kept2 putP dropP posP entP nil2 get_yes get_no put_call mem_getD)
attribute [local go_sem] max2_int min2_int max_two min_two max_three min_three max_four min_four   -- for this text's walks alone
set_option linter.unusedVariables false
set_option linter.unusedSimpArgs false
/-- The entry that stands in memory, or why none is read. -/
def memF (T : Tabs) (l : List Int) (va : Int) (wr : Bool) : Int × Flt :=
  if offE T va = true then (0, flt 2 va 1 wr) else if atE T va + 4 ≤ l.length then (leN ((l.drop (atE T va).toNat).take 4), noF) else (0, flt 1 va 0 wr)
def lookF (T : Tabs) (ps : List (Int × Int)) (l : List Int) (va : Int) (wr : Bool) : Int × Flt :=
  if posP (va / 512) ps < ps.length then (entP (va / 512) ps, noF) else memF T l va wr
def entryF (T : Tabs) (ps : List (Int × Int)) (l : List Int) (va : Int) (u wr : Bool) : Int × Flt :=
  if (lookF T ps l va wr).2.1 ≠ 0 then (0, (lookF T ps l va wr).2) else if mayE (lookF T ps l va wr).1 u wr = false then (0, flt 2 va 0 wr) else if isE (lookF T ps l va wr).1 = false then (0, flt 3 va 0 wr) else ((lookF T ps l va wr).1, noF)
def entryP (T : Tabs) (ps : List (Int × Int)) (l : List Int) (va : Int) (u wr keep : Bool) : List (Int × Int) :=
  if (entryF T ps l va u wr).2.1 = 0 ∧ ¬ posP (va / 512) ps < ps.length ∧ keep = true then putP (va / 512) (entryF T ps l va u wr).1 ps else ps
/-- What a call leaves of an MMU. -/
def foot (L : Loc) (v : Value) (k : Nat) : Prop := k = L.m ∨ k = L.t ∨ k = L.b ∨ some k = v.ownBlock
/-- What a call leaves of the buffer's row. -/
def NextRow (W : World) (v v' : Value) : Prop := ∀ i, v'.ownBlock = some i → v.ownBlock = some i ∨ W.heap.size ≤ i
theorem NextRow.of_or {W : World} {v v' : Value} (h : v'.ownBlock = v.ownBlock ∨ ∃ b, v'.ownBlock = some b ∧ W.heap.size ≤ b) : NextRow W v v' := fun i hi => by
  rcases h with h | ⟨b, h, hb⟩
  · exact .inl (h ▸ hi)
  · rw [h] at hi
    simp only [Option.some.injEq] at hi
    exact .inr (by omega)
theorem NextRow.nil (W : World) (v : Value) : NextRow W v (.slice none 0 0) := fun i hi => by simp [Value.ownBlock] at hi
theorem NextRow.same (W : World) (v : Value) : NextRow W v v := fun i hi => .inl hi
theorem NextRow.up {W W1 : World} {v v' : Value} (h : NextRow W1 v v') (hs : W.heap.size ≤ W1.heap.size) : NextRow W v v' := fun i hi => (h i hi).imp id (fun k => Nat.le_trans hs k)
theorem NextRow.trans {W W1 : World} {v v1 v2 : Value} (h : NextRow W v v1) (k : NextRow W1 v1 v2) (hs : W.heap.size ≤ W1.heap.size) : NextRow W v v2 := fun i hi => by
  rcases k i hi with k | k
  · exact h i k
  · exact .inr (Nat.le_trans hs k)
structure MStep (W W' : World) (base : Nat) (L : Loc) (v : Value) (T : Tabs) (ps : List (Int × Int)) (l : List Int) : Prop where
  at_ : ∃ v', MmuAt W' base L v' T ps l ∧ NextRow W v v'
  chg : Chg (foot L v) W W'
theorem MStep.of_below {W W' : World} {base : Nat} {L : Loc} {v : Value} {T : Tabs} {ps : List (Int × Int)} {l : List Int} (h : MmuAt W base L v T ps l) (b : Below W.heap.size W W') : MStep W W' base L v T ps l :=
  ⟨⟨v, h.then b, NextRow.same _ _⟩, Chg.of_below b _⟩
theorem foot_of {W : World} {L : Loc} {v v' : Value} (h : NextRow W v v') (i : Nat) (hi : i < W.heap.size) (f : foot L v' i) : foot L v i := by
  rcases f with f | f | f | f
  · exact .inl f
  · exact .inr (.inl f)
  · exact .inr (.inr (.inl f))
  · rcases h i f.symm with h | h
    · exact .inr (.inr (.inr h.symm))
    · omega
theorem MStep.trans {W W1 W2 : World} {base : Nat} {L : Loc} {v : Value} {T1 T2 : Tabs} {ps1 ps2 : List (Int × Int)} {l1 l2 : List Int} (h : MStep W W1 base L v T1 ps1 l1)
    (k : ∀ v1, MmuAt W1 base L v1 T1 ps1 l1 → MStep W1 W2 base L v1 T2 ps2 l2) : MStep W W2 base L v T2 ps2 l2 := by
  obtain ⟨⟨v1, m1, n1⟩, c1⟩ := h
  obtain ⟨⟨v2, m2, n2⟩, c2⟩ := k v1 m1
  exact ⟨⟨v2, m2, n1.trans n2 c1.size⟩, c1.trans c2 (fun i hi f => foot_of n1 i hi f)⟩
theorem MStep.then {W W1 W2 : World} {base : Nat} {L : Loc} {v : Value} {T : Tabs} {ps : List (Int × Int)} {l : List Int} (h : MStep W W1 base L v T ps l) (b : Below W1.heap.size W1 W2) : MStep W W2 base L v T ps l :=
  h.trans fun v1 m1 => MStep.of_below m1 b
theorem MStep.after {W W1 W2 : World} {base : Nat} {L : Loc} {v : Value} {T : Tabs} {ps : List (Int × Int)} {l : List Int} (b : Below W.heap.size W W1) (h : MStep W1 W2 base L v T ps l) : MStep W W2 base L v T ps l := by
  obtain ⟨⟨v1, m1, n1⟩, c1⟩ := h
  exact ⟨⟨v1, m1, n1.up b.size⟩, (Chg.of_below b _).trans c1 (fun i _ f => f)⟩
/-- The parts of an MMU lie apart. -/
theorem RamAt.ne_of {W : World} {base base' g b n c t : Nat} {l : List Int} {v : Value} {ps : List (Int × Int)} (h : RamAt W base g (.slice (some ⟨b, 0, none⟩) n c) l) (k : TlbAt W base' t v ps) : g ≠ t ∧ b ≠ t ∧ some g ≠ v.ownBlock ∧ some b ≠ v.ownBlock := by
  obtain ⟨cur, hb, _⟩ := h.row
  have hg := h.1
  have ht := k.1
  have hv : ∀ i, v.ownBlock = some i → ∃ cur, W.heap[i]? = some (.cells cur 136 (0, 0)) := by
    intro i hi
    rcases k.2.2.1.2 with ⟨rfl, _⟩ | ⟨b', c', cur, rfl, _, hh, _⟩
    · simp [Value.ownBlock] at hi
    · simp only [Value.ownBlock, Option.some.injEq] at hi
      subst hi
      exact ⟨cur, hh⟩
  refine ⟨?_, ?_, ?_, ?_⟩
  · rintro rfl; rw [hg] at ht; simp at ht
  · rintro rfl; rw [hb] at ht; simp at ht
  · intro e; obtain ⟨cur', hc⟩ := hv g e.symm; rw [hg] at hc; simp at hc
  · intro e; obtain ⟨cur', hc⟩ := hv b e.symm; rw [hb] at hc; simp at hc
theorem MmuAt.m_ne {W : World} {base : Nat} {L : Loc} {v : Value} {T : Tabs} {ps : List (Int × Int)} {l : List Int} (h : MmuAt W base L v T ps l) : L.m ≠ L.r ∧ L.m ≠ L.b ∧ L.m ≠ L.t ∧ some L.m ≠ v.ownBlock := by
  have hm := h.blk
  refine ⟨?_, ?_, ?_, ?_⟩
  · intro e; have := h.ram.1; rw [← e, hm] at this; simp at this
  · intro e; obtain ⟨cur, hb, _⟩ := h.ram.row; rw [← e, hm] at hb; simp at hb
  · intro e; have := h.tlb.1; rw [← e, hm] at this; simp at this
  · intro e
    rcases h.tlb.2.2.1.2 with ⟨rfl, _⟩ | ⟨b', c', cur, rfl, _, hh, _⟩
    · simp [Value.ownBlock] at e
    · simp only [Value.ownBlock, Option.some.injEq] at e
      subst e
      rw [hm] at hh; simp at hh
/-- The buffer alone was turned. -/
theorem MmuAt.tlb_step {W W' : World} {base : Nat} {L : Loc} {v v' : Value} {T : Tabs} {ps ps' : List (Int × Int)} {l : List Int} (h : MmuAt W base L v T ps l) (t : TlbAt W' base L.t v' ps') (k : Kept2 W W' L.t v.ownBlock)
    (n : NextRow W v v') (he : ∀ p ∈ ps', (0 ≤ p.1 ∧ p.1 < 8388608) ∧ 0 ≤ p.2 ∧ p.2 < 4294967296) : MStep W W' base L v T ps' l := by
  obtain ⟨a1, a2, a3, a4⟩ := RamAt.ne_of h.ram h.tlb
  obtain ⟨b1, b2, b3, b4⟩ := h.m_ne
  refine ⟨⟨v', ⟨(k.block L.m h.lt b3 b4).trans h.blk, h.ge, ?_, t, h.by_, h.ok, he⟩, n⟩, ⟨k.os, k.tape, k.output, k.size, fun i hi hf => k.block i hi (fun e => hf (.inr (.inl e))) (fun e => hf (.inr (.inr (.inr e))))⟩⟩
  obtain ⟨cur, hb, _⟩ := h.ram.row
  refine ⟨(k.block L.r (Array.getElem?_eq_some_iff.1 h.ram.1).1 a1 a3).trans h.ram.1, h.ram.2.1, ?_, h.ram.2.2.2⟩
  obtain ⟨o1, o2⟩ := h.ram.2.2.1
  refine ⟨o1, ?_⟩
  rcases o2 with o2 | ⟨b, c, cur', hv, hb', hh, r⟩
  · exact .inl o2
  · have hbb : b = L.b := by simp only [Value.slice.injEq, Option.some.injEq, Addr.mk.injEq, and_true] at hv; exact hv.1.symm
    subst hbb
    exact .inr ⟨_, c, cur', hv, hb', (k.block _ (Array.getElem?_eq_some_iff.1 hb).1 a2 a4).trans hh, r⟩
/-- Rows stay where their block does. -/
theorem own_keep {W W' : World} {base e s n : Nat} {v : Value} {xs : List Value} (h : W.ownsRow base e s v n xs) (k : ∀ i, v.ownBlock = some i → W'.heap[i]? = W.heap[i]?) : W'.ownsRow base e s v n xs := by
  obtain ⟨o1, o2⟩ := h
  refine ⟨o1, ?_⟩
  rcases o2 with o2 | ⟨b, c, cur, rfl, hb, hh, r⟩
  · exact .inl o2
  · exact .inr ⟨b, c, cur, rfl, hb, (k b rfl).trans hh, r⟩
/-- The blocks of an MMU: its footprint, and the memory's own. -/
def mine (L : Loc) (v : Value) (i : Nat) : Prop := foot L v i ∨ i = L.r
theorem MmuAt.keep {W W' : World} {base : Nat} {L : Loc} {v : Value} {T : Tabs} {ps : List (Int × Int)} {l : List Int} (h : MmuAt W base L v T ps l) (k : ∀ i, mine L v i → W'.heap[i]? = W.heap[i]?) : MmuAt W' base L v T ps l :=
  ⟨(k _ (.inl (.inl rfl))).trans h.blk, h.ge,
    ⟨(k _ (.inr rfl)).trans h.ram.1, h.ram.2.1, own_keep h.ram.2.2.1 (fun i hi => k i (.inl (.inr (.inr (.inl (by simp only [Value.ownBlock, Option.some.injEq] at hi; exact hi.symm)))))), h.ram.2.2.2⟩,
    ⟨(k _ (.inl (.inr (.inl rfl)))).trans h.tlb.1, h.tlb.2.1, own_keep h.tlb.2.2.1 (fun i hi => k i (.inl (.inr (.inr (.inr hi.symm))))), h.tlb.2.2.2⟩, h.by_, h.ok, h.ents⟩
def mTy (ty : TypeId) : Prop := ty = 107 ∨ ty = 102 ∨ ty = 5 ∨ ty = 132 ∨ ty = 136
theorem MmuAt.types {W : World} {base : Nat} {L : Loc} {v : Value} {T : Tabs} {ps : List (Int × Int)} {l : List Int} (h : MmuAt W base L v T ps l) (i : Nat) (k : mine L v i) : ∃ cs ty, W.heap[i]? = some (.cells cs ty (0, 0)) ∧ mTy ty := by
  rcases k with (k | k | k | k) | k
  · exact ⟨_, _, by rw [k]; exact h.blk, .inl rfl⟩
  · exact ⟨_, _, by rw [k]; exact h.tlb.1, .inr (.inr (.inr (.inl rfl)))⟩
  · obtain ⟨cur, hb, _⟩ := h.ram.row
    exact ⟨_, _, by rw [k]; exact hb, .inr (.inr (.inl rfl))⟩
  · rcases h.tlb.2.2.1.2 with ⟨rfl, _⟩ | ⟨b', c', cur, rfl, _, hh, _⟩
    · simp [Value.ownBlock] at k
    · simp only [Value.ownBlock, Option.some.injEq] at k
      subst k
      exact ⟨_, _, hh, .inr (.inr (.inr (.inr rfl)))⟩
  · exact ⟨_, _, by rw [k]; exact h.ram.1, .inr (.inl rfl)⟩
theorem MmuAt.ne_ty {W : World} {base : Nat} {L : Loc} {v : Value} {T : Tabs} {ps : List (Int × Int)} {l : List Int} (h : MmuAt W base L v T ps l) {g : Nat} {cs : Array Value} {ty : TypeId} {fr : Nat × Nat} (hg : W.heap[g]? = some (.cells cs ty fr)) (ht : ¬ mTy ty) (i : Nat) (k : mine L v i) : i ≠ g := by
  rintro rfl
  obtain ⟨cs', ty', h', m⟩ := h.types i k
  rw [hg] at h'
  simp only [Option.some.injEq, Obj.cells.injEq] at h'
  exact ht (h'.2.1 ▸ m)
/-- A block of another kind, made behind, is stored into. -/
theorem MStep.setRow {w W : World} {base : Nat} {L : Loc} {v : Value} {T : Tabs} {ps : List (Int × Int)} {l : List Int} {g : Nat} {cs0 : Array Value} {ty : TypeId} {fr : Nat × Nat} (s : MStep w W base L v T ps l) (hg : w.heap.size ≤ g) (hb : W.heap[g]? = some (.cells cs0 ty fr)) (ht : ¬ mTy ty) (cs : Array Value) : MStep w (W.setRow g cs) base L v T ps l := by
  obtain ⟨⟨v1, m1, n1⟩, c1⟩ := s
  refine ⟨⟨v1, m1.keep (fun i k => setRow_other W g i cs (m1.ne_ty hb ht i k)), n1⟩, ⟨c1.os, c1.tape, c1.output, by simp [World.setRow]; exact c1.size, fun i hi hf => (setRow_other W g i cs (by omega)).trans (c1.block i hi hf)⟩⟩
end Go.Proofs.Ytiogbgjeimdgmaa.MmuWalk
/- The MMU's entry, walked case by case. -/
namespace Go.Proofs.Ytiogbgjeimdgmaa.MmuWalk
open Go.RowKit Go.Proofs.Ytiogbgjeimdgmaa.Aid Go.Proofs.YtiogbgjeimdgmaaW.PrintWords Go.Proofs.YtiogbgjeimdgmaaW.PrintLast Go.Proofs.YtiogbgjeimdgmaaW.PrintMore
open Go.Proofs.Ytiogbgjeimdgmaa.RamWalk (RamAt Bytes leN leN_bounds get_i get_bus_i)
open Go.Proofs.Ytiogbgjeimdgmaa.TlbWalk (TlbAt Kept2 putP dropP posP entP nil2 get_yes get_no put_call mem_getD)
attribute [local go_sem] max2_int min2_int max_two min_two max_three min_three max_four min_four   -- for this text's walks alone
set_option linter.unusedVariables false
set_option linter.unusedSimpArgs false
theorem m_cell_alloc {w W : World} {base : Nat} {L : Loc} {v : Value} {T : Tabs} {ps : List (Int × Int)} {l : List Int} (h : MmuAt w base L v T ps l) (b : Below w.heap.size w W) (o : Obj) (j : Nat) : (W.alloc o).cell? ⟨L.m, j, none⟩ = (mmuCells L.r L.t T)[j]? := (h.then (below_alloc b o)).cell j
theorem flt3_put {V : World} {g : Nat} {a b c : Value} (h : V.heap[g]? = some (.cells #[a, b, c] 47 (0, 0))) (x y z : Value) : ((((V.setCell ⟨g, 0, none⟩ x).setCell ⟨g, 1, none⟩ y).setCell ⟨g, 2, none⟩ z).drew).heap[g]? = some (.cells #[x, y, z] 47 (0, 0)) :=
  blk_put (blk_put (blk_put h 0 x rfl) 1 y rfl) 2 z rfl
theorem flt3_below {B : Nat} {w V : World} (h : Below B w V) {g : Nat} (hg : B ≤ g) (x y z : Value) : Below B w (((V.setCell ⟨g, 0, none⟩ x).setCell ⟨g, 1, none⟩ y).setCell ⟨g, 2, none⟩ z).drew :=
  (((h.setCell (p := ⟨g, 0, none⟩) hg x).setCell (p := ⟨g, 1, none⟩) hg y).setCell (p := ⟨g, 2, none⟩) hg z).drew
theorem foot_lt {W : World} {base : Nat} {L : Loc} {v : Value} {T : Tabs} {ps : List (Int × Int)} {l : List Int} (h : MmuAt W base L v T ps l) (i : Nat) (f : foot L v i) : i < W.heap.size := by
  rcases f with f | f | f | f
  · rw [f]; exact h.lt
  · rw [f]; exact h.tlb.lt
  · rw [f]; obtain ⟨cur, hb, _⟩ := h.ram.row; exact (Array.getElem?_eq_some_iff.1 hb).1
  · exact (h.tlb.row i f.symm).2.1
/-- A block that was made behind the MMU stays. -/
theorem box_step {w V W : World} {base : Nat} {L : Loc} {v : Value} {T T' : Tabs} {ps ps' : List (Int × Int)} {l l' : List Int} {g : Nat} {o : Obj} (h : MmuAt w base L v T ps l) (hg : V.heap[g]? = some o) (hl : g < V.heap.size) (hw : w.heap.size ≤ g) (s : MStep V.drew W base L v T' ps' l') : W.heap[g]? = some o :=
  (s.chg.block g hl (fun f => by have := foot_lt h g f; omega)).trans hg
theorem row_alloc {W : World} {g : Nat} {cs : Array Value} {t : TypeId} (h : W.heap[g]? = some (.cells cs t (0, 0))) (o : Obj) (j : Nat) : (W.alloc o).cell? ⟨g, j, none⟩ = cs[j]? := cell_of_row _ _ j _ _ _ (row_then h (below_alloc (Below.refl _ _) o))
set_option maxRecDepth 100000 in
set_option maxHeartbeats 2000000 in
theorem entry_a1 (w : World) (base : Nat) (L : Loc) (v : Value) (T : Tabs) (ps : List (Int × Int)) (l : List Int) (va x j : Int) (u wr keep : Bool) (h : MmuAt w base L v T ps l) (GT : Aside0 (∀ W, Below w.heap.size w W → Calls Try.prog 84 #[.pointer (some ⟨L.t, 0, none⟩), .int .u32 (va / 512)] W fun e w' => e = .returned (.tuple #[.int .u32 x, .bool true]) ∧ Below W.heap.size W w')) (PM : Aside0 (∀ W, Calls Try.prog 90 #[.int .u32 x, .bool u, .bool wr] W fun e w' => e = .returned (.bool false) ∧ W = w')) (F : Aside0 (∀ W, Calls Try.prog 83 #[.agg #[.int .u32 va, .bool u, .bool wr], .int .i64 2, .int .u32 0] W fun e w' => e = .returned (.agg #[.int .i64 2, .int .u32 va, .int .u32 j]) ∧ Below W.heap.size W w')) :
    Calls Try.prog 80 #[.pointer (some ⟨L.m, 0, none⟩), .agg #[.int .u32 va, .bool u, .bool wr], .bool keep] w fun e w' => e = .returned (.tuple #[.int .u32 0, .agg #[.int .i64 2, .int .u32 va, .int .u32 j]]) ∧ Below w.heap.size w w' := by
  have M := Aside0.mk h
  clear h
  go_enter Try.func80, Try.ntmps80
  go_wp2
  have BX := box2 w (.cells #[.int .u32 va, .bool u, .bool wr] 118 (0, 0)) (.cells #[.int .i64 0, .int .u32 0, .int .u32 0] 47 (0, 0))
  generalize (w.alloc (.cells #[.int .u32 va, .bool u, .bool wr] 118 (0, 0))).alloc (.cells #[.int .i64 0, .int .u32 0, .int .u32 0] 47 (0, 0)) = W at *
  have hS : Aside0 (∀ W', Below W.heap.size W W' → W'.cell? ⟨L.m, 1, none⟩ = some (.pointer (some ⟨L.t, 0, none⟩)) ∧ W'.cell? ⟨w.heap.size, 0, none⟩ = some (.int .u32 va)) := ⟨fun W' hW => ⟨(M.out.then (below_step BX.1 hW)).cell 1, cell_of_row _ _ 0 _ _ _ (row_then BX.2.1 hW)⟩⟩
  have BX := Aside0.mk BX
  have hS0 := hS.out W (Below.refl _ _)
  go_region_held3 (fun W' => W'.cell? ⟨L.m, 1, none⟩ = some (.pointer (some ⟨L.t, 0, none⟩)) ∧ W'.cell? ⟨w.heap.size, 0, none⟩ = some (.int .u32 va))
    (first | exact hS.out _ (by assumption) | exact hS.out _ ((Below.refl _ _).drew))
    (first
    | (go_at_call 84; (with_reducible refine (GT.out _ (below_step BX.out.1 (Below.refl _ _).drew)).mono ?_); rintro e w1 ⟨rfl, hb⟩; have hb1 : Below W.heap.size W w1 := below_step ((Below.refl _ _).drew) hb))
  have BB := Aside0.mk (below_step BX.out.1 hb1)
  have Z := Aside0.mk (row_then BX.out.2.2 hb1)
  have A := Aside0.mk (row_then BX.out.2.1 hb1)
  have d0 : w1.cell? ⟨w.heap.size, 0, none⟩ = some (.int .u32 va) := cell_of_row _ _ 0 _ _ _ A.out
  have d1 : w1.cell? ⟨w.heap.size, 1, none⟩ = some (.bool u) := cell_of_row _ _ 1 _ _ _ A.out
  have d2 : w1.cell? ⟨w.heap.size, 2, none⟩ = some (.bool wr) := cell_of_row _ _ 2 _ _ _ A.out
  go_wp2_with (first
    | (go_at_call 90; (with_reducible refine (PM.out _).mono ?_); rintro e w4 ⟨rfl, rfl⟩)
    | (go_at_call 83; (with_reducible refine (F.out _).mono ?_); rintro e w6 ⟨rfl, hb⟩; have Z6 := Aside0.mk (row_then Z.out hb); have B6 := Aside0.mk (below_step BB.out hb); clear hb)
    | (refine wpList_store_row rfl 47 (.tmp 7) (.tmp 58) rfl (w.heap.size + 1) #[.int .i64 2, .int .u32 va, .int .u32 j] rfl rfl _ _ Z6.out infoF rfl (by kernel_rfl) ?_))
  refine bodyPost_ret (results_tc rfl _ _ (w.heap.size + 1) 47 #[.int .i64 2, .int .u32 va, .int .u32 j] (0, 0) _ rfl (setRow_heap _ _ _ _ 47 _ Z6.out) Try.underlying47 rfl infoF) rfl ⟨rfl, below_setRow B6.out (by omega) _⟩
set_option maxRecDepth 100000 in
set_option maxHeartbeats 2000000 in
theorem entry_a2 (w : World) (base : Nat) (L : Loc) (v : Value) (T : Tabs) (ps : List (Int × Int)) (l : List Int) (va x j : Int) (u wr keep : Bool) (h : MmuAt w base L v T ps l) (GT : Aside0 (∀ W, Below w.heap.size w W → Calls Try.prog 84 #[.pointer (some ⟨L.t, 0, none⟩), .int .u32 (va / 512)] W fun e w' => e = .returned (.tuple #[.int .u32 x, .bool true]) ∧ Below W.heap.size W w')) (PM : Aside0 (∀ W, Calls Try.prog 90 #[.int .u32 x, .bool u, .bool wr] W fun e w' => e = .returned (.bool true) ∧ W = w')) (PI : Aside0 (∀ W, Calls Try.prog 91 #[.int .u32 x] W fun e w' => e = .returned (.bool false) ∧ W = w')) (F : Aside0 (∀ W, Calls Try.prog 83 #[.agg #[.int .u32 va, .bool u, .bool wr], .int .i64 3, .int .u32 0] W fun e w' => e = .returned (.agg #[.int .i64 3, .int .u32 va, .int .u32 j]) ∧ Below W.heap.size W w')) :
    Calls Try.prog 80 #[.pointer (some ⟨L.m, 0, none⟩), .agg #[.int .u32 va, .bool u, .bool wr], .bool keep] w fun e w' => e = .returned (.tuple #[.int .u32 0, .agg #[.int .i64 3, .int .u32 va, .int .u32 j]]) ∧ Below w.heap.size w w' := by
  have M := Aside0.mk h
  clear h
  go_enter Try.func80, Try.ntmps80
  go_wp2
  have BX := box2 w (.cells #[.int .u32 va, .bool u, .bool wr] 118 (0, 0)) (.cells #[.int .i64 0, .int .u32 0, .int .u32 0] 47 (0, 0))
  generalize (w.alloc (.cells #[.int .u32 va, .bool u, .bool wr] 118 (0, 0))).alloc (.cells #[.int .i64 0, .int .u32 0, .int .u32 0] 47 (0, 0)) = W at *
  have hS : Aside0 (∀ W', Below W.heap.size W W' → W'.cell? ⟨L.m, 1, none⟩ = some (.pointer (some ⟨L.t, 0, none⟩)) ∧ W'.cell? ⟨w.heap.size, 0, none⟩ = some (.int .u32 va)) := ⟨fun W' hW => ⟨(M.out.then (below_step BX.1 hW)).cell 1, cell_of_row _ _ 0 _ _ _ (row_then BX.2.1 hW)⟩⟩
  have BX := Aside0.mk BX
  have hS0 := hS.out W (Below.refl _ _)
  go_region_held3 (fun W' => W'.cell? ⟨L.m, 1, none⟩ = some (.pointer (some ⟨L.t, 0, none⟩)) ∧ W'.cell? ⟨w.heap.size, 0, none⟩ = some (.int .u32 va))
    (first | exact hS.out _ (by assumption) | exact hS.out _ ((Below.refl _ _).drew))
    (first
    | (go_at_call 84; (with_reducible refine (GT.out _ (below_step BX.out.1 (Below.refl _ _).drew)).mono ?_); rintro e w1 ⟨rfl, hb⟩; have hb1 : Below W.heap.size W w1 := below_step ((Below.refl _ _).drew) hb))
  have BB := Aside0.mk (below_step BX.out.1 hb1)
  have Z := Aside0.mk (row_then BX.out.2.2 hb1)
  have A := Aside0.mk (row_then BX.out.2.1 hb1)
  have d0 : w1.cell? ⟨w.heap.size, 0, none⟩ = some (.int .u32 va) := cell_of_row _ _ 0 _ _ _ A.out
  have d1 : w1.cell? ⟨w.heap.size, 1, none⟩ = some (.bool u) := cell_of_row _ _ 1 _ _ _ A.out
  have d2 : w1.cell? ⟨w.heap.size, 2, none⟩ = some (.bool wr) := cell_of_row _ _ 2 _ _ _ A.out
  go_wp2_with (first
    | (go_at_call 90; (with_reducible refine (PM.out _).mono ?_); rintro e w4 ⟨rfl, rfl⟩)
    | (go_at_call 91; (with_reducible refine (PI.out _).mono ?_); rintro e w5 ⟨rfl, rfl⟩)
    | (go_at_call 83; (with_reducible refine (F.out _).mono ?_); rintro e w6 ⟨rfl, hb⟩; have Z6 := Aside0.mk (row_then Z.out hb); have B6 := Aside0.mk (below_step BB.out hb); clear hb)
    | (refine wpList_store_row rfl 47 (.tmp 7) (.tmp 64) rfl (w.heap.size + 1) #[.int .i64 3, .int .u32 va, .int .u32 j] rfl rfl _ _ Z6.out infoF rfl (by kernel_rfl) ?_))
  refine bodyPost_ret (results_tc rfl _ _ (w.heap.size + 1) 47 #[.int .i64 3, .int .u32 va, .int .u32 j] (0, 0) _ rfl (setRow_heap _ _ _ _ 47 _ Z6.out) Try.underlying47 rfl infoF) rfl ⟨rfl, below_setRow B6.out (by omega) _⟩
set_option maxRecDepth 100000 in
set_option maxHeartbeats 2000000 in
theorem entry_a3 (w : World) (base : Nat) (L : Loc) (v : Value) (T : Tabs) (ps : List (Int × Int)) (l : List Int) (va x j : Int) (u wr keep : Bool) (h : MmuAt w base L v T ps l) (GT : Aside0 (∀ W, Below w.heap.size w W → Calls Try.prog 84 #[.pointer (some ⟨L.t, 0, none⟩), .int .u32 (va / 512)] W fun e w' => e = .returned (.tuple #[.int .u32 x, .bool true]) ∧ Below W.heap.size W w')) (PM : Aside0 (∀ W, Calls Try.prog 90 #[.int .u32 x, .bool u, .bool wr] W fun e w' => e = .returned (.bool true) ∧ W = w')) (PI : Aside0 (∀ W, Calls Try.prog 91 #[.int .u32 x] W fun e w' => e = .returned (.bool true) ∧ W = w')) :
    Calls Try.prog 80 #[.pointer (some ⟨L.m, 0, none⟩), .agg #[.int .u32 va, .bool u, .bool wr], .bool keep] w fun e w' => e = .returned (.tuple #[.int .u32 x, .agg #[.int .i64 0, .int .u32 0, .int .u32 0]]) ∧ Below w.heap.size w w' := by
  have M := Aside0.mk h
  clear h
  go_enter Try.func80, Try.ntmps80
  go_wp2
  have BX := box2 w (.cells #[.int .u32 va, .bool u, .bool wr] 118 (0, 0)) (.cells #[.int .i64 0, .int .u32 0, .int .u32 0] 47 (0, 0))
  generalize (w.alloc (.cells #[.int .u32 va, .bool u, .bool wr] 118 (0, 0))).alloc (.cells #[.int .i64 0, .int .u32 0, .int .u32 0] 47 (0, 0)) = W at *
  have hS : Aside0 (∀ W', Below W.heap.size W W' → W'.cell? ⟨L.m, 1, none⟩ = some (.pointer (some ⟨L.t, 0, none⟩)) ∧ W'.cell? ⟨w.heap.size, 0, none⟩ = some (.int .u32 va)) := ⟨fun W' hW => ⟨(M.out.then (below_step BX.1 hW)).cell 1, cell_of_row _ _ 0 _ _ _ (row_then BX.2.1 hW)⟩⟩
  have BX := Aside0.mk BX
  have hS0 := hS.out W (Below.refl _ _)
  go_region_held3 (fun W' => W'.cell? ⟨L.m, 1, none⟩ = some (.pointer (some ⟨L.t, 0, none⟩)) ∧ W'.cell? ⟨w.heap.size, 0, none⟩ = some (.int .u32 va))
    (first | exact hS.out _ (by assumption) | exact hS.out _ ((Below.refl _ _).drew))
    (first
    | (go_at_call 84; (with_reducible refine (GT.out _ (below_step BX.out.1 (Below.refl _ _).drew)).mono ?_); rintro e w1 ⟨rfl, hb⟩; have hb1 : Below W.heap.size W w1 := below_step ((Below.refl _ _).drew) hb))
  have BB := Aside0.mk (below_step BX.out.1 hb1)
  have Z := Aside0.mk (row_then BX.out.2.2 hb1)
  have A := Aside0.mk (row_then BX.out.2.1 hb1)
  have d0 : w1.cell? ⟨w.heap.size, 0, none⟩ = some (.int .u32 va) := cell_of_row _ _ 0 _ _ _ A.out
  have d1 : w1.cell? ⟨w.heap.size, 1, none⟩ = some (.bool u) := cell_of_row _ _ 1 _ _ _ A.out
  have d2 : w1.cell? ⟨w.heap.size, 2, none⟩ = some (.bool wr) := cell_of_row _ _ 2 _ _ _ A.out
  go_wp2_with (first
    | (go_at_call 90; (with_reducible refine (PM.out _).mono ?_); rintro e w4 ⟨rfl, rfl⟩)
    | (go_at_call 91; (with_reducible refine (PI.out _).mono ?_); rintro e w5 ⟨rfl, rfl⟩)
    | (refine wpList_store_row rfl 47 (.tmp 7) (.tmp 80) rfl (w.heap.size + 1) #[.int .i64 0, .int .u32 0, .int .u32 0] rfl rfl _ _ Z.out infoF rfl (by kernel_rfl) ?_))
  refine bodyPost_ret (results_tc rfl _ _ (w.heap.size + 1) 47 #[.int .i64 0, .int .u32 0, .int .u32 0] (0, 0) _ rfl (setRow_heap _ _ _ _ 47 _ Z.out) Try.underlying47 rfl infoF) rfl ⟨rfl, below_setRow BB.out (by omega) _⟩
set_option maxRecDepth 100000 in
set_option maxHeartbeats 2000000 in
theorem entry_b0 (w : World) (base : Nat) (L : Loc) (v : Value) (T : Tabs) (ps : List (Int × Int)) (l : List Int) (va x j : Int) (u wr keep : Bool) (h : MmuAt w base L v T ps l) (at_ y : Int) (GT : Aside0 (∀ W, Below w.heap.size w W → Calls Try.prog 84 #[.pointer (some ⟨L.t, 0, none⟩), .int .u32 (va / 512)] W fun e w' => e = .returned (.tuple #[.int .u32 x, .bool false]) ∧ Below W.heap.size W w')) (PL : Aside0 (∀ W, Below w.heap.size w W → Calls Try.prog 87 #[.pointer (some ⟨L.m, 0, none⟩), .agg #[.int .u32 va, .bool u, .bool wr]] W fun e w' => e = .returned (.tuple #[.int .u32 0, .agg #[.int .i64 2, .int .u32 va, .int .u32 j]]) ∧ Below W.heap.size W w')) :
    Calls Try.prog 80 #[.pointer (some ⟨L.m, 0, none⟩), .agg #[.int .u32 va, .bool u, .bool wr], .bool keep] w fun e w' => e = .returned (.tuple #[.int .u32 0, .agg #[.int .i64 2, .int .u32 va, .int .u32 j]]) ∧ Below w.heap.size w w' := by
  have M := Aside0.mk h
  clear h
  go_enter Try.func80, Try.ntmps80
  go_wp2
  have BX := box2 w (.cells #[.int .u32 va, .bool u, .bool wr] 118 (0, 0)) (.cells #[.int .i64 0, .int .u32 0, .int .u32 0] 47 (0, 0))
  generalize (w.alloc (.cells #[.int .u32 va, .bool u, .bool wr] 118 (0, 0))).alloc (.cells #[.int .i64 0, .int .u32 0, .int .u32 0] 47 (0, 0)) = W at *
  have hS : Aside0 (∀ W', Below W.heap.size W W' → W'.cell? ⟨L.m, 1, none⟩ = some (.pointer (some ⟨L.t, 0, none⟩)) ∧ W'.cell? ⟨w.heap.size, 0, none⟩ = some (.int .u32 va)) := ⟨fun W' hW => ⟨(M.out.then (below_step BX.1 hW)).cell 1, cell_of_row _ _ 0 _ _ _ (row_then BX.2.1 hW)⟩⟩
  have BX := Aside0.mk BX
  have hS0 := hS.out W (Below.refl _ _)
  go_region_held3 (fun W' => W'.cell? ⟨L.m, 1, none⟩ = some (.pointer (some ⟨L.t, 0, none⟩)) ∧ W'.cell? ⟨w.heap.size, 0, none⟩ = some (.int .u32 va))
    (first | exact hS.out _ (by assumption) | exact hS.out _ ((Below.refl _ _).drew))
    (first
    | (go_at_call 84; (with_reducible refine (GT.out _ (below_step BX.out.1 (Below.refl _ _).drew)).mono ?_); rintro e w1 ⟨rfl, hb⟩; have hb1 : Below W.heap.size W w1 := below_step ((Below.refl _ _).drew) hb))
  have BB := Aside0.mk (below_step BX.out.1 hb1)
  have Z := Aside0.mk (row_then BX.out.2.2 hb1)
  have A := Aside0.mk (row_then BX.out.2.1 hb1)
  have d0 : w1.cell? ⟨w.heap.size, 0, none⟩ = some (.int .u32 va) := cell_of_row _ _ 0 _ _ _ A.out
  have d1 : w1.cell? ⟨w.heap.size, 1, none⟩ = some (.bool u) := cell_of_row _ _ 1 _ _ _ A.out
  have d2 : w1.cell? ⟨w.heap.size, 2, none⟩ = some (.bool wr) := cell_of_row _ _ 2 _ _ _ A.out
  go_wp2_with (first
    | (go_at_call 87; (with_reducible refine (PL.out _ BB.out).mono ?_); rintro e w2 ⟨rfl, hb⟩; have A := Aside0.mk (row_then A.out hb); have Z := Aside0.mk (row_then Z.out hb); have BB := Aside0.mk (below_step BB.out hb); have m0 := fun o => (m_cell_alloc M.out BB.out o 0); have m1 := fun o => (m_cell_alloc M.out BB.out o 1); have r0 := fun o => row_alloc A.out o 0; have r1 := fun o => row_alloc A.out o 1; have r2 := fun o => row_alloc A.out o 2; simp only [mmuCells, List.getElem?_toArray, List.getElem?_cons_zero, List.getElem?_cons_succ] at m0 m1 r0 r1 r2; clear hb))
  have Y := heap_alloc_new w2 (.cells #[.int .i64 2, .int .u32 va, .int .u32 j] 47 (0, 0))
  have Zn := row_then Z.out (below_alloc (Below.refl _ _) (.cells #[.int .i64 2, .int .u32 va, .int .u32 j] 47 (0, 0)))
  have Bn := below_alloc BB.out (.cells #[.int .i64 2, .int .u32 va, .int .u32 j] 47 (0, 0))
  generalize w2.alloc (.cells #[.int .i64 2, .int .u32 va, .int .u32 j] 47 (0, 0)) = V at *
  have y0 := cell_of_row _ _ 0 _ _ _ Y
  have y1 := cell_of_row _ _ 1 _ _ _ Y
  have y2 := cell_of_row _ _ 2 _ _ _ Y
  have z0 := cell_of_row _ _ 0 _ _ _ Zn
  have z1 := cell_of_row _ _ 1 _ _ _ Zn
  have z2 := cell_of_row _ _ 2 _ _ _ Zn
  have g0 := frozen_of_row _ _ 0 _ _ Zn
  have g1 := frozen_of_row _ _ 1 _ _ Zn
  have g2 := frozen_of_row _ _ 2 _ _ Zn
  simp only [List.getElem?_toArray, List.getElem?_cons_zero, List.getElem?_cons_succ] at y0 y1 y2 z0 z1 z2
  have hne : ¬ w2.heap.size = w.heap.size + 1 := by have := (Array.getElem?_eq_some_iff.1 Z.out).1; omega
  have Y := Aside0.mk Y
  have Zn := Aside0.mk Zn
  have Bn := Aside0.mk Bn
  go_region
  go_wp2
  refine bodyPost_ret (results_tc rfl _ _ (w.heap.size + 1) 47 #[.int .i64 2, .int .u32 va, .int .u32 j] (0, 0) _ rfl (flt3_put Zn.out _ _ _) Try.underlying47 rfl infoF) rfl ⟨rfl, flt3_below Bn.out (by omega) _ _ _⟩
set_option maxRecDepth 100000 in
set_option maxHeartbeats 2000000 in
theorem entry_b1 (w : World) (base : Nat) (L : Loc) (v : Value) (T : Tabs) (ps : List (Int × Int)) (l : List Int) (va x j : Int) (u wr keep : Bool) (h : MmuAt w base L v T ps l) (at_ y : Int) (GT : Aside0 (∀ W, Below w.heap.size w W → Calls Try.prog 84 #[.pointer (some ⟨L.t, 0, none⟩), .int .u32 (va / 512)] W fun e w' => e = .returned (.tuple #[.int .u32 x, .bool false]) ∧ Below W.heap.size W w')) (PL : Aside0 (∀ W, Below w.heap.size w W → Calls Try.prog 87 #[.pointer (some ⟨L.m, 0, none⟩), .agg #[.int .u32 va, .bool u, .bool wr]] W fun e w' => e = .returned (.tuple #[.int .u32 at_, .agg #[.int .i64 0, .int .u32 0, .int .u32 0]]) ∧ Below W.heap.size W w')) (RG : Aside0 (∀ W, Below w.heap.size w W → Calls Try.prog 41 #[.pointer (some ⟨L.r, 0, none⟩), .int .u32 at_, .int .i64 4] W fun e w' => e = .returned (.tuple #[.int .u32 0, .int .i64 6]) ∧ W = w')) (F : Aside0 (∀ W, Calls Try.prog 83 #[.agg #[.int .u32 va, .bool u, .bool wr], .int .i64 1, .int .u32 0] W fun e w' => e = .returned (.agg #[.int .i64 1, .int .u32 va, .int .u32 j]) ∧ Below W.heap.size W w')) :
    Calls Try.prog 80 #[.pointer (some ⟨L.m, 0, none⟩), .agg #[.int .u32 va, .bool u, .bool wr], .bool keep] w fun e w' => e = .returned (.tuple #[.int .u32 0, .agg #[.int .i64 1, .int .u32 va, .int .u32 j]]) ∧ Below w.heap.size w w' := by
  have M := Aside0.mk h
  clear h
  go_enter Try.func80, Try.ntmps80
  go_wp2
  have BX := box2 w (.cells #[.int .u32 va, .bool u, .bool wr] 118 (0, 0)) (.cells #[.int .i64 0, .int .u32 0, .int .u32 0] 47 (0, 0))
  generalize (w.alloc (.cells #[.int .u32 va, .bool u, .bool wr] 118 (0, 0))).alloc (.cells #[.int .i64 0, .int .u32 0, .int .u32 0] 47 (0, 0)) = W at *
  have hS : Aside0 (∀ W', Below W.heap.size W W' → W'.cell? ⟨L.m, 1, none⟩ = some (.pointer (some ⟨L.t, 0, none⟩)) ∧ W'.cell? ⟨w.heap.size, 0, none⟩ = some (.int .u32 va)) := ⟨fun W' hW => ⟨(M.out.then (below_step BX.1 hW)).cell 1, cell_of_row _ _ 0 _ _ _ (row_then BX.2.1 hW)⟩⟩
  have BX := Aside0.mk BX
  have hS0 := hS.out W (Below.refl _ _)
  go_region_held3 (fun W' => W'.cell? ⟨L.m, 1, none⟩ = some (.pointer (some ⟨L.t, 0, none⟩)) ∧ W'.cell? ⟨w.heap.size, 0, none⟩ = some (.int .u32 va))
    (first | exact hS.out _ (by assumption) | exact hS.out _ ((Below.refl _ _).drew))
    (first
    | (go_at_call 84; (with_reducible refine (GT.out _ (below_step BX.out.1 (Below.refl _ _).drew)).mono ?_); rintro e w1 ⟨rfl, hb⟩; have hb1 : Below W.heap.size W w1 := below_step ((Below.refl _ _).drew) hb))
  have BB := Aside0.mk (below_step BX.out.1 hb1)
  have Z := Aside0.mk (row_then BX.out.2.2 hb1)
  have A := Aside0.mk (row_then BX.out.2.1 hb1)
  have d0 : w1.cell? ⟨w.heap.size, 0, none⟩ = some (.int .u32 va) := cell_of_row _ _ 0 _ _ _ A.out
  have d1 : w1.cell? ⟨w.heap.size, 1, none⟩ = some (.bool u) := cell_of_row _ _ 1 _ _ _ A.out
  have d2 : w1.cell? ⟨w.heap.size, 2, none⟩ = some (.bool wr) := cell_of_row _ _ 2 _ _ _ A.out
  go_wp2_with (first
    | (go_at_call 87; (with_reducible refine (PL.out _ BB.out).mono ?_); rintro e w2 ⟨rfl, hb⟩; have A := Aside0.mk (row_then A.out hb); have Z := Aside0.mk (row_then Z.out hb); have BB := Aside0.mk (below_step BB.out hb); have m0 := fun o => (m_cell_alloc M.out BB.out o 0); have m1 := fun o => (m_cell_alloc M.out BB.out o 1); have r0 := fun o => row_alloc A.out o 0; have r1 := fun o => row_alloc A.out o 1; have r2 := fun o => row_alloc A.out o 2; simp only [mmuCells, List.getElem?_toArray, List.getElem?_cons_zero, List.getElem?_cons_succ] at m0 m1 r0 r1 r2; clear hb)
    | (go_at_call 41; (with_reducible refine (RG.out _ (below_alloc BB.out _)).mono ?_); rintro e w3 ⟨rfl, rfl⟩)
    | (go_at_call 83; (with_reducible refine (F.out _).mono ?_); rintro e w6 ⟨rfl, hb⟩; have Z6 := Aside0.mk (row_then Z.out (below_step (below_alloc (Below.refl _ _) _) hb)); have B6 := Aside0.mk (below_step (below_alloc BB.out _) hb); clear hb)
    | (refine wpList_store_row rfl 47 (.tmp 7) (.tmp 48) rfl (w.heap.size + 1) #[.int .i64 1, .int .u32 va, .int .u32 j] rfl rfl _ _ Z6.out infoF rfl (by kernel_rfl) ?_))
  refine bodyPost_ret (results_tc rfl _ _ (w.heap.size + 1) 47 #[.int .i64 1, .int .u32 va, .int .u32 j] (0, 0) _ rfl (setRow_heap _ _ _ _ 47 _ Z6.out) Try.underlying47 rfl infoF) rfl ⟨rfl, below_setRow B6.out (by omega) _⟩
set_option maxRecDepth 100000 in
set_option maxHeartbeats 2000000 in
theorem entry_b2 (w : World) (base : Nat) (L : Loc) (v : Value) (T : Tabs) (ps : List (Int × Int)) (l : List Int) (va x j : Int) (u wr keep : Bool) (h : MmuAt w base L v T ps l) (at_ y : Int) (GT : Aside0 (∀ W, Below w.heap.size w W → Calls Try.prog 84 #[.pointer (some ⟨L.t, 0, none⟩), .int .u32 (va / 512)] W fun e w' => e = .returned (.tuple #[.int .u32 y, .bool false]) ∧ Below W.heap.size W w')) (PL : Aside0 (∀ W, Below w.heap.size w W → Calls Try.prog 87 #[.pointer (some ⟨L.m, 0, none⟩), .agg #[.int .u32 va, .bool u, .bool wr]] W fun e w' => e = .returned (.tuple #[.int .u32 at_, .agg #[.int .i64 0, .int .u32 0, .int .u32 0]]) ∧ Below W.heap.size W w')) (RG : Aside0 (∀ W, Below w.heap.size w W → Calls Try.prog 41 #[.pointer (some ⟨L.r, 0, none⟩), .int .u32 at_, .int .i64 4] W fun e w' => e = .returned (.tuple #[.int .u32 x, .int .i64 0]) ∧ W = w')) (PM : Aside0 (∀ W, Calls Try.prog 90 #[.int .u32 x, .bool u, .bool wr] W fun e w' => e = .returned (.bool false) ∧ W = w')) (F : Aside0 (∀ W, Calls Try.prog 83 #[.agg #[.int .u32 va, .bool u, .bool wr], .int .i64 2, .int .u32 0] W fun e w' => e = .returned (.agg #[.int .i64 2, .int .u32 va, .int .u32 j]) ∧ Below W.heap.size W w')) :
    Calls Try.prog 80 #[.pointer (some ⟨L.m, 0, none⟩), .agg #[.int .u32 va, .bool u, .bool wr], .bool keep] w fun e w' => e = .returned (.tuple #[.int .u32 0, .agg #[.int .i64 2, .int .u32 va, .int .u32 j]]) ∧ Below w.heap.size w w' := by
  have M := Aside0.mk h
  clear h
  go_enter Try.func80, Try.ntmps80
  go_wp2
  have BX := box2 w (.cells #[.int .u32 va, .bool u, .bool wr] 118 (0, 0)) (.cells #[.int .i64 0, .int .u32 0, .int .u32 0] 47 (0, 0))
  generalize (w.alloc (.cells #[.int .u32 va, .bool u, .bool wr] 118 (0, 0))).alloc (.cells #[.int .i64 0, .int .u32 0, .int .u32 0] 47 (0, 0)) = W at *
  have hS : Aside0 (∀ W', Below W.heap.size W W' → W'.cell? ⟨L.m, 1, none⟩ = some (.pointer (some ⟨L.t, 0, none⟩)) ∧ W'.cell? ⟨w.heap.size, 0, none⟩ = some (.int .u32 va)) := ⟨fun W' hW => ⟨(M.out.then (below_step BX.1 hW)).cell 1, cell_of_row _ _ 0 _ _ _ (row_then BX.2.1 hW)⟩⟩
  have BX := Aside0.mk BX
  have hS0 := hS.out W (Below.refl _ _)
  go_region_held3 (fun W' => W'.cell? ⟨L.m, 1, none⟩ = some (.pointer (some ⟨L.t, 0, none⟩)) ∧ W'.cell? ⟨w.heap.size, 0, none⟩ = some (.int .u32 va))
    (first | exact hS.out _ (by assumption) | exact hS.out _ ((Below.refl _ _).drew))
    (first
    | (go_at_call 84; (with_reducible refine (GT.out _ (below_step BX.out.1 (Below.refl _ _).drew)).mono ?_); rintro e w1 ⟨rfl, hb⟩; have hb1 : Below W.heap.size W w1 := below_step ((Below.refl _ _).drew) hb))
  have BB := Aside0.mk (below_step BX.out.1 hb1)
  have Z := Aside0.mk (row_then BX.out.2.2 hb1)
  have A := Aside0.mk (row_then BX.out.2.1 hb1)
  have d0 : w1.cell? ⟨w.heap.size, 0, none⟩ = some (.int .u32 va) := cell_of_row _ _ 0 _ _ _ A.out
  have d1 : w1.cell? ⟨w.heap.size, 1, none⟩ = some (.bool u) := cell_of_row _ _ 1 _ _ _ A.out
  have d2 : w1.cell? ⟨w.heap.size, 2, none⟩ = some (.bool wr) := cell_of_row _ _ 2 _ _ _ A.out
  go_wp2_with (first
    | (go_at_call 87; (with_reducible refine (PL.out _ BB.out).mono ?_); rintro e w2 ⟨rfl, hb⟩; have A := Aside0.mk (row_then A.out hb); have Z := Aside0.mk (row_then Z.out hb); have BB := Aside0.mk (below_step BB.out hb); have m0 := fun o => (m_cell_alloc M.out BB.out o 0); have m1 := fun o => (m_cell_alloc M.out BB.out o 1); have r0 := fun o => row_alloc A.out o 0; have r1 := fun o => row_alloc A.out o 1; have r2 := fun o => row_alloc A.out o 2; simp only [mmuCells, List.getElem?_toArray, List.getElem?_cons_zero, List.getElem?_cons_succ] at m0 m1 r0 r1 r2; clear hb)
    | (go_at_call 41; (with_reducible refine (RG.out _ (below_alloc BB.out _)).mono ?_); rintro e w3 ⟨rfl, rfl⟩)
    | (go_at_call 90; (with_reducible refine (PM.out _).mono ?_); rintro e w4 ⟨rfl, rfl⟩)
    | (go_at_call 83; (with_reducible refine (F.out _).mono ?_); rintro e w6 ⟨rfl, hb⟩; have Z6 := Aside0.mk (row_then Z.out (below_step (below_alloc (Below.refl _ _) _) hb)); have B6 := Aside0.mk (below_step (below_alloc BB.out _) hb); clear hb)
    | (refine wpList_store_row rfl 47 (.tmp 7) (.tmp 58) rfl (w.heap.size + 1) #[.int .i64 2, .int .u32 va, .int .u32 j] rfl rfl _ _ Z6.out infoF rfl (by kernel_rfl) ?_))
  refine bodyPost_ret (results_tc rfl _ _ (w.heap.size + 1) 47 #[.int .i64 2, .int .u32 va, .int .u32 j] (0, 0) _ rfl (setRow_heap _ _ _ _ 47 _ Z6.out) Try.underlying47 rfl infoF) rfl ⟨rfl, below_setRow B6.out (by omega) _⟩
set_option maxRecDepth 100000 in
set_option maxHeartbeats 2000000 in
theorem entry_b3 (w : World) (base : Nat) (L : Loc) (v : Value) (T : Tabs) (ps : List (Int × Int)) (l : List Int) (va x j : Int) (u wr keep : Bool) (h : MmuAt w base L v T ps l) (at_ y : Int) (GT : Aside0 (∀ W, Below w.heap.size w W → Calls Try.prog 84 #[.pointer (some ⟨L.t, 0, none⟩), .int .u32 (va / 512)] W fun e w' => e = .returned (.tuple #[.int .u32 y, .bool false]) ∧ Below W.heap.size W w')) (PL : Aside0 (∀ W, Below w.heap.size w W → Calls Try.prog 87 #[.pointer (some ⟨L.m, 0, none⟩), .agg #[.int .u32 va, .bool u, .bool wr]] W fun e w' => e = .returned (.tuple #[.int .u32 at_, .agg #[.int .i64 0, .int .u32 0, .int .u32 0]]) ∧ Below W.heap.size W w')) (RG : Aside0 (∀ W, Below w.heap.size w W → Calls Try.prog 41 #[.pointer (some ⟨L.r, 0, none⟩), .int .u32 at_, .int .i64 4] W fun e w' => e = .returned (.tuple #[.int .u32 x, .int .i64 0]) ∧ W = w')) (PM : Aside0 (∀ W, Calls Try.prog 90 #[.int .u32 x, .bool u, .bool wr] W fun e w' => e = .returned (.bool true) ∧ W = w')) (PI : Aside0 (∀ W, Calls Try.prog 91 #[.int .u32 x] W fun e w' => e = .returned (.bool false) ∧ W = w')) (F : Aside0 (∀ W, Calls Try.prog 83 #[.agg #[.int .u32 va, .bool u, .bool wr], .int .i64 3, .int .u32 0] W fun e w' => e = .returned (.agg #[.int .i64 3, .int .u32 va, .int .u32 j]) ∧ Below W.heap.size W w')) :
    Calls Try.prog 80 #[.pointer (some ⟨L.m, 0, none⟩), .agg #[.int .u32 va, .bool u, .bool wr], .bool keep] w fun e w' => e = .returned (.tuple #[.int .u32 0, .agg #[.int .i64 3, .int .u32 va, .int .u32 j]]) ∧ Below w.heap.size w w' := by
  have M := Aside0.mk h
  clear h
  go_enter Try.func80, Try.ntmps80
  go_wp2
  have BX := box2 w (.cells #[.int .u32 va, .bool u, .bool wr] 118 (0, 0)) (.cells #[.int .i64 0, .int .u32 0, .int .u32 0] 47 (0, 0))
  generalize (w.alloc (.cells #[.int .u32 va, .bool u, .bool wr] 118 (0, 0))).alloc (.cells #[.int .i64 0, .int .u32 0, .int .u32 0] 47 (0, 0)) = W at *
  have hS : Aside0 (∀ W', Below W.heap.size W W' → W'.cell? ⟨L.m, 1, none⟩ = some (.pointer (some ⟨L.t, 0, none⟩)) ∧ W'.cell? ⟨w.heap.size, 0, none⟩ = some (.int .u32 va)) := ⟨fun W' hW => ⟨(M.out.then (below_step BX.1 hW)).cell 1, cell_of_row _ _ 0 _ _ _ (row_then BX.2.1 hW)⟩⟩
  have BX := Aside0.mk BX
  have hS0 := hS.out W (Below.refl _ _)
  go_region_held3 (fun W' => W'.cell? ⟨L.m, 1, none⟩ = some (.pointer (some ⟨L.t, 0, none⟩)) ∧ W'.cell? ⟨w.heap.size, 0, none⟩ = some (.int .u32 va))
    (first | exact hS.out _ (by assumption) | exact hS.out _ ((Below.refl _ _).drew))
    (first
    | (go_at_call 84; (with_reducible refine (GT.out _ (below_step BX.out.1 (Below.refl _ _).drew)).mono ?_); rintro e w1 ⟨rfl, hb⟩; have hb1 : Below W.heap.size W w1 := below_step ((Below.refl _ _).drew) hb))
  have BB := Aside0.mk (below_step BX.out.1 hb1)
  have Z := Aside0.mk (row_then BX.out.2.2 hb1)
  have A := Aside0.mk (row_then BX.out.2.1 hb1)
  have d0 : w1.cell? ⟨w.heap.size, 0, none⟩ = some (.int .u32 va) := cell_of_row _ _ 0 _ _ _ A.out
  have d1 : w1.cell? ⟨w.heap.size, 1, none⟩ = some (.bool u) := cell_of_row _ _ 1 _ _ _ A.out
  have d2 : w1.cell? ⟨w.heap.size, 2, none⟩ = some (.bool wr) := cell_of_row _ _ 2 _ _ _ A.out
  go_wp2_with (first
    | (go_at_call 87; (with_reducible refine (PL.out _ BB.out).mono ?_); rintro e w2 ⟨rfl, hb⟩; have A := Aside0.mk (row_then A.out hb); have Z := Aside0.mk (row_then Z.out hb); have BB := Aside0.mk (below_step BB.out hb); have m0 := fun o => (m_cell_alloc M.out BB.out o 0); have m1 := fun o => (m_cell_alloc M.out BB.out o 1); have r0 := fun o => row_alloc A.out o 0; have r1 := fun o => row_alloc A.out o 1; have r2 := fun o => row_alloc A.out o 2; simp only [mmuCells, List.getElem?_toArray, List.getElem?_cons_zero, List.getElem?_cons_succ] at m0 m1 r0 r1 r2; clear hb)
    | (go_at_call 41; (with_reducible refine (RG.out _ (below_alloc BB.out _)).mono ?_); rintro e w3 ⟨rfl, rfl⟩)
    | (go_at_call 90; (with_reducible refine (PM.out _).mono ?_); rintro e w4 ⟨rfl, rfl⟩)
    | (go_at_call 91; (with_reducible refine (PI.out _).mono ?_); rintro e w5 ⟨rfl, rfl⟩)
    | (go_at_call 83; (with_reducible refine (F.out _).mono ?_); rintro e w6 ⟨rfl, hb⟩; have Z6 := Aside0.mk (row_then Z.out (below_step (below_alloc (Below.refl _ _) _) hb)); have B6 := Aside0.mk (below_step (below_alloc BB.out _) hb); clear hb)
    | (refine wpList_store_row rfl 47 (.tmp 7) (.tmp 64) rfl (w.heap.size + 1) #[.int .i64 3, .int .u32 va, .int .u32 j] rfl rfl _ _ Z6.out infoF rfl (by kernel_rfl) ?_))
  refine bodyPost_ret (results_tc rfl _ _ (w.heap.size + 1) 47 #[.int .i64 3, .int .u32 va, .int .u32 j] (0, 0) _ rfl (setRow_heap _ _ _ _ 47 _ Z6.out) Try.underlying47 rfl infoF) rfl ⟨rfl, below_setRow B6.out (by omega) _⟩
set_option maxRecDepth 100000 in
set_option maxHeartbeats 2000000 in
theorem entry_b4 (w : World) (base : Nat) (L : Loc) (v : Value) (T : Tabs) (ps : List (Int × Int)) (l : List Int) (va x j : Int) (u wr keep : Bool) (h : MmuAt w base L v T ps l) (at_ y : Int) (GT : Aside0 (∀ W, Below w.heap.size w W → Calls Try.prog 84 #[.pointer (some ⟨L.t, 0, none⟩), .int .u32 (va / 512)] W fun e w' => e = .returned (.tuple #[.int .u32 y, .bool false]) ∧ Below W.heap.size W w')) (PL : Aside0 (∀ W, Below w.heap.size w W → Calls Try.prog 87 #[.pointer (some ⟨L.m, 0, none⟩), .agg #[.int .u32 va, .bool u, .bool wr]] W fun e w' => e = .returned (.tuple #[.int .u32 at_, .agg #[.int .i64 0, .int .u32 0, .int .u32 0]]) ∧ Below W.heap.size W w')) (RG : Aside0 (∀ W, Below w.heap.size w W → Calls Try.prog 41 #[.pointer (some ⟨L.r, 0, none⟩), .int .u32 at_, .int .i64 4] W fun e w' => e = .returned (.tuple #[.int .u32 x, .int .i64 0]) ∧ W = w')) (PM : Aside0 (∀ W, Calls Try.prog 90 #[.int .u32 x, .bool u, .bool wr] W fun e w' => e = .returned (.bool true) ∧ W = w')) (PI : Aside0 (∀ W, Calls Try.prog 91 #[.int .u32 x] W fun e w' => e = .returned (.bool true) ∧ W = w')) :
    Calls Try.prog 80 #[.pointer (some ⟨L.m, 0, none⟩), .agg #[.int .u32 va, .bool u, .bool wr], .bool false] w fun e w' => e = .returned (.tuple #[.int .u32 x, .agg #[.int .i64 0, .int .u32 0, .int .u32 0]]) ∧ Below w.heap.size w w' := by
  have M := Aside0.mk h
  clear h
  go_enter Try.func80, Try.ntmps80
  go_wp2
  have BX := box2 w (.cells #[.int .u32 va, .bool u, .bool wr] 118 (0, 0)) (.cells #[.int .i64 0, .int .u32 0, .int .u32 0] 47 (0, 0))
  generalize (w.alloc (.cells #[.int .u32 va, .bool u, .bool wr] 118 (0, 0))).alloc (.cells #[.int .i64 0, .int .u32 0, .int .u32 0] 47 (0, 0)) = W at *
  have hS : Aside0 (∀ W', Below W.heap.size W W' → W'.cell? ⟨L.m, 1, none⟩ = some (.pointer (some ⟨L.t, 0, none⟩)) ∧ W'.cell? ⟨w.heap.size, 0, none⟩ = some (.int .u32 va)) := ⟨fun W' hW => ⟨(M.out.then (below_step BX.1 hW)).cell 1, cell_of_row _ _ 0 _ _ _ (row_then BX.2.1 hW)⟩⟩
  have BX := Aside0.mk BX
  have hS0 := hS.out W (Below.refl _ _)
  go_region_held3 (fun W' => W'.cell? ⟨L.m, 1, none⟩ = some (.pointer (some ⟨L.t, 0, none⟩)) ∧ W'.cell? ⟨w.heap.size, 0, none⟩ = some (.int .u32 va))
    (first | exact hS.out _ (by assumption) | exact hS.out _ ((Below.refl _ _).drew))
    (first
    | (go_at_call 84; (with_reducible refine (GT.out _ (below_step BX.out.1 (Below.refl _ _).drew)).mono ?_); rintro e w1 ⟨rfl, hb⟩; have hb1 : Below W.heap.size W w1 := below_step ((Below.refl _ _).drew) hb))
  have BB := Aside0.mk (below_step BX.out.1 hb1)
  have Z := Aside0.mk (row_then BX.out.2.2 hb1)
  have A := Aside0.mk (row_then BX.out.2.1 hb1)
  have d0 : w1.cell? ⟨w.heap.size, 0, none⟩ = some (.int .u32 va) := cell_of_row _ _ 0 _ _ _ A.out
  have d1 : w1.cell? ⟨w.heap.size, 1, none⟩ = some (.bool u) := cell_of_row _ _ 1 _ _ _ A.out
  have d2 : w1.cell? ⟨w.heap.size, 2, none⟩ = some (.bool wr) := cell_of_row _ _ 2 _ _ _ A.out
  go_wp2_with (first
    | (go_at_call 87; (with_reducible refine (PL.out _ BB.out).mono ?_); rintro e w2 ⟨rfl, hb⟩; have A := Aside0.mk (row_then A.out hb); have Z := Aside0.mk (row_then Z.out hb); have BB := Aside0.mk (below_step BB.out hb); have m0 := fun o => (m_cell_alloc M.out BB.out o 0); have m1 := fun o => (m_cell_alloc M.out BB.out o 1); have r0 := fun o => row_alloc A.out o 0; have r1 := fun o => row_alloc A.out o 1; have r2 := fun o => row_alloc A.out o 2; simp only [mmuCells, List.getElem?_toArray, List.getElem?_cons_zero, List.getElem?_cons_succ] at m0 m1 r0 r1 r2; clear hb)
    | (go_at_call 41; (with_reducible refine (RG.out _ (below_alloc BB.out _)).mono ?_); rintro e w3 ⟨rfl, rfl⟩)
    | (go_at_call 90; (with_reducible refine (PM.out _).mono ?_); rintro e w4 ⟨rfl, rfl⟩)
    | (go_at_call 91; (with_reducible refine (PI.out _).mono ?_); rintro e w5 ⟨rfl, rfl⟩)
    | (refine wpList_store_row rfl 47 (.tmp 7) (.tmp 80) rfl (w.heap.size + 1) #[.int .i64 0, .int .u32 0, .int .u32 0] rfl rfl _ _ (row_then Z.out (below_alloc (Below.refl _ _) _)) infoF rfl (by kernel_rfl) ?_))
  refine bodyPost_ret (results_tc rfl _ _ (w.heap.size + 1) 47 #[.int .i64 0, .int .u32 0, .int .u32 0] (0, 0) _ rfl (setRow_heap _ _ _ _ 47 _ (row_then Z.out (below_alloc (Below.refl _ _) _))) Try.underlying47 rfl infoF) rfl ⟨rfl, below_setRow (below_alloc BB.out _) (by omega) _⟩
set_option maxRecDepth 100000 in
set_option maxHeartbeats 2000000 in
theorem entry_b5 (w : World) (base : Nat) (L : Loc) (v : Value) (T : Tabs) (ps : List (Int × Int)) (l : List Int) (va x j : Int) (u wr keep : Bool) (h : MmuAt w base L v T ps l) (at_ y : Int) (GT : Aside0 (∀ W, Below w.heap.size w W → Calls Try.prog 84 #[.pointer (some ⟨L.t, 0, none⟩), .int .u32 (va / 512)] W fun e w' => e = .returned (.tuple #[.int .u32 y, .bool false]) ∧ Below W.heap.size W w')) (PL : Aside0 (∀ W, Below w.heap.size w W → Calls Try.prog 87 #[.pointer (some ⟨L.m, 0, none⟩), .agg #[.int .u32 va, .bool u, .bool wr]] W fun e w' => e = .returned (.tuple #[.int .u32 at_, .agg #[.int .i64 0, .int .u32 0, .int .u32 0]]) ∧ Below W.heap.size W w')) (RG : Aside0 (∀ W, Below w.heap.size w W → Calls Try.prog 41 #[.pointer (some ⟨L.r, 0, none⟩), .int .u32 at_, .int .i64 4] W fun e w' => e = .returned (.tuple #[.int .u32 x, .int .i64 0]) ∧ W = w')) (PM : Aside0 (∀ W, Calls Try.prog 90 #[.int .u32 x, .bool u, .bool wr] W fun e w' => e = .returned (.bool true) ∧ W = w')) (PI : Aside0 (∀ W, Calls Try.prog 91 #[.int .u32 x] W fun e w' => e = .returned (.bool true) ∧ W = w')) (HE : Aside0 (∀ p ∈ putP (va / 512) x ps, (0 ≤ p.1 ∧ p.1 < 8388608) ∧ 0 ≤ p.2 ∧ p.2 < 4294967296)) :
    Calls Try.prog 80 #[.pointer (some ⟨L.m, 0, none⟩), .agg #[.int .u32 va, .bool u, .bool wr], .bool true] w fun e w' => e = .returned (.tuple #[.int .u32 x, .agg #[.int .i64 0, .int .u32 0, .int .u32 0]]) ∧ MStep w w' base L v T (putP (va / 512) x ps) l := by
  have M := Aside0.mk h
  clear h
  go_enter Try.func80, Try.ntmps80
  go_wp2
  have BX := box2 w (.cells #[.int .u32 va, .bool u, .bool wr] 118 (0, 0)) (.cells #[.int .i64 0, .int .u32 0, .int .u32 0] 47 (0, 0))
  generalize (w.alloc (.cells #[.int .u32 va, .bool u, .bool wr] 118 (0, 0))).alloc (.cells #[.int .i64 0, .int .u32 0, .int .u32 0] 47 (0, 0)) = W at *
  have hS : Aside0 (∀ W', Below W.heap.size W W' → W'.cell? ⟨L.m, 1, none⟩ = some (.pointer (some ⟨L.t, 0, none⟩)) ∧ W'.cell? ⟨w.heap.size, 0, none⟩ = some (.int .u32 va)) := ⟨fun W' hW => ⟨(M.out.then (below_step BX.1 hW)).cell 1, cell_of_row _ _ 0 _ _ _ (row_then BX.2.1 hW)⟩⟩
  have BX := Aside0.mk BX
  have hS0 := hS.out W (Below.refl _ _)
  go_region_held3 (fun W' => W'.cell? ⟨L.m, 1, none⟩ = some (.pointer (some ⟨L.t, 0, none⟩)) ∧ W'.cell? ⟨w.heap.size, 0, none⟩ = some (.int .u32 va))
    (first | exact hS.out _ (by assumption) | exact hS.out _ ((Below.refl _ _).drew))
    (first
    | (go_at_call 84; (with_reducible refine (GT.out _ (below_step BX.out.1 (Below.refl _ _).drew)).mono ?_); rintro e w1 ⟨rfl, hb⟩; have hb1 : Below W.heap.size W w1 := below_step ((Below.refl _ _).drew) hb))
  have BB := Aside0.mk (below_step BX.out.1 hb1)
  have Z := Aside0.mk (row_then BX.out.2.2 hb1)
  have A := Aside0.mk (row_then BX.out.2.1 hb1)
  have d0 : w1.cell? ⟨w.heap.size, 0, none⟩ = some (.int .u32 va) := cell_of_row _ _ 0 _ _ _ A.out
  have d1 : w1.cell? ⟨w.heap.size, 1, none⟩ = some (.bool u) := cell_of_row _ _ 1 _ _ _ A.out
  have d2 : w1.cell? ⟨w.heap.size, 2, none⟩ = some (.bool wr) := cell_of_row _ _ 2 _ _ _ A.out
  go_wp2_with (first
    | (go_at_call 87; (with_reducible refine (PL.out _ BB.out).mono ?_); rintro e w2 ⟨rfl, hb⟩; have A := Aside0.mk (row_then A.out hb); have Z := Aside0.mk (row_then Z.out hb); have BB := Aside0.mk (below_step BB.out hb); have m0 := fun o => (m_cell_alloc M.out BB.out o 0); have m1 := fun o => (m_cell_alloc M.out BB.out o 1); have r0 := fun o => row_alloc A.out o 0; have r1 := fun o => row_alloc A.out o 1; have r2 := fun o => row_alloc A.out o 2; simp only [mmuCells, List.getElem?_toArray, List.getElem?_cons_zero, List.getElem?_cons_succ] at m0 m1 r0 r1 r2; clear hb)
    | (go_at_call 41; (with_reducible refine (RG.out _ (below_alloc BB.out _)).mono ?_); rintro e w3 ⟨rfl, rfl⟩)
    | (go_at_call 90; (with_reducible refine (PM.out _).mono ?_); rintro e w4 ⟨rfl, rfl⟩)
    | (go_at_call 91; (with_reducible refine (PI.out _).mono ?_); rintro e w5 ⟨rfl, rfl⟩))
  have XX := Aside0.mk (below_alloc BB.out (.cells #[.int .i64 0, .int .u32 0, .int .u32 0] 47 (0, 0)))
  have Zn := Aside0.mk (row_then Z.out (below_alloc (Below.refl _ _) (.cells #[.int .i64 0, .int .u32 0, .int .u32 0] 47 (0, 0))))
  have An := Aside0.mk (row_then A.out (below_alloc (Below.refl _ _) (.cells #[.int .i64 0, .int .u32 0, .int .u32 0] 47 (0, 0))))
  generalize w2.alloc (.cells #[.int .i64 0, .int .u32 0, .int .u32 0] 47 (0, 0)) = V at *
  have MV := Aside0.mk (M.out.then XX.out)
  have hT : Aside0 (∀ W', Below V.heap.size V W' → W'.cell? ⟨L.m, 1, none⟩ = some (.pointer (some ⟨L.t, 0, none⟩)) ∧ W'.cell? ⟨w.heap.size, 0, none⟩ = some (.int .u32 va)) := ⟨fun W' hW => ⟨(MV.out.then hW).cell 1, cell_of_row _ _ 0 _ _ _ (row_then An.out hW)⟩⟩
  have hT0 := hT.out V (Below.refl _ _)
  have NE := Aside0.mk MV.out.m_ne
  go_region_held3 (fun W' => W'.cell? ⟨L.m, 1, none⟩ = some (.pointer (some ⟨L.t, 0, none⟩)) ∧ W'.cell? ⟨w.heap.size, 0, none⟩ = some (.int .u32 va))
    (first | exact hT.out _ (by assumption) | exact hT.out _ ((Below.refl _ _).drew) | exact hT2.out)
    (first
    | (go_at_call 86; (with_reducible refine (put_call _ _ _ _ _ (va / 512) x (MV.out.then ((Below.refl _ _).drew)).tlb).mono ?_); rintro e w7 ⟨rfl, v7, h7, k7, n7⟩; have S7 := Aside0.mk ((MV.out.then ((Below.refl _ _).drew)).tlb_step h7 k7 (NextRow.of_or n7) HE.out); have hT2 : Aside0 (w7.cell? ⟨L.m, 1, none⟩ = some (.pointer (some ⟨L.t, 0, none⟩)) ∧ w7.cell? ⟨w.heap.size, 0, none⟩ = some (.int .u32 va)) := ⟨by obtain ⟨v8, h8, _⟩ := S7.out.at_; exact ⟨h8.cell 1, cell_of_row _ _ 0 _ _ _ (box_step M.out An.out (by have := (Array.getElem?_eq_some_iff.1 An.out).1; exact this) (Nat.le_refl _) S7.out)⟩⟩; have Z7 := Aside0.mk (box_step M.out Zn.out (by have := (Array.getElem?_eq_some_iff.1 Zn.out).1; exact this) (by omega) S7.out); clear h7 k7 n7))
  go_wp2_with (first
    | (refine wpList_store_row rfl 47 (.tmp 7) (.tmp 80) rfl (w.heap.size + 1) #[.int .i64 0, .int .u32 0, .int .u32 0] rfl rfl _ _ Z7.out infoF rfl (by kernel_rfl) ?_))
  refine bodyPost_ret (results_tc rfl _ _ (w.heap.size + 1) 47 #[.int .i64 0, .int .u32 0, .int .u32 0] (0, 0) _ rfl (setRow_heap _ _ _ _ 47 _ Z7.out) Try.underlying47 rfl infoF) rfl ⟨rfl, MStep.setRow (MStep.after (XX.out.drew) S7.out) (Nat.le_succ _) Z7.out (by unfold mTy; decide) _⟩
end Go.Proofs.Ytiogbgjeimdgmaa.MmuWalk
/- The MMU's entry: its contract. -/
namespace Go.Proofs.Ytiogbgjeimdgmaa.MmuWalk
open Go.RowKit Go.Proofs.Ytiogbgjeimdgmaa.Aid Go.Proofs.YtiogbgjeimdgmaaW.PrintWords Go.Proofs.YtiogbgjeimdgmaaW.PrintLast Go.Proofs.YtiogbgjeimdgmaaW.PrintMore
open Go.Proofs.Ytiogbgjeimdgmaa.RamWalk (RamAt Bytes leN leN_bounds get_i get_bus_i)
open Go.Proofs.Ytiogbgjeimdgmaa.TlbWalk (TlbAt Kept2 putP dropP posP entP nil2 get_yes get_no put_call mem_getD putP_mem)
set_option linter.unusedVariables false
set_option linter.unusedSimpArgs false
theorem atE_r (T : Tabs) (va : Int) : R32 (atE T va) := by unfold R32 atE; exact ⟨Int.emod_nonneg _ (by decide), Int.emod_lt_of_pos _ (by decide)⟩
theorem lenum_r {l : List Int} (h : Bytes l) (a : Nat) (ha : a + 4 ≤ l.length) : R32 (leN ((l.drop a).take 4)) := by
  have hb := leN_bounds ((l.drop a).take 4) ((h.drop a).take 4)
  have hl : ((l.drop a).take 4).length = 4 := by rw [List.length_take, List.length_drop]; omega
  rw [hl] at hb
  exact hb
theorem entP_r {W : World} {base : Nat} {L : Loc} {v : Value} {T : Tabs} {ps : List (Int × Int)} {l : List Int} (h : MmuAt W base L v T ps l) (pg : Int) : R32 (entP pg ps) := by
  unfold entP
  split
  · rename_i hp
    exact (h.ents _ (mem_getD ps _ hp)).2
  · exact ⟨by decide, by decide⟩
theorem entry_call (w : World) (base : Nat) (L : Loc) (v : Value) (T : Tabs) (ps : List (Int × Int)) (l : List Int) (va : Int) (u wr keep : Bool) (hv : R32 va) (h : MmuAt w base L v T ps l) :
    Calls Try.prog 80 #[.pointer (some ⟨L.m, 0, none⟩), accV va u wr, .bool keep] w fun e w' => e = .returned (.tuple #[.int .u32 (entryF T ps l va u wr).1, fltV (entryF T ps l va u wr).2]) ∧ MStep w w' base L v T (entryP T ps l va u wr keep) l := by
  have F1 := Aside0.mk (fun W => fault_call W va u wr 1 0 (.inl rfl))
  have F2 := Aside0.mk (fun W => fault_call W va u wr 2 0 (.inl rfl))
  have F3 := Aside0.mk (fun W => fault_call W va u wr 3 0 (.inl rfl))
  unfold accV
  by_cases hin : posP (va / 512) ps < ps.length
  · have hl : lookF T ps l va wr = (entP (va / 512) ps, noF) := by unfold lookF; rw [if_pos hin]
    have hP : entryP T ps l va u wr keep = ps := by unfold entryP; rw [if_neg (fun c => c.2.1 hin)]
    have hxr := entP_r h (va / 512)
    rw [hP]
    unfold entryF
    rw [hl]
    have GT : Aside0 (∀ W, Below w.heap.size w W → Calls Try.prog 84 #[.pointer (some ⟨L.t, 0, none⟩), .int .u32 (va / 512)] W fun e w' => e = .returned (.tuple #[.int .u32 (entP (va / 512) ps), .bool true]) ∧ Below W.heap.size W w') := ⟨fun W hW => by
      have := get_yes W base L.t v ps (va / 512) (h.then hW).tlb hin
      unfold entP; rw [if_pos hin]; exact this⟩
    generalize entP (va / 512) ps = x at *
    rw [if_neg (by simp [noF])]
    cases hm : mayE x u wr
    · rw [if_pos rfl]
      exact (entry_a1 w base L v T ps l va x _ u wr keep h GT ⟨fun W => hm ▸ pmay_call W x u wr hxr⟩ F2).mono fun e w' k => ⟨k.1, MStep.of_below h k.2⟩
    · rw [if_neg (by decide)]
      cases hi : isE x
      · rw [if_pos rfl]
        exact (entry_a2 w base L v T ps l va x _ u wr keep h GT ⟨fun W => hm ▸ pmay_call W x u wr hxr⟩ ⟨fun W => hi ▸ pis_call W x hxr⟩ F3).mono fun e w' k => ⟨k.1, MStep.of_below h k.2⟩
      · rw [if_neg (by decide)]
        exact (entry_a3 w base L v T ps l va x 0 u wr keep h GT ⟨fun W => hm ▸ pmay_call W x u wr hxr⟩ ⟨fun W => hi ▸ pis_call W x hxr⟩).mono fun e w' k => ⟨k.1, MStep.of_below h k.2⟩
  · have hl : lookF T ps l va wr = memF T l va wr := by unfold lookF; rw [if_neg hin]
    have GT : Aside0 (∀ W, Below w.heap.size w W → Calls Try.prog 84 #[.pointer (some ⟨L.t, 0, none⟩), .int .u32 (va / 512)] W fun e w' => e = .returned (.tuple #[.int .u32 0, .bool false]) ∧ Below W.heap.size W w') := ⟨fun W hW => get_no W base L.t v ps (va / 512) (h.then hW).tlb hin⟩
    have PL := Aside0.mk (fun W (hW : Below w.heap.size w W) => place_call W base L v T ps l va u wr hv (h.then hW))
    unfold accV at PL
    unfold entryP entryF
    rw [hl]
    unfold memF
    cases hoff : offE T va
    · rw [hoff] at PL
      simp only [Bool.false_eq_true, if_false] at PL ⊢
      by_cases hb : atE T va + 4 ≤ l.length
      · rw [if_pos hb]
        have ha := atE_r T va
        have hxr := lenum_r h.by_ (atE T va).toNat (by have := ha.1; omega)
        have RG : Aside0 (∀ W, Below w.heap.size w W → Calls Try.prog 41 #[.pointer (some ⟨L.r, 0, none⟩), .int .u32 (atE T va), .int .i64 4] W fun e w' => e = .returned (.tuple #[.int .u32 (leN ((l.drop (atE T va).toNat).take 4)), .int .i64 0]) ∧ W = w') :=
          ⟨fun W hW => get_i W base L.r L.b l.length L.c l h.by_ (atE T va) 4 ha.1 ha.2 (h.then hW).ram (by decide) hb (by decide) _ rfl⟩
        generalize leN ((l.drop (atE T va).toNat).take 4) = x at *
        have e0 : ¬ (((x, noF) : Int × Flt).2.1 ≠ 0) := by simp [noF]
        rw [if_neg e0]
        cases hm : mayE x u wr
        · simp only [if_true]
          rw [if_neg (fun c => absurd (show (2 : Int) = 0 from c.1) (by decide))]
          exact (entry_b2 w base L v T ps l va x _ u wr keep h (atE T va) 0 GT PL RG ⟨fun W => hm ▸ pmay_call W x u wr hxr⟩ F2).mono fun e w' k => ⟨k.1, MStep.of_below h k.2⟩
        · cases hi : isE x
          · simp only [Bool.true_eq_false, if_false, if_true]
            rw [if_neg (fun c => absurd (show (3 : Int) = 0 from c.1) (by decide))]
            exact (entry_b3 w base L v T ps l va x _ u wr keep h (atE T va) 0 GT PL RG ⟨fun W => hm ▸ pmay_call W x u wr hxr⟩ ⟨fun W => hi ▸ pis_call W x hxr⟩ F3).mono fun e w' k => ⟨k.1, MStep.of_below h k.2⟩
          · simp only [Bool.true_eq_false, if_false]
            cases keep
            · rw [if_neg (by simp)]
              exact (entry_b4 w base L v T ps l va x 0 u wr false h (atE T va) 0 GT PL RG ⟨fun W => hm ▸ pmay_call W x u wr hxr⟩ ⟨fun W => hi ▸ pis_call W x hxr⟩).mono fun e w' k => ⟨k.1, MStep.of_below h k.2⟩
            · rw [if_pos ⟨rfl, hin, rfl⟩]
              refine entry_b5 w base L v T ps l va x 0 u wr true h (atE T va) 0 GT PL RG ⟨fun W => hm ▸ pmay_call W x u wr hxr⟩ ⟨fun W => hi ▸ pis_call W x hxr⟩ ⟨fun p hp => ?_⟩
              rcases putP_mem _ _ _ _ hp with hp | rfl
              · exact h.ents p hp
              · exact ⟨by have := hv.1; have := hv.2; show 0 ≤ va / 512 ∧ va / 512 < 8388608; omega, hxr⟩
      · rw [if_neg hb]
        have ha := atE_r T va
        have RG : Aside0 (∀ W, Below w.heap.size w W → Calls Try.prog 41 #[.pointer (some ⟨L.r, 0, none⟩), .int .u32 (atE T va), .int .i64 4] W fun e w' => e = .returned (.tuple #[.int .u32 0, .int .i64 6]) ∧ W = w') :=
          ⟨fun W hW => get_bus_i W base L.r L.b l.length L.c l (atE T va) 4 ha.1 ha.2 (h.then hW).ram (fun c => hb c.2.1)⟩
        have e0 : ((0, flt 1 va 0 wr) : Int × Flt).2.1 ≠ 0 := by simp [flt]
        rw [if_pos e0, if_neg (fun c => e0 c.1)]
        exact (entry_b1 w base L v T ps l va 0 _ u wr keep h (atE T va) 0 GT PL RG F1).mono fun e w' k => ⟨k.1, MStep.of_below h k.2⟩
    · rw [hoff] at PL
      simp only [if_true] at PL ⊢
      have e0 : ((0, flt 2 va 1 wr) : Int × Flt).2.1 ≠ 0 := by simp [flt]
      rw [if_pos e0, if_neg (fun c => e0 c.1)]
      exact (entry_b0 w base L v T ps l va 0 _ u wr keep h 0 0 GT PL).mono fun e w' k => ⟨k.1, MStep.of_below h k.2⟩
end Go.Proofs.Ytiogbgjeimdgmaa.MmuWalk
/- The MMU's find, walked case by case. -/
namespace Go.Proofs.Ytiogbgjeimdgmaa.MmuWalk
open Go.RowKit Go.Proofs.Ytiogbgjeimdgmaa.Aid Go.Proofs.YtiogbgjeimdgmaaW.PrintWords Go.Proofs.YtiogbgjeimdgmaaW.PrintLast Go.Proofs.YtiogbgjeimdgmaaW.PrintMore
open Go.Proofs.Ytiogbgjeimdgmaa.RamWalk (RamAt Bytes leN leN_bounds get_i get_bus_i size_n)
open Go.Proofs.Ytiogbgjeimdgmaa.TlbWalk (TlbAt Kept2 putP dropP posP entP nil2 get_yes get_no put_call mem_getD putP_mem)
attribute [local go_sem] max2_int min2_int max_two min_two max_three min_three max_four min_four   -- for this text's walks alone
set_option linter.unusedVariables false
set_option linter.unusedSimpArgs false
/-- Where so many bytes from an address on lie, or why they may not be used. -/
def findF (T : Tabs) (ps : List (Int × Int)) (l : List Int) (va n : Int) (u wr : Bool) : Int × Flt :=
  if T.men = 0 then (if va + n ≤ l.length then (va, noF) else (0, flt 1 va 0 wr))
  else if (entryF T ps l va u wr).2.1 ≠ 0 then (0, (entryF T ps l va u wr).2)
  else if placeE (entryF T ps l va u wr).1 va + n ≤ l.length then (placeE (entryF T ps l va u wr).1 va, noF) else (0, flt 1 va 0 wr)
def findP (T : Tabs) (ps : List (Int × Int)) (l : List Int) (va : Int) (u wr keep : Bool) : List (Int × Int) := if T.men = 0 then ps else entryP T ps l va u wr keep
theorem entryF_r {W : World} {base : Nat} {L : Loc} {v : Value} {T : Tabs} {ps : List (Int × Int)} {l : List Int} (h : MmuAt W base L v T ps l) (va : Int) (u wr : Bool) : R32 (entryF T ps l va u wr).1 := by
  have z : R32 (0 : Int) := ⟨by decide, by decide⟩
  have hl : R32 (lookF T ps l va wr).1 := by
    unfold lookF
    split
    · exact entP_r h _
    · unfold memF
      split
      · exact z
      · split
        · rename_i hb
          have ha := atE_r T va
          exact lenum_r h.by_ (atE T va).toNat (by have := ha.1; omega)
        · exact z
  unfold entryF
  split
  · exact z
  · split
    · exact z
    · split
      · exact z
      · exact hl
theorem box_keep {w V W : World} {base : Nat} {L : Loc} {v : Value} {T T' : Tabs} {ps ps' : List (Int × Int)} {l l' : List Int} {g : Nat} {o : Obj} (h : MmuAt w base L v T ps l) (hg : V.heap[g]? = some o) (hw : w.heap.size ≤ g) (s : MStep V W base L v T' ps' l') : W.heap[g]? = some o :=
  (s.chg.block g (Array.getElem?_eq_some_iff.1 hg).1 (fun f => by have := foot_lt h g f; omega)).trans hg
theorem MStep.put3 {w W : World} {base : Nat} {L : Loc} {v : Value} {T : Tabs} {ps : List (Int × Int)} {l : List Int} {g : Nat} {cs0 : Array Value} {ty : TypeId} {fr : Nat × Nat} (s : MStep w W base L v T ps l) (hg : w.heap.size ≤ g) (hb : W.heap[g]? = some (.cells cs0 ty fr)) (ht : ¬ mTy ty) (x y z : Value) : MStep w (((W.setCell ⟨g, 0, none⟩ x).setCell ⟨g, 1, none⟩ y).setCell ⟨g, 2, none⟩ z).drew base L v T ps l := by
  obtain ⟨⟨v1, m1, n1⟩, c1⟩ := s
  have e : ∀ i, i ≠ g → (((W.setCell ⟨g, 0, none⟩ x).setCell ⟨g, 1, none⟩ y).setCell ⟨g, 2, none⟩ z).drew.heap[i]? = W.heap[i]? := fun i hi =>
    (Below.heap_setCell _ ⟨g, 2, none⟩ z i hi).trans ((Below.heap_setCell _ ⟨g, 1, none⟩ y i hi).trans (Below.heap_setCell W ⟨g, 0, none⟩ x i hi))
  exact ⟨⟨v1, m1.keep (fun i k => e i (m1.ne_ty hb ht i k)), n1⟩, ⟨c1.os, c1.tape, c1.output, by simpa [World.setCell] using c1.size, fun i hi hf => (e i (by omega)).trans (c1.block i hi hf)⟩⟩
set_option maxRecDepth 100000 in
set_option maxHeartbeats 2000000 in
theorem find_m0_ok (w : World) (base : Nat) (L : Loc) (v : Value) (T : Tabs) (ps : List (Int × Int)) (l : List Int) (va j : Int) (n : Nat) (u wr keep : Bool) (h : MmuAt w base L v T ps l) (hv : R32 va) (hn : n < 4294967296) (m : Nat) (hm : T.men = 0) (hl : va + n ≤ m) (hm2 : m ≤ 16777216) (SZ : Aside0 (∀ W v' ps', MmuAt W base L v' T ps' l → Calls Try.prog 82 #[.pointer (some ⟨L.r, 0, none⟩)] W fun e w' => e = .returned (.int .i64 m) ∧ W = w')) :
    Calls Try.prog 66 #[.pointer (some ⟨L.m, 0, none⟩), .agg #[.int .u32 va, .bool u, .bool wr], .int .i64 n, .bool keep] w fun e w' => e = .returned (.tuple #[.int .u32 va, .agg #[.int .i64 0, .int .u32 0, .int .u32 0]]) ∧ MStep w w' base L v T ps l := by
  have M := Aside0.mk h
  have BX := box2 w (.cells #[.int .u32 va, .bool u, .bool wr] 118 (0, 0)) (.cells #[.int .i64 0, .int .u32 0, .int .u32 0] 47 (0, 0))
  obtain ⟨W, hW⟩ : ∃ W, (w.alloc (.cells #[.int .u32 va, .bool u, .bool wr] 118 (0, 0))).alloc (.cells #[.int .i64 0, .int .u32 0, .int .u32 0] 47 (0, 0)) = W := ⟨_, rfl⟩
  rw [hW] at BX
  have MW := Aside0.mk (M.out.then BX.1)
  have A := Aside0.mk BX.2.1
  have Z := Aside0.mk BX.2.2
  have BB := Aside0.mk BX.1
  have d0 : W.cell? ⟨w.heap.size, 0, none⟩ = some (.int .u32 va) := cell_of_row _ _ 0 _ _ _ A.out
  have d1 : W.cell? ⟨w.heap.size, 1, none⟩ = some (.bool u) := cell_of_row _ _ 1 _ _ _ A.out
  have d2 : W.cell? ⟨w.heap.size, 2, none⟩ = some (.bool wr) := cell_of_row _ _ 2 _ _ _ A.out
  have c0 : W.cell? ⟨L.m, 0, none⟩ = some (.pointer (some ⟨L.r, 0, none⟩)) := MW.out.cell 0
  have c6 : W.cell? ⟨L.m, 6, none⟩ = some (.int .u32 T.men) := MW.out.cell 6
  have hv1 := hv.1
  have hv2 := hv.2
  clear h BX
  go_enter Try.func66, Try.ntmps66
  go_wp2_with (first
    | (go_at_call 82; (with_reducible refine (SZ.out _ _ _ MW.out).mono ?_); rintro e w3 ⟨rfl, rfl⟩)
    | (refine wpList_store_row rfl 47 (.tmp 9) (.tmp 51) rfl (w.heap.size + 1) #[.int .i64 0, .int .u32 0, .int .u32 0] rfl rfl _ _ Z.out infoF rfl (by kernel_rfl) ?_))
  refine bodyPost_ret (results_tc rfl _ _ (w.heap.size + 1) 47 #[.int .i64 0, .int .u32 0, .int .u32 0] (0, 0) _ rfl (setRow_heap _ _ _ _ 47 _ Z.out) Try.underlying47 rfl infoF) rfl ⟨rfl, MStep.setRow (MStep.of_below M.out BB.out) (by omega) Z.out (by unfold mTy; decide) _⟩
set_option maxRecDepth 100000 in
set_option maxHeartbeats 2000000 in
theorem find_m0_bus (w : World) (base : Nat) (L : Loc) (v : Value) (T : Tabs) (ps : List (Int × Int)) (l : List Int) (va j : Int) (n : Nat) (u wr keep : Bool) (h : MmuAt w base L v T ps l) (hv : R32 va) (hn : n < 4294967296) (m : Nat) (hm : T.men = 0) (hl : ¬ va + n ≤ m) (hm2 : m ≤ 16777216) (SZ : Aside0 (∀ W v' ps', MmuAt W base L v' T ps' l → Calls Try.prog 82 #[.pointer (some ⟨L.r, 0, none⟩)] W fun e w' => e = .returned (.int .i64 m) ∧ W = w')) (F : Aside0 (∀ W, Calls Try.prog 83 #[.agg #[.int .u32 va, .bool u, .bool wr], .int .i64 1, .int .u32 0] W fun e w' => e = .returned (.agg #[.int .i64 1, .int .u32 va, .int .u32 j]) ∧ Below W.heap.size W w')) :
    Calls Try.prog 66 #[.pointer (some ⟨L.m, 0, none⟩), .agg #[.int .u32 va, .bool u, .bool wr], .int .i64 n, .bool keep] w fun e w' => e = .returned (.tuple #[.int .u32 0, .agg #[.int .i64 1, .int .u32 va, .int .u32 j]]) ∧ MStep w w' base L v T ps l := by
  have M := Aside0.mk h
  have BX := box2 w (.cells #[.int .u32 va, .bool u, .bool wr] 118 (0, 0)) (.cells #[.int .i64 0, .int .u32 0, .int .u32 0] 47 (0, 0))
  obtain ⟨W, hW⟩ : ∃ W, (w.alloc (.cells #[.int .u32 va, .bool u, .bool wr] 118 (0, 0))).alloc (.cells #[.int .i64 0, .int .u32 0, .int .u32 0] 47 (0, 0)) = W := ⟨_, rfl⟩
  rw [hW] at BX
  have MW := Aside0.mk (M.out.then BX.1)
  have A := Aside0.mk BX.2.1
  have Z := Aside0.mk BX.2.2
  have BB := Aside0.mk BX.1
  have d0 : W.cell? ⟨w.heap.size, 0, none⟩ = some (.int .u32 va) := cell_of_row _ _ 0 _ _ _ A.out
  have d1 : W.cell? ⟨w.heap.size, 1, none⟩ = some (.bool u) := cell_of_row _ _ 1 _ _ _ A.out
  have d2 : W.cell? ⟨w.heap.size, 2, none⟩ = some (.bool wr) := cell_of_row _ _ 2 _ _ _ A.out
  have c0 : W.cell? ⟨L.m, 0, none⟩ = some (.pointer (some ⟨L.r, 0, none⟩)) := MW.out.cell 0
  have c6 : W.cell? ⟨L.m, 6, none⟩ = some (.int .u32 T.men) := MW.out.cell 6
  have hv1 := hv.1
  have hv2 := hv.2
  clear h BX
  go_enter Try.func66, Try.ntmps66
  go_wp2_with (first
    | (go_at_call 82; (with_reducible refine (SZ.out _ _ _ MW.out).mono ?_); rintro e w3 ⟨rfl, rfl⟩)
    | (go_at_call 83; (with_reducible refine (F.out _).mono ?_); rintro e w6 ⟨rfl, hb⟩; have Z6 := Aside0.mk (row_then Z.out hb); have B6 := Aside0.mk (below_step BB.out hb); clear hb)
    | (refine wpList_store_row rfl 47 (.tmp 9) (.tmp 49) rfl (w.heap.size + 1) #[.int .i64 1, .int .u32 va, .int .u32 j] rfl rfl _ _ Z6.out infoF rfl (by kernel_rfl) ?_))
  refine bodyPost_ret (results_tc rfl _ _ (w.heap.size + 1) 47 #[.int .i64 1, .int .u32 va, .int .u32 j] (0, 0) _ rfl (setRow_heap _ _ _ _ 47 _ Z6.out) Try.underlying47 rfl infoF) rfl ⟨rfl, MStep.setRow (MStep.of_below M.out B6.out) (by omega) Z6.out (by unfold mTy; decide) _⟩
set_option maxRecDepth 100000 in
set_option maxHeartbeats 2000000 in
theorem find_m1_ok (w : World) (base : Nat) (L : Loc) (v : Value) (T : Tabs) (ps : List (Int × Int)) (l : List Int) (va j : Int) (n : Nat) (u wr keep : Bool) (h : MmuAt w base L v T ps l) (hv : R32 va) (hn : n < 4294967296) (m : Nat) (x : Int) (ps' : List (Int × Int)) (hm : (T.men == 0) = false) (hm2 : m ≤ 16777216) (pa : Int) (EN : Aside0 (∀ W, Below w.heap.size w W → Calls Try.prog 80 #[.pointer (some ⟨L.m, 0, none⟩), .agg #[.int .u32 va, .bool u, .bool wr], .bool keep] W fun e w' => e = .returned (.tuple #[.int .u32 x, .agg #[.int .i64 0, .int .u32 0, .int .u32 0]]) ∧ MStep W w' base L v T ps' l)) (PP : Aside0 (∀ W, Calls Try.prog 81 #[.int .u32 x, .int .u32 va] W fun e w' => e = .returned (.int .u32 pa) ∧ W = w')) (hp1 : 0 ≤ pa) (hp2 : pa < 4294967296) (hl : pa + n ≤ m) (SZ : Aside0 (∀ W v' ps', MmuAt W base L v' T ps' l → Calls Try.prog 82 #[.pointer (some ⟨L.r, 0, none⟩)] W fun e w' => e = .returned (.int .i64 m) ∧ W = w')) :
    Calls Try.prog 66 #[.pointer (some ⟨L.m, 0, none⟩), .agg #[.int .u32 va, .bool u, .bool wr], .int .i64 n, .bool keep] w fun e w' => e = .returned (.tuple #[.int .u32 pa, .agg #[.int .i64 0, .int .u32 0, .int .u32 0]]) ∧ MStep w w' base L v T ps' l := by
  have M := Aside0.mk h
  have BX := box2 w (.cells #[.int .u32 va, .bool u, .bool wr] 118 (0, 0)) (.cells #[.int .i64 0, .int .u32 0, .int .u32 0] 47 (0, 0))
  obtain ⟨W, hW⟩ : ∃ W, (w.alloc (.cells #[.int .u32 va, .bool u, .bool wr] 118 (0, 0))).alloc (.cells #[.int .i64 0, .int .u32 0, .int .u32 0] 47 (0, 0)) = W := ⟨_, rfl⟩
  rw [hW] at BX
  have MW := Aside0.mk (M.out.then BX.1)
  have A := Aside0.mk BX.2.1
  have Z := Aside0.mk BX.2.2
  have BB := Aside0.mk BX.1
  have d0 : W.cell? ⟨w.heap.size, 0, none⟩ = some (.int .u32 va) := cell_of_row _ _ 0 _ _ _ A.out
  have d1 : W.cell? ⟨w.heap.size, 1, none⟩ = some (.bool u) := cell_of_row _ _ 1 _ _ _ A.out
  have d2 : W.cell? ⟨w.heap.size, 2, none⟩ = some (.bool wr) := cell_of_row _ _ 2 _ _ _ A.out
  have c0 : W.cell? ⟨L.m, 0, none⟩ = some (.pointer (some ⟨L.r, 0, none⟩)) := MW.out.cell 0
  have c6 : W.cell? ⟨L.m, 6, none⟩ = some (.int .u32 T.men) := MW.out.cell 6
  have hv1 := hv.1
  have hv2 := hv.2
  clear h BX
  go_enter Try.func66, Try.ntmps66
  go_wp2_with (first
    | (go_at_call 80; (with_reducible refine (EN.out _ BB.out).mono ?_); rintro e w2 ⟨rfl, s⟩; have S := Aside0.mk (MStep.after BB.out s); have A := Aside0.mk (box_keep M.out A.out (Nat.le_refl _) s); have Z := Aside0.mk (box_keep M.out Z.out (by omega) s); obtain ⟨v2, m2, _⟩ := s.at_; have MW := Aside0.mk m2; have m0 := fun o => (m2.then (below_alloc (Below.refl _ _) o)).cell 0; have r0 := fun o => row_alloc A.out o 0; have r1 := fun o => row_alloc A.out o 1; have r2 := fun o => row_alloc A.out o 2; simp only [mmuCells, List.getElem?_toArray, List.getElem?_cons_zero, List.getElem?_cons_succ] at m0 r0 r1 r2; clear m2 s)
    | (go_at_call 81; (with_reducible refine (PP.out _).mono ?_); rintro e w4 ⟨rfl, rfl⟩)
    | (go_at_call 82; (with_reducible refine (SZ.out _ _ _ (MW.out.then (below_alloc (Below.refl _ _) _))).mono ?_); rintro e w3 ⟨rfl, rfl⟩)
    | (refine wpList_store_row rfl 47 (.tmp 9) (.tmp 51) rfl (w.heap.size + 1) #[.int .i64 0, .int .u32 0, .int .u32 0] rfl rfl _ _ (row_then Z.out (below_alloc (Below.refl _ _) _)) infoF rfl (by kernel_rfl) ?_))
  refine bodyPost_ret (results_tc rfl _ _ (w.heap.size + 1) 47 #[.int .i64 0, .int .u32 0, .int .u32 0] (0, 0) _ rfl (setRow_heap _ _ _ _ 47 _ (row_then Z.out (below_alloc (Below.refl _ _) _))) Try.underlying47 rfl infoF) rfl ⟨rfl, MStep.setRow (S.out.then (below_alloc (Below.refl _ _) _)) (by omega) (row_then Z.out (below_alloc (Below.refl _ _) _)) (by unfold mTy; decide) _⟩
set_option maxRecDepth 100000 in
set_option maxHeartbeats 2000000 in
theorem find_m1_bus (w : World) (base : Nat) (L : Loc) (v : Value) (T : Tabs) (ps : List (Int × Int)) (l : List Int) (va j : Int) (n : Nat) (u wr keep : Bool) (h : MmuAt w base L v T ps l) (hv : R32 va) (hn : n < 4294967296) (m : Nat) (x : Int) (ps' : List (Int × Int)) (hm : (T.men == 0) = false) (hm2 : m ≤ 16777216) (pa : Int) (EN : Aside0 (∀ W, Below w.heap.size w W → Calls Try.prog 80 #[.pointer (some ⟨L.m, 0, none⟩), .agg #[.int .u32 va, .bool u, .bool wr], .bool keep] W fun e w' => e = .returned (.tuple #[.int .u32 x, .agg #[.int .i64 0, .int .u32 0, .int .u32 0]]) ∧ MStep W w' base L v T ps' l)) (PP : Aside0 (∀ W, Calls Try.prog 81 #[.int .u32 x, .int .u32 va] W fun e w' => e = .returned (.int .u32 pa) ∧ W = w')) (hp1 : 0 ≤ pa) (hp2 : pa < 4294967296) (hl : ¬ pa + n ≤ m) (SZ : Aside0 (∀ W v' ps', MmuAt W base L v' T ps' l → Calls Try.prog 82 #[.pointer (some ⟨L.r, 0, none⟩)] W fun e w' => e = .returned (.int .i64 m) ∧ W = w')) (F : Aside0 (∀ W, Calls Try.prog 83 #[.agg #[.int .u32 va, .bool u, .bool wr], .int .i64 1, .int .u32 0] W fun e w' => e = .returned (.agg #[.int .i64 1, .int .u32 va, .int .u32 j]) ∧ Below W.heap.size W w')) :
    Calls Try.prog 66 #[.pointer (some ⟨L.m, 0, none⟩), .agg #[.int .u32 va, .bool u, .bool wr], .int .i64 n, .bool keep] w fun e w' => e = .returned (.tuple #[.int .u32 0, .agg #[.int .i64 1, .int .u32 va, .int .u32 j]]) ∧ MStep w w' base L v T ps' l := by
  have M := Aside0.mk h
  have BX := box2 w (.cells #[.int .u32 va, .bool u, .bool wr] 118 (0, 0)) (.cells #[.int .i64 0, .int .u32 0, .int .u32 0] 47 (0, 0))
  obtain ⟨W, hW⟩ : ∃ W, (w.alloc (.cells #[.int .u32 va, .bool u, .bool wr] 118 (0, 0))).alloc (.cells #[.int .i64 0, .int .u32 0, .int .u32 0] 47 (0, 0)) = W := ⟨_, rfl⟩
  rw [hW] at BX
  have MW := Aside0.mk (M.out.then BX.1)
  have A := Aside0.mk BX.2.1
  have Z := Aside0.mk BX.2.2
  have BB := Aside0.mk BX.1
  have d0 : W.cell? ⟨w.heap.size, 0, none⟩ = some (.int .u32 va) := cell_of_row _ _ 0 _ _ _ A.out
  have d1 : W.cell? ⟨w.heap.size, 1, none⟩ = some (.bool u) := cell_of_row _ _ 1 _ _ _ A.out
  have d2 : W.cell? ⟨w.heap.size, 2, none⟩ = some (.bool wr) := cell_of_row _ _ 2 _ _ _ A.out
  have c0 : W.cell? ⟨L.m, 0, none⟩ = some (.pointer (some ⟨L.r, 0, none⟩)) := MW.out.cell 0
  have c6 : W.cell? ⟨L.m, 6, none⟩ = some (.int .u32 T.men) := MW.out.cell 6
  have hv1 := hv.1
  have hv2 := hv.2
  clear h BX
  go_enter Try.func66, Try.ntmps66
  go_wp2_with (first
    | (go_at_call 80; (with_reducible refine (EN.out _ BB.out).mono ?_); rintro e w2 ⟨rfl, s⟩; have S := Aside0.mk (MStep.after BB.out s); have A := Aside0.mk (box_keep M.out A.out (Nat.le_refl _) s); have Z := Aside0.mk (box_keep M.out Z.out (by omega) s); obtain ⟨v2, m2, _⟩ := s.at_; have MW := Aside0.mk m2; have m0 := fun o => (m2.then (below_alloc (Below.refl _ _) o)).cell 0; have r0 := fun o => row_alloc A.out o 0; have r1 := fun o => row_alloc A.out o 1; have r2 := fun o => row_alloc A.out o 2; simp only [mmuCells, List.getElem?_toArray, List.getElem?_cons_zero, List.getElem?_cons_succ] at m0 r0 r1 r2; clear m2 s)
    | (go_at_call 81; (with_reducible refine (PP.out _).mono ?_); rintro e w4 ⟨rfl, rfl⟩)
    | (go_at_call 82; (with_reducible refine (SZ.out _ _ _ (MW.out.then (below_alloc (Below.refl _ _) _))).mono ?_); rintro e w3 ⟨rfl, rfl⟩)
    | (go_at_call 83; (with_reducible refine (F.out _).mono ?_); rintro e w6 ⟨rfl, hb⟩; have Z6 := Aside0.mk (row_then Z.out (below_step (below_alloc (Below.refl _ _) _) hb)); have S6 := Aside0.mk ((S.out.then (below_alloc (Below.refl _ _) _)).then hb); clear hb)
    | (refine wpList_store_row rfl 47 (.tmp 9) (.tmp 49) rfl (w.heap.size + 1) #[.int .i64 1, .int .u32 va, .int .u32 j] rfl rfl _ _ Z6.out infoF rfl (by kernel_rfl) ?_))
  refine bodyPost_ret (results_tc rfl _ _ (w.heap.size + 1) 47 #[.int .i64 1, .int .u32 va, .int .u32 j] (0, 0) _ rfl (setRow_heap _ _ _ _ 47 _ Z6.out) Try.underlying47 rfl infoF) rfl ⟨rfl, MStep.setRow (S6.out) (by omega) Z6.out (by unfold mTy; decide) _⟩
set_option maxRecDepth 100000 in
set_option maxHeartbeats 2000000 in
theorem find_m1_flt (w : World) (base : Nat) (L : Loc) (v : Value) (T : Tabs) (ps : List (Int × Int)) (l : List Int) (va j : Int) (n : Nat) (u wr keep : Bool) (h : MmuAt w base L v T ps l) (hv : R32 va) (hn : n < 4294967296) (m : Nat) (x : Int) (ps' : List (Int × Int)) (hm : (T.men == 0) = false) (hm2 : m ≤ 16777216) (fk fv fi : Int) (hk : (fk == 0) = false) (EN : Aside0 (∀ W, Below w.heap.size w W → Calls Try.prog 80 #[.pointer (some ⟨L.m, 0, none⟩), .agg #[.int .u32 va, .bool u, .bool wr], .bool keep] W fun e w' => e = .returned (.tuple #[.int .u32 x, .agg #[.int .i64 fk, .int .u32 fv, .int .u32 fi]]) ∧ MStep W w' base L v T ps' l)) :
    Calls Try.prog 66 #[.pointer (some ⟨L.m, 0, none⟩), .agg #[.int .u32 va, .bool u, .bool wr], .int .i64 n, .bool keep] w fun e w' => e = .returned (.tuple #[.int .u32 0, .agg #[.int .i64 fk, .int .u32 fv, .int .u32 fi]]) ∧ MStep w w' base L v T ps' l := by
  have M := Aside0.mk h
  have BX := box2 w (.cells #[.int .u32 va, .bool u, .bool wr] 118 (0, 0)) (.cells #[.int .i64 0, .int .u32 0, .int .u32 0] 47 (0, 0))
  obtain ⟨W, hW⟩ : ∃ W, (w.alloc (.cells #[.int .u32 va, .bool u, .bool wr] 118 (0, 0))).alloc (.cells #[.int .i64 0, .int .u32 0, .int .u32 0] 47 (0, 0)) = W := ⟨_, rfl⟩
  rw [hW] at BX
  have MW := Aside0.mk (M.out.then BX.1)
  have A := Aside0.mk BX.2.1
  have Z := Aside0.mk BX.2.2
  have BB := Aside0.mk BX.1
  have d0 : W.cell? ⟨w.heap.size, 0, none⟩ = some (.int .u32 va) := cell_of_row _ _ 0 _ _ _ A.out
  have d1 : W.cell? ⟨w.heap.size, 1, none⟩ = some (.bool u) := cell_of_row _ _ 1 _ _ _ A.out
  have d2 : W.cell? ⟨w.heap.size, 2, none⟩ = some (.bool wr) := cell_of_row _ _ 2 _ _ _ A.out
  have c0 : W.cell? ⟨L.m, 0, none⟩ = some (.pointer (some ⟨L.r, 0, none⟩)) := MW.out.cell 0
  have c6 : W.cell? ⟨L.m, 6, none⟩ = some (.int .u32 T.men) := MW.out.cell 6
  have hv1 := hv.1
  have hv2 := hv.2
  clear h BX
  go_enter Try.func66, Try.ntmps66
  go_wp2_with (first
    | (go_at_call 80; (with_reducible refine (EN.out _ BB.out).mono ?_); rintro e w2 ⟨rfl, s⟩; have S := Aside0.mk (MStep.after BB.out s); have A := Aside0.mk (box_keep M.out A.out (Nat.le_refl _) s); have Z := Aside0.mk (box_keep M.out Z.out (by omega) s); obtain ⟨v2, m2, _⟩ := s.at_; have MW := Aside0.mk m2; have m0 := fun o => (m2.then (below_alloc (Below.refl _ _) o)).cell 0; have r0 := fun o => row_alloc A.out o 0; have r1 := fun o => row_alloc A.out o 1; have r2 := fun o => row_alloc A.out o 2; simp only [mmuCells, List.getElem?_toArray, List.getElem?_cons_zero, List.getElem?_cons_succ] at m0 r0 r1 r2; clear m2 s))
  have Y := heap_alloc_new w2 (.cells #[.int .i64 fk, .int .u32 fv, .int .u32 fi] 47 (0, 0))
  have Zn := row_then Z.out (below_alloc (Below.refl _ _) (.cells #[.int .i64 fk, .int .u32 fv, .int .u32 fi] 47 (0, 0)))
  have Sn := Aside0.mk (S.out.then (below_alloc (Below.refl _ _) (.cells #[.int .i64 fk, .int .u32 fv, .int .u32 fi] 47 (0, 0))))
  generalize w2.alloc (.cells #[.int .i64 fk, .int .u32 fv, .int .u32 fi] 47 (0, 0)) = V at *
  have y0 := cell_of_row _ _ 0 _ _ _ Y
  have y1 := cell_of_row _ _ 1 _ _ _ Y
  have y2 := cell_of_row _ _ 2 _ _ _ Y
  have z0 := cell_of_row _ _ 0 _ _ _ Zn
  have z1 := cell_of_row _ _ 1 _ _ _ Zn
  have z2 := cell_of_row _ _ 2 _ _ _ Zn
  have g0 := frozen_of_row _ _ 0 _ _ Zn
  have g1 := frozen_of_row _ _ 1 _ _ Zn
  have g2 := frozen_of_row _ _ 2 _ _ Zn
  simp only [List.getElem?_toArray, List.getElem?_cons_zero, List.getElem?_cons_succ] at y0 y1 y2 z0 z1 z2
  have hne : ¬ w2.heap.size = w.heap.size + 1 := by have := (Array.getElem?_eq_some_iff.1 Z.out).1; omega
  have Y := Aside0.mk Y
  have Zn := Aside0.mk Zn
  go_region
  go_wp2
  refine bodyPost_ret (results_tc rfl _ _ (w.heap.size + 1) 47 #[.int .i64 fk, .int .u32 fv, .int .u32 fi] (0, 0) _ rfl (flt3_put Zn.out _ _ _) Try.underlying47 rfl infoF) rfl ⟨rfl, MStep.put3 Sn.out (by omega) Zn.out (by unfold mTy; decide) _ _ _⟩
end Go.Proofs.Ytiogbgjeimdgmaa.MmuWalk
/- The MMU's find: its contract. -/
namespace Go.Proofs.Ytiogbgjeimdgmaa.MmuWalk
open Go.RowKit Go.Proofs.Ytiogbgjeimdgmaa.Aid Go.Proofs.YtiogbgjeimdgmaaW.PrintWords Go.Proofs.YtiogbgjeimdgmaaW.PrintLast Go.Proofs.YtiogbgjeimdgmaaW.PrintMore
open Go.Proofs.Ytiogbgjeimdgmaa.RamWalk (RamAt Bytes leN leN_bounds get_i get_bus_i size_n)
open Go.Proofs.Ytiogbgjeimdgmaa.TlbWalk (TlbAt Kept2 putP dropP posP entP nil2)
set_option linter.unusedVariables false
set_option linter.unusedSimpArgs false
theorem find_call (w : World) (base : Nat) (L : Loc) (v : Value) (T : Tabs) (ps : List (Int × Int)) (l : List Int) (va : Int) (n : Nat) (u wr keep : Bool) (hv : R32 va) (hn : n < 4294967296) (h : MmuAt w base L v T ps l) :
    Calls Try.prog 66 #[.pointer (some ⟨L.m, 0, none⟩), accV va u wr, .int .i64 n, .bool keep] w fun e w' => e = .returned (.tuple #[.int .u32 (findF T ps l va n u wr).1, fltV (findF T ps l va n u wr).2]) ∧ MStep w w' base L v T (findP T ps l va u wr keep) l := by
  have F := Aside0.mk (fun W => fault_call W va u wr 1 0 (.inl rfl))
  have hm2 : l.length ≤ 16777216 := h.ram.2.2.2.2
  have SZ : Aside0 (∀ W v' ps', MmuAt W base L v' T ps' l → Calls Try.prog 82 #[.pointer (some ⟨L.r, 0, none⟩)] W fun e w' => e = .returned (.int .i64 (l.length : Nat)) ∧ W = w') := ⟨fun W v' ps' k => size_n W base L.r L.b l.length L.c l k.ram⟩
  unfold findF findP accV
  by_cases hm : T.men = 0
  · rw [if_pos hm, if_pos hm]
    by_cases hl : va + n ≤ l.length
    · rw [if_pos hl]
      exact find_m0_ok w base L v T ps l va 0 n u wr keep h hv hn l.length hm hl hm2 SZ
    · rw [if_neg hl]
      exact find_m0_bus w base L v T ps l va _ n u wr keep h hv hn l.length hm hl hm2 SZ F
  · have hm' : (T.men == 0) = false := beq_eq_false_iff_ne.mpr hm
    rw [if_neg hm, if_neg hm]
    have EN := Aside0.mk (fun W (hW : Below w.heap.size w W) => entry_call W base L v T ps l va u wr keep hv (h.then hW))
    have hx := entryF_r h va u wr
    have hk : (entryF T ps l va u wr).2.1 = 0 → (entryF T ps l va u wr).2 = noF := by
      unfold entryF
      split
      · intro c; rename_i c'; exact absurd c c'
      · split
        · intro c; cases (show (2 : Int) = 0 from c)
        · split
          · intro c; cases (show (3 : Int) = 0 from c)
          · intro _; rfl
    unfold accV at EN
    generalize entryP T ps l va u wr keep = ps' at *
    generalize entryF T ps l va u wr = r at *
    obtain ⟨x, fk, fv, fi⟩ := r
    by_cases hf : fk = 0
    · have := hk hf
      simp only [noF, Prod.mk.injEq] at this
      obtain ⟨rfl, rfl, rfl⟩ := this
      rw [if_neg (by simp)]
      have PP := Aside0.mk (fun W => pplace_call W x va hx hv)
      have hp := placeE_r x va
      show Calls _ _ _ _ fun e w' => e = .returned (.tuple #[.int .u32 (if placeE x va + n ≤ l.length then (placeE x va, noF) else (0, flt 1 va 0 wr)).1, _]) ∧ _
      generalize placeE x va = pa at *
      by_cases hl : pa + n ≤ l.length
      · rw [if_pos hl]
        exact find_m1_ok w base L v T ps l va 0 n u wr keep h hv hn l.length x ps' hm' hm2 pa EN PP hp.1 hp.2 hl SZ
      · rw [if_neg hl]
        exact find_m1_bus w base L v T ps l va _ n u wr keep h hv hn l.length x ps' hm' hm2 pa EN PP hp.1 hp.2 hl SZ F
    · rw [if_pos hf]
      refine (find_m1_flt w base L v T ps l va 0 n u wr keep h hv hn l.length x ps' hm' hm2 fk fv fi (beq_eq_false_iff_ne.mpr hf) ?_)
      exact EN
end Go.Proofs.Ytiogbgjeimdgmaa.MmuWalk
