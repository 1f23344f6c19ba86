/- The functions of layers 3 and 5, walked: entries of page tables; where an MMU's parts lie. -/
import Derived.Test.YtiogbgjeimdgmaaRamF
import Derived.Test.YtiogbgjeimdgmaaTlbF
namespace Go.Proofs.Ytiogbgjeimdgmaa.MmuWalk
open Go.RowKit Go.Proofs.Ytiogbgjeimdgmaa.Aid Go.Proofs.YtiogbgjeimdgmaaW.PrintWords Go.Proofs.YtiogbgjeimdgmaaW.PrintLast Go.Proofs.YtiogbgjeimdgmaaW.PrintMore
open Go.Proofs.Ytiogbgjeimdgmaa.RamWalk (RamAt Bytes leN)
open Go.Proofs.Ytiogbgjeimdgmaa.TlbWalk (TlbAt Kept2 putP dropP posP entP)
attribute [local go_sem] max2_int min2_int max_two min_two max_three min_three max_four min_four   -- for this text's walks alone
set_option linter.unusedVariables false
set_option linter.unusedSimpArgs false
/-! An MMU in memory. -/
/-- Of what was there, the blocks of S alone may have turned. -/
structure Chg (S : Nat → Prop) (w w' : World) : Prop where
  os : w'.os = w.os
  tape : w'.tape = w.tape
  output : w'.output = w.output
  size : w.heap.size ≤ w'.heap.size
  block : ∀ k, k < w.heap.size → ¬ S k → w'.heap[k]? = w.heap[k]?
theorem Chg.of_below {w w' : World} (h : Below w.heap.size w w') (S : Nat → Prop) : Chg S w w' := ⟨h.os, h.tape, h.output, h.size, fun k hk _ => h.block k hk⟩
theorem Chg.refl (w : World) (S : Nat → Prop) : Chg S w w := Chg.of_below (Below.refl _ _) S
theorem Chg.trans {w w1 w2 : World} {S S' : Nat → Prop} (h : Chg S w w1) (k : Chg S' w1 w2) (hs : ∀ i, i < w.heap.size → S' i → S i) : Chg S w w2 :=
  ⟨k.os.trans h.os, k.tape.trans h.tape, k.output.trans h.output, Nat.le_trans h.size k.size, fun i hi h1 => (k.block i (Nat.lt_of_lt_of_le hi h.size) (fun e => h1 (hs i hi e))).trans (h.block i hi h1)⟩
theorem Chg.mono {w w1 : World} {S S' : Nat → Prop} (h : Chg S w w1) (hs : ∀ i, S i → S' i) : Chg S' w w1 := ⟨h.os, h.tape, h.output, h.size, fun i hi h1 => h.block i hi (fun e => h1 (hs i e))⟩
theorem Chg.then {w w1 w2 : World} {S : Nat → Prop} (h : Chg S w w1) (k : Below w1.heap.size w1 w2) : Chg S w w2 :=
  ⟨k.os.trans h.os, k.tape.trans h.tape, k.output.trans h.output, Nat.le_trans h.size k.size, fun i hi h1 => (k.block i (Nat.lt_of_lt_of_le hi h.size)).trans (h.block i hi h1)⟩
theorem Chg.below {w0 w w' : World} {S : Nat → Prop} (h : Chg S w w') (b : Below w0.heap.size w0 w) (hs : ∀ i, S i → w0.heap.size ≤ i) : Below w0.heap.size w0 w' :=
  ⟨h.os.trans b.os, h.tape.trans b.tape, h.output.trans b.output, Nat.le_trans b.size h.size, fun i hi => (h.block i (Nat.lt_of_lt_of_le hi b.size) (fun e => by have := hs i e; omega)).trans (b.block i hi)⟩
/-- The registers that tell how addresses are translated. -/
structure Tabs where
  p0b : Int
  p0l : Int
  sb : Int
  sl : Int
  men : Int
def Tabs.ok (T : Tabs) : Prop := (0 ≤ T.p0b ∧ T.p0b < 4294967296) ∧ (0 ≤ T.p0l ∧ T.p0l < 4294967296) ∧ (0 ≤ T.sb ∧ T.sb < 4294967296) ∧ (0 ≤ T.sl ∧ T.sl < 4294967296) ∧ (0 ≤ T.men ∧ T.men < 4294967296)
def Tabs.val (T : Tabs) : Value := .agg #[.int .u32 T.p0b, .int .u32 T.p0l, .int .u32 T.sb, .int .u32 T.sl, .int .u32 T.men]
def mmuCells (gr gt : Nat) (T : Tabs) : Array Value := #[.pointer (some ⟨gr, 0, none⟩), .pointer (some ⟨gt, 0, none⟩), .int .u32 T.p0b, .int .u32 T.p0l, .int .u32 T.sb, .int .u32 T.sl, .int .u32 T.men]
/-- Where the parts of an MMU lie. -/
structure Loc where
  m : Nat
  r : Nat
  b : Nat
  c : Nat
  t : Nat
structure MmuAt (W : World) (base : Nat) (L : Loc) (v : Value) (T : Tabs) (ps : List (Int × Int)) (l : List Int) : Prop where
  blk : W.heap[L.m]? = some (.cells (mmuCells L.r L.t T) 107 (0, 0))
  ge : base ≤ L.m
  ram : RamAt W base L.r (.slice (some ⟨L.b, 0, none⟩) l.length L.c) l
  tlb : TlbAt W base L.t v ps
  by_ : Bytes l
  ok : T.ok
  ents : ∀ p ∈ ps, (0 ≤ p.1 ∧ p.1 < 8388608) ∧ 0 ≤ p.2 ∧ p.2 < 4294967296
theorem MmuAt.lt {W : World} {base : Nat} {L : Loc} {v : Value} {T : Tabs} {ps : List (Int × Int)} {l : List Int} (h : MmuAt W base L v T ps l) : L.m < W.heap.size := (Array.getElem?_eq_some_iff.1 h.blk).1
theorem MmuAt.then {W W' : World} {base : Nat} {L : Loc} {v : Value} {T : Tabs} {ps : List (Int × Int)} {l : List Int} (h : MmuAt W base L v T ps l) (k : Below W.heap.size W W') : MmuAt W' base L v T ps l :=
  ⟨(k.block L.m h.lt).trans h.blk, h.ge, h.ram.then k, h.tlb.then k, h.by_, h.ok, h.ents⟩
theorem MmuAt.cell {W : World} {base : Nat} {L : Loc} {v : Value} {T : Tabs} {ps : List (Int × Int)} {l : List Int} (h : MmuAt W base L v T ps l) (j : Nat) : W.cell? ⟨L.m, j, none⟩ = (mmuCells L.r L.t T)[j]? := cell_of_row W L.m j _ _ _ h.blk
theorem MmuAt.free {W : World} {base : Nat} {L : Loc} {v : Value} {T : Tabs} {ps : List (Int × Int)} {l : List Int} (h : MmuAt W base L v T ps l) (j : Nat) : W.frozen? ⟨L.m, j, none⟩ = false := frozen_of_row W L.m j _ _ h.blk
def R32 (x : Int) : Prop := 0 ≤ x ∧ x < 4294967296
theorem and_mask (j : Nat) (hj : j ≤ 32) (x c : Int) (hx : R32 x) (hc : c = ((2 ^ j - 1 : Nat) : Int)) : Go.bits .and .u32 x c = x % ((2 ^ j : Nat) : Int) := by
  obtain ⟨n, rfl⟩ : ∃ n : Nat, x = n := ⟨x.toNat, by have := hx.1; omega⟩
  have hn : n < 4294967296 := by have := hx.2; omega
  have hp : 2 ^ j ≤ 2 ^ 32 := Nat.pow_le_pow_right (by decide) hj
  have hpos := Nat.two_pow_pos j
  rw [hc, u32_and_nat n _ hn (by omega), Nat.and_two_pow_sub_one_eq_mod]
  exact Int.natCast_emod _ _
theorem or_low (j : Nat) (a b : Int) (ha : 0 ≤ a) (hb : 0 ≤ b) (hb1 : b < ((2 ^ j : Nat) : Int)) (h : a * ((2 ^ j : Nat) : Int) + b < 4294967296) : Go.bits .or .u32 (a * ((2 ^ j : Nat) : Int)) b = a * ((2 ^ j : Nat) : Int) + b := by
  obtain ⟨n, rfl⟩ : ∃ n : Nat, a = n := ⟨a.toNat, by omega⟩
  obtain ⟨m, rfl⟩ : ∃ m : Nat, b = m := ⟨b.toNat, by omega⟩
  have hm : m < 2 ^ j := by omega
  have h' : n * 2 ^ j + m < 4294967296 := by
    have e : ((n * 2 ^ j + m : Nat) : Int) = (n : Int) * ((2 ^ j : Nat) : Int) + (m : Int) := by rw [Int.natCast_add, Int.natCast_mul]
    omega
  have e1 : n * 2 ^ j ||| m = n * 2 ^ j + m := by rw [← Nat.shiftLeft_eq]; exact (Nat.shiftLeft_add_eq_or_of_lt hm n).symm
  rw [← Int.natCast_mul, u32_or_nat _ _ (by omega) (by omega), e1]
  exact Int.natCast_add _ _
set_option maxRecDepth 100000 in
theorem and_flag (j : Nat) (hj : j < 32) (x c : Int) (hx : R32 x) (hc : c = ((2 ^ j : Nat) : Int)) : (Go.bits .and .u32 x c != 0) = decide (x / ((2 ^ j : Nat) : Int) % 2 = 1) := by
  obtain ⟨n, rfl⟩ : ∃ n : Nat, x = n := ⟨x.toNat, by have := hx.1; omega⟩
  rw [u32_flag j n c hc hj (by have := hx.2; omega), Nat.testBit_eq_decide_div_mod_eq]
  have e : ((n : Int) / ((2 ^ j : Nat) : Int) % 2) = ((n / 2 ^ j % 2 : Nat) : Int) := by
    rw [← Int.natCast_ediv]; exact (Int.natCast_emod _ _).symm
  rw [e]
  congr 1
  apply propext
  constructor
  · intro h; rw [h]; rfl
  · intro h; exact_mod_cast h
/-- What an entry says. -/
def protE (x : Int) : Int := x / 134217728 % 4
def isE (x : Int) : Bool := decide (x / 2147483648 % 2 = 1)
def wrE (x : Int) : Bool := decide (x / 67108864 % 2 = 1)
def placeE (x va : Int) : Int := x % 2097152 * 512 + va % 512
def mayE (x : Int) (user wr : Bool) : Bool := if user = false then decide (protE x ≠ 0) else if wr = true then decide (protE x = 3) else decide (2 ≤ protE x)
theorem placeE_r (x va : Int) : R32 (placeE x va) := by unfold R32 placeE; omega
theorem pplace_call (w : World) (x va : Int) (hx : R32 x) (hv : R32 va) : Calls Try.prog 81 #[.int .u32 x, .int .u32 va] w fun e w' => e = .returned (.int .u32 (placeE x va)) ∧ w = w' := by
  have e1 : Go.bits .and .u32 x 2097151 = x % 2097152 := and_mask 21 (by decide) x _ hx rfl
  have e2 : Go.bits .and .u32 va 511 = va % 512 := and_mask 9 (by decide) va _ hv rfl
  have e3 : x % 2097152 * 512 % 4294967296 = x % 2097152 * 512 := by omega
  have e4 : Go.bits .or .u32 (x % 2097152 * 512) (va % 512) = x % 2097152 * 512 + va % 512 := or_low 9 (x % 2097152) (va % 512) (by omega) (by omega) (show va % 512 < 512 by omega) (show x % 2097152 * 512 + va % 512 < 4294967296 by omega)
  go_enter Try.func81, Try.ntmps81
  go_wp2
  go_ret
  exact ⟨rfl, rfl⟩
theorem pis_call (w : World) (x : Int) (hx : R32 x) : Calls Try.prog 91 #[.int .u32 x] w fun e w' => e = .returned (.bool (isE x)) ∧ w = w' := by
  have e1 : (Go.bits .and .u32 x 2147483648 != 0) = isE x := and_flag 31 (by decide) x _ hx rfl
  go_enter Try.func91, Try.ntmps91
  go_wp2
  go_ret
  exact ⟨rfl, rfl⟩
theorem pwr_call (w : World) (x : Int) (hx : R32 x) : Calls Try.prog 85 #[.int .u32 x] w fun e w' => e = .returned (.bool (wrE x)) ∧ w = w' := by
  have e1 : (Go.bits .and .u32 x 67108864 != 0) = wrE x := and_flag 26 (by decide) x _ hx rfl
  go_enter Try.func85, Try.ntmps85
  go_wp2
  go_ret
  exact ⟨rfl, rfl⟩
theorem pprot_call (w : World) (x : Int) (hx : R32 x) : Calls Try.prog 93 #[.int .u32 x] w fun e w' => e = .returned (.int .i64 (protE x)) ∧ w = w' := by
  have e1 : Go.bits .and .u32 (x / 134217728) 3 = protE x := and_mask 2 (by decide) (x / 134217728) _ (by unfold R32 at *; omega) rfl
  have e2 : wrap64 (protE x) = protE x := by unfold protE; exact wrap64_in (by omega) (by omega)
  go_enter Try.func93, Try.ntmps93
  go_wp2
  go_ret
  refine ⟨?_, rfl⟩
  show Ending.returned (Value.int .i64 (wrap64 (protE x))) = _
  rw [e2]
theorem pmay_call (w : World) (x : Int) (user wr : Bool) (hx : R32 x) : Calls Try.prog 90 #[.int .u32 x, .bool user, .bool wr] w fun e w' => e = .returned (.bool (mayE x user wr)) ∧ w = w' := by
  have P := Aside0.mk (pprot_call w x hx)
  unfold mayE
  generalize protE x = p at *
  cases user <;> cases wr
  all_goals
    go_enter Try.func90, Try.ntmps90
    go_wp2_with (first | (go_at_call 93; (with_reducible refine (P.out).mono ?_); rintro e w1 ⟨rfl, rfl⟩))
    go_ret
    refine ⟨?_, rfl⟩
    first | rfl | simp
/-- A fault: its kind, its address, what it was. -/
abbrev Flt := Int × Int × Int
def fltV (f : Flt) : Value := .agg #[.int .i64 f.1, .int .u32 f.2.1, .int .u32 f.2.2]
def noF : Flt := (0, 0, 0)
def flt (k va i : Int) (wr : Bool) : Flt := (k, va, if wr = true then i + 4 else i)
theorem infoF : (Try.prog.info? 47).map (·.size) = some 3 := by kernel_rfl
theorem fault_call (w : World) (va : Int) (u wr : Bool) (k i : Int) (hi : i = 0 ∨ i = 1) : Calls Try.prog 83 #[.agg #[.int .u32 va, .bool u, .bool wr], .int .i64 k, .int .u32 i] w fun e w' => e = .returned (fltV (flt k va i wr)) ∧ Below w.heap.size w w' := by
  have o1 : Go.bits .or .u32 0 4 = 4 := by decide +kernel
  have o2 : Go.bits .or .u32 1 4 = 5 := by decide +kernel
  rcases hi with rfl | rfl <;> cases wr
  all_goals
    go_enter Try.func83, Try.ntmps83
    go_wp2
    refine bodyPost_ret (results_cell_row rfl _ _ (w.heap.size + 1) 47 _ (0, 0) _ rfl (heap_alloc2_new _ _ _) Try.underlying47 rfl infoF) rfl ⟨rfl, below_alloc (below_alloc (Below.refl _ _) _) _⟩
end Go.Proofs.Ytiogbgjeimdgmaa.MmuWalk
