/- The MMU's pieces: what they are, and one round of its loop. -/
import Derived.Test.YtiogbgjeimdgmaaMmuI
namespace Go.Proofs.Ytiogbgjeimdgmaa.MmuWalk
open Go.RowKit Go.Proofs.Ytiogbgjeimdgmaa.Aid Go.Proofs.YtiogbgjeimdgmaaW.PrintWords Go.Proofs.YtiogbgjeimdgmaaW.PrintLast Go.Proofs.YtiogbgjeimdgmaaW.PrintMore
open Go.Proofs.Ytiogbgjeimdgmaa.RamWalk (RamAt Bytes leN)
open Go.Proofs.Ytiogbgjeimdgmaa.TlbWalk (TlbAt Kept2 putP dropP posP entP nil2 own_some own_val)
attribute [local go_sem] max2_int min2_int max_two min_two max_three min_three max_four min_four   -- for this text's walks alone
set_option linter.unusedVariables false
set_option linter.unusedSimpArgs false
/-- A piece: its address, where it lies, how many bytes. -/
abbrev Pc := Int × Int × Nat
/-- How many bytes of an address's page are meant. -/
def stepN (va n : Int) : Int := if n < 512 - va % 512 then n else 512 - va % 512
/-- Page by page: from a buffer, an address and a number of bytes on: the pieces, the fault, the buffer behind. -/
inductive Pcs (T : Tabs) (l : List Int) (u wr keep : Bool) : List (Int × Int) → Int → Int → List Pc → Flt → List (Int × Int) → Prop
  | done {ps va n} (h : n ≤ 0) : Pcs T l u wr keep ps va n [] noF ps
  | stop {ps va n} (h : 0 < n) (hf : (findF T ps l va (stepN va n) u wr).2.1 ≠ 0) : Pcs T l u wr keep ps va n [] (findF T ps l va (stepN va n) u wr).2 (findP T ps l va u wr keep)
  | more {ps va n xs f ps'} (h : 0 < n) (hf : (findF T ps l va (stepN va n) u wr).2.1 = 0) (k : Pcs T l u wr keep (findP T ps l va u wr keep) ((va + stepN va n) % 4294967296) (n - stepN va n) xs f ps') :
      Pcs T l u wr keep ps va n (if f.1 = 0 then (va, (findF T ps l va (stepN va n) u wr).1, (stepN va n).toNat) :: xs else []) f ps'
theorem stepN_pos {va n : Int} (h : 0 < n) : 0 < stepN va n ∧ stepN va n ≤ n ∧ stepN va n ≤ 512 := by unfold stepN; split <;> omega
theorem Pcs.det {T : Tabs} {l : List Int} {u wr keep : Bool} {ps : List (Int × Int)} {va n : Int} {xs : List Pc} {f : Flt} {ps' : List (Int × Int)} (h : Pcs T l u wr keep ps va n xs f ps') : ∀ {ys g ps2}, Pcs T l u wr keep ps va n ys g ps2 → ys = xs ∧ g = f ∧ ps2 = ps' := by
  induction h with
  | done h => intro ys g ps2 k; cases k with
    | done _ => exact ⟨rfl, rfl, rfl⟩
    | stop h' _ => omega
    | more h' _ _ => omega
  | stop h hf => intro ys g ps2 k; cases k with
    | done h' => omega
    | stop _ _ => exact ⟨rfl, rfl, rfl⟩
    | more _ hf' _ => exact absurd hf' hf
  | more h hf k ih => intro ys g ps2 k2; cases k2 with
    | done h' => omega
    | stop _ hf' => exact absurd hf hf'
    | more _ _ k3 =>
      obtain ⟨rfl, rfl, rfl⟩ := ih k3
      exact ⟨rfl, rfl, rfl⟩
theorem Pcs.good {T : Tabs} {l : List Int} {u wr keep : Bool} {ps : List (Int × Int)} {va n : Int} {xs : List Pc} {f : Flt} {ps' : List (Int × Int)} (h : Pcs T l u wr keep ps va n xs f ps') : (f.1 = 0 → f = noF) ∧ (f.1 ≠ 0 → xs = []) := by
  induction h with
  | done h => exact ⟨fun _ => rfl, fun h => absurd rfl h⟩
  | stop h hf => exact ⟨fun h => absurd h hf, fun _ => rfl⟩
  | more h hf k ih => exact ⟨ih.1, fun h => by rw [if_neg h]⟩
def pc5 (u wr : Bool) (p : Pc) : List Value := [.int .u32 p.1, .bool u, .bool wr, .int .u32 p.2.1, .int .i64 (p.2.2 : Nat)]
def pcs5 (u wr : Bool) (xs : List Pc) : List Value := xs.flatMap (pc5 u wr)
theorem pcs5_append (u wr : Bool) (a b : List Pc) : pcs5 u wr (a ++ b) = pcs5 u wr a ++ pcs5 u wr b := List.flatMap_append
theorem infoPc : (Try.prog.info? 123).map (fun i => (i.zero, i.size, i.bytes)) = some (some (.agg #[.int .u32 0, .bool false, .bool false, .int .u32 0, .int .i64 0]), 5, 24) := by kernel_rfl
theorem infoPc5 : (Try.prog.info? 123).map (·.size) = some 5 := by kernel_rfl
/-- Rows and boxes of other kinds stay where the MMU is turned. -/
theorem box_ty {W W' : World} {base : Nat} {L : Loc} {v : Value} {T T' : Tabs} {ps ps' : List (Int × Int)} {l l' : List Int} {g : Nat} {cs : Array Value} {ty : TypeId} {fr : Nat × Nat} (m : MmuAt W base L v T ps l) (hg : W.heap[g]? = some (.cells cs ty fr)) (ht : ¬ mTy ty) (s : MStep W W' base L v T' ps' l') : W'.heap[g]? = some (.cells cs ty fr) :=
  (s.chg.block g (Array.getElem?_eq_some_iff.1 hg).1 (fun f => m.ne_ty hg ht g (.inl f) rfl)).trans hg
theorem row_ty {W : World} {base e s n : Nat} {v : Value} {xs : List Value} (h : W.ownsRow base e s v n xs) (i : Nat) (hi : v.ownBlock = some i) : ∃ cur, W.heap[i]? = some (.cells cur e (0, 0)) := by
  rcases h.2 with ⟨rfl, _⟩ | ⟨b, c, cur, rfl, _, hh, _⟩
  · simp [Value.ownBlock] at hi
  · simp only [Value.ownBlock, Option.some.injEq] at hi
    subst hi
    exact ⟨cur, hh⟩
theorem own_ty {W W' : World} {base B e s n : Nat} {L : Loc} {v vo : Value} {T T' : Tabs} {ps ps' : List (Int × Int)} {l l' : List Int} {xs : List Value} (m : MmuAt W base L v T ps l) (ho : W.ownsRow B e s vo n xs) (ht : ¬ mTy e) (st : MStep W W' base L v T' ps' l') : W'.ownsRow B e s vo n xs :=
  own_keep ho fun i hi => by
    obtain ⟨cur, hc⟩ := row_ty ho i hi
    exact st.chg.block i (Array.getElem?_eq_some_iff.1 hc).1 (fun f => m.ne_ty hc ht i (.inl f) rfl)
/-- A row of the call's own grows. -/
theorem MStep.grown {w W W' : World} {base e s n : Nat} {L : Loc} {v vo : Value} {T : Tabs} {ps : List (Int × Int)} {l : List Int} {xs : List Value} (st : MStep w W base L v T ps l) (ho : W.ownsRow w.heap.size e s vo n xs) (ht : ¬ mTy e) (g : W.grownBy W' vo.ownBlock) : MStep w W' base L v T ps l := by
  obtain ⟨⟨v1, m, n1⟩, c⟩ := st
  refine ⟨⟨v1, m.keep (fun i hi => g.block i (by obtain ⟨cs, ty, h', _⟩ := m.types i hi; exact (Array.getElem?_eq_some_iff.1 h').1) (fun e' => ?_)), n1⟩, ⟨g.os.trans c.os, g.tape.trans c.tape, g.output.trans c.output, Nat.le_trans c.size g.size, fun i hi hf => (g.block i (Nat.lt_of_lt_of_le hi c.size) (fun e' => ?_)).trans (c.block i hi hf)⟩⟩
  · obtain ⟨cur, hc⟩ := row_ty ho i e'.symm
    exact m.ne_ty hc ht i hi rfl
  · rcases ho.2 with ⟨rfl, _⟩ | ⟨b, cc, cur, rfl, hb, _⟩
    · simp [Value.ownBlock] at e'
    · simp only [Value.ownBlock, Option.some.injEq] at e'
      omega
end Go.Proofs.Ytiogbgjeimdgmaa.MmuWalk
