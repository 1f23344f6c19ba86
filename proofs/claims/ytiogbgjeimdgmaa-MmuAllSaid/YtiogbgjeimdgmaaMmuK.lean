/- The MMU's pieces, walked. -/
import Derived.Test.YtiogbgjeimdgmaaMmuJ
namespace Go.Proofs.Ytiogbgjeimdgmaa.MmuWalk
open Go.RowKit Go.Proofs.Ytiogbgjeimdgmaa.Aid Go.Proofs.YtiogbgjeimdgmaaW.PrintWords Go.Proofs.YtiogbgjeimdgmaaW.PrintLast Go.Proofs.YtiogbgjeimdgmaaW.PrintMore
open Go.Proofs.Ytiogbgjeimdgmaa.RamWalk (RamAt Bytes leN)
open Go.Proofs.Ytiogbgjeimdgmaa.TlbWalk (TlbAt Kept2 putP dropP posP entP nil2 own_some own_val own_then)
attribute [local go_sem] max2_int min2_int max_two min_two max_three min_three max_four min_four   -- for this text's walks alone
set_option linter.unusedVariables false
set_option linter.unusedSimpArgs false
theorem mine_lt' {W : World} {base : Nat} {L : Loc} {v : Value} {T : Tabs} {ps : List (Int × Int)} {l : List Int} (h : MmuAt W base L v T ps l) (i : Nat) (k : mine L v i) : i < W.heap.size := by
  obtain ⟨cs, ty, h', _⟩ := h.types i k
  exact (Array.getElem?_eq_some_iff.1 h').1
theorem fill_row' {W : World} {g : Nat} {a b c : Value} (h : W.heap[g]? = some (.cells #[a, b, c] 47 (0, 0))) (x y z : Value) : (((W.setCell ⟨g, 0, none⟩ x).setCell ⟨g, 1, none⟩ y).setCell ⟨g, 2, none⟩ z).heap[g]? = some (.cells #[x, y, z] 47 (0, 0)) :=
  blk_put (blk_put (blk_put h 0 x rfl) 1 y rfl) 2 z rfl
/-- Boxes of other kinds, made by the call itself, are stored into. -/
theorem MStep.other {w W W' : World} {base : Nat} {L : Loc} {v : Value} {T : Tabs} {ps : List (Int × Int)} {l : List Int} {S : Nat → Prop} (st : MStep w W base L v T ps l) (c : Chg S W W') (hS : ∀ i, S i → w.heap.size ≤ i ∧ ∃ cs ty fr, W.heap[i]? = some (.cells cs ty fr) ∧ ¬ mTy ty) : MStep w W' base L v T ps l := by
  obtain ⟨⟨v1, m, n1⟩, k⟩ := st
  refine ⟨⟨v1, m.keep (fun i hi => c.block i (mine_lt' m i hi) (fun e => ?_)), n1⟩, k.trans c (fun i hi e => absurd (hS i e).1 (by omega))⟩
  obtain ⟨_, cs, ty, fr, h, ht⟩ := hS i e
  exact m.ne_ty h ht i hi rfl
theorem MStep.via {W W1 W2 : World} {base : Nat} {L : Loc} {v v1 : Value} {T : Tabs} {ps : List (Int × Int)} {l : List Int} (b : Chg (foot L v) W W1) (n : NextRow W v v1) (h : MStep W1 W2 base L v1 T ps l) : MStep W W2 base L v T ps l := by
  obtain ⟨⟨v2, m2, n2⟩, c2⟩ := h
  exact ⟨⟨v2, m2, n.trans n2 b.size⟩, b.trans c2 (fun i hi f => foot_of n i hi f)⟩
theorem put4_chg (W : World) (a b : Nat) (x0 x y z : Value) : Chg (fun i => i = a ∨ i = b) W ((((W.setCell ⟨a, 3, none⟩ x0).setCell ⟨b, 0, none⟩ x).setCell ⟨b, 1, none⟩ y).setCell ⟨b, 2, none⟩ z) :=
  ⟨rfl, rfl, rfl, by simp [World.setCell], fun i hi hf => (Below.heap_setCell _ ⟨b, 2, none⟩ z i (fun e => hf (.inr e))).trans ((Below.heap_setCell _ ⟨b, 1, none⟩ y i (fun e => hf (.inr e))).trans ((Below.heap_setCell _ ⟨b, 0, none⟩ x i (fun e => hf (.inr e))).trans (Below.heap_setCell W ⟨a, 3, none⟩ x0 i (fun e => hf (.inl e)))))⟩
theorem pput (W : World) {a b : Nat} {va j pa fk fv fi : Int} {u wt : Bool} {z0 z1 z2 : Value} (hab : a ≠ b) (ha : W.heap[a]? = some (.cells #[.int .u32 va, .bool u, .bool wt, .int .u32 0, .int .i64 j] 123 (0, 0))) (hb : W.heap[b]? = some (.cells #[z0, z1, z2] 47 (0, 0))) :
    ((((W.setCell ⟨a, 3, none⟩ (.int .u32 pa)).setCell ⟨b, 0, none⟩ (.int .i64 fk)).setCell ⟨b, 1, none⟩ (.int .u32 fv)).setCell ⟨b, 2, none⟩ (.int .u32 fi)).heap[a]? = some (.cells #[.int .u32 va, .bool u, .bool wt, .int .u32 pa, .int .i64 j] 123 (0, 0)) ∧
    ((((W.setCell ⟨a, 3, none⟩ (.int .u32 pa)).setCell ⟨b, 0, none⟩ (.int .i64 fk)).setCell ⟨b, 1, none⟩ (.int .u32 fv)).setCell ⟨b, 2, none⟩ (.int .u32 fi)).heap[b]? = some (.cells #[.int .i64 fk, .int .u32 fv, .int .u32 fi] 47 (0, 0)) := by
  have e1 : (W.setCell ⟨a, 3, none⟩ (.int .u32 pa)).heap[a]? = some (.cells #[.int .u32 va, .bool u, .bool wt, .int .u32 pa, .int .i64 j] 123 (0, 0)) := blk_put ha 3 _ rfl
  have e2 : (W.setCell ⟨a, 3, none⟩ (.int .u32 pa)).heap[b]? = some (.cells #[z0, z1, z2] 47 (0, 0)) := (Below.heap_setCell W ⟨a, 3, none⟩ _ b (fun e => hab e.symm)).trans hb
  generalize W.setCell ⟨a, 3, none⟩ (.int .u32 pa) = V at *
  exact ⟨(Below.heap_setCell _ ⟨b, 2, none⟩ _ a hab).trans ((Below.heap_setCell _ ⟨b, 1, none⟩ _ a hab).trans ((Below.heap_setCell V ⟨b, 0, none⟩ _ a hab).trans e1)), fill_row' e2 _ _ _⟩
/-- At the head of the loop of pieces. -/
structure PHead (w wr : World) (base : Nat) (L : Loc) (v : Value) (T : Tabs) (ps0 : List (Int × Int)) (l : List Int) (u wr_ keep : Bool) (va0 n0 va n : Int) (vo : Value) (acc : List Pc) (ps : List (Int × Int)) : Prop where
  st : MStep w wr base L v T ps l
  box : wr.heap[w.heap.size]? = some (.cells #[.int .i64 0, .int .u32 0, .int .u32 0] 47 (0, 0))
  row : wr.ownsRow w.heap.size 123 5 vo acc.length (pcs5 u wr_ acc)
  vr : R32 va
  n1 : n ≤ n0
  n2 : acc.length + n ≤ n0 ∨ (acc = [] ∧ n ≤ 0)
  n3 : 0 ≤ n ∨ n = n0
  go : ∀ xs f ps', Pcs T l u wr_ keep ps va n xs f ps' → Pcs T l u wr_ keep ps0 va0 n0 (if f.1 = 0 then acc ++ xs else []) f ps'
theorem pvals {w wr W w2 : World} {base : Nat} {L : Loc} {v v1 vo : Value} {T : Tabs} {ps0 ps ps2 : List (Int × Int)} {l : List Int} {u wt keep : Bool} {va0 n0 va n pa fk fv fi : Int} {acc : List Pc} {jn : Nat} (P : PHead w wr base L v T ps0 l u wt keep va0 n0 va n vo acc ps) (nx : NextRow w v v1)
    (BB : Below wr.heap.size wr W ∧ W.heap[wr.heap.size]? = some (.cells #[.int .u32 va, .bool u, .bool wt, .int .u32 0, .int .i64 jn] 123 (0, 0)) ∧ W.heap[wr.heap.size + 1]? = some (.cells #[.int .i64 0, .int .u32 0, .int .u32 0] 47 (0, 0))) (hsz : W.heap.size = wr.heap.size + 2) (m : MmuAt W base L v1 T ps l) (s : MStep W w2 base L v1 T ps2 l)
    (a15 : w2.heap[wr.heap.size]? = some (.cells #[.int .u32 va, .bool u, .bool wt, .int .u32 0, .int .i64 jn] 123 (0, 0))) (a16 : w2.heap[wr.heap.size + 1]? = some (.cells #[.int .i64 0, .int .u32 0, .int .u32 0] 47 (0, 0))) :
    MStep w ((((w2.setCell ⟨wr.heap.size, 3, none⟩ (.int .u32 pa)).setCell ⟨wr.heap.size + 1, 0, none⟩ (.int .i64 fk)).setCell ⟨wr.heap.size + 1, 1, none⟩ (.int .u32 fv)).setCell ⟨wr.heap.size + 1, 2, none⟩ (.int .u32 fi)) base L v T ps2 l ∧
    ((((w2.setCell ⟨wr.heap.size, 3, none⟩ (.int .u32 pa)).setCell ⟨wr.heap.size + 1, 0, none⟩ (.int .i64 fk)).setCell ⟨wr.heap.size + 1, 1, none⟩ (.int .u32 fv)).setCell ⟨wr.heap.size + 1, 2, none⟩ (.int .u32 fi)).heap[wr.heap.size]? = some (.cells #[.int .u32 va, .bool u, .bool wt, .int .u32 pa, .int .i64 jn] 123 (0, 0)) ∧
    ((((w2.setCell ⟨wr.heap.size, 3, none⟩ (.int .u32 pa)).setCell ⟨wr.heap.size + 1, 0, none⟩ (.int .i64 fk)).setCell ⟨wr.heap.size + 1, 1, none⟩ (.int .u32 fv)).setCell ⟨wr.heap.size + 1, 2, none⟩ (.int .u32 fi)).heap[wr.heap.size + 1]? = some (.cells #[.int .i64 fk, .int .u32 fv, .int .u32 fi] 47 (0, 0)) ∧
    ((((w2.setCell ⟨wr.heap.size, 3, none⟩ (.int .u32 pa)).setCell ⟨wr.heap.size + 1, 0, none⟩ (.int .i64 fk)).setCell ⟨wr.heap.size + 1, 1, none⟩ (.int .u32 fv)).setCell ⟨wr.heap.size + 1, 2, none⟩ (.int .u32 fi)).heap[w.heap.size]? = some (.cells #[.int .i64 0, .int .u32 0, .int .u32 0] 47 (0, 0)) ∧
    ((((w2.setCell ⟨wr.heap.size, 3, none⟩ (.int .u32 pa)).setCell ⟨wr.heap.size + 1, 0, none⟩ (.int .i64 fk)).setCell ⟨wr.heap.size + 1, 1, none⟩ (.int .u32 fv)).setCell ⟨wr.heap.size + 1, 2, none⟩ (.int .u32 fi)).ownsRow w.heap.size 123 5 vo acc.length (pcs5 u wt acc) := by
  have C := put4_chg w2 wr.heap.size (wr.heap.size + 1) (.int .u32 pa) (.int .i64 fk) (.int .u32 fv) (.int .u32 fi)
  have PP := pput w2 (pa := pa) (fk := fk) (fv := fv) (fi := fi) (by omega) a15 a16
  generalize ((((w2.setCell ⟨wr.heap.size, 3, none⟩ (.int .u32 pa)).setCell ⟨wr.heap.size + 1, 0, none⟩ (.int .i64 fk)).setCell ⟨wr.heap.size + 1, 1, none⟩ (.int .u32 fv)).setCell ⟨wr.heap.size + 1, 2, none⟩ (.int .u32 fi)) = V at *
  have hs := P.st.chg.size
  have hbl : w.heap.size < wr.heap.size := (Array.getElem?_eq_some_iff.1 P.box).1
  have MW : MStep w w2 base L v T ps2 l := MStep.via P.st.chg nx (MStep.after BB.1 s)
  have b2 : w2.heap[w.heap.size]? = some (.cells #[.int .i64 0, .int .u32 0, .int .u32 0] 47 (0, 0)) := box_ty m (row_then P.box BB.1) (by unfold mTy; decide) s
  have o2 : w2.ownsRow w.heap.size 123 5 vo acc.length (pcs5 u wt acc) := own_ty m (own_then P.row BB.1) (by unfold mTy; decide) s
  refine ⟨MStep.other MW C (fun i hi => ?_), PP.1, PP.2, (C.block _ (Array.getElem?_eq_some_iff.1 b2).1 (fun e => by omega)).trans b2, own_keep o2 (fun i hi => C.block i ?_ (fun e => ?_))⟩
  · rcases hi with rfl | rfl
    · exact ⟨hs, _, _, _, a15, by unfold mTy; decide⟩
    · exact ⟨by omega, _, _, _, a16, by unfold mTy; decide⟩
  · obtain ⟨cur, hc⟩ := row_ty o2 i hi
    exact (Array.getElem?_eq_some_iff.1 hc).1
  · obtain ⟨cur, hc⟩ := row_ty P.row i hi
    have := (Array.getElem?_eq_some_iff.1 hc).1
    omega
theorem own_ne {w wr V w5 : World} {base n : Nat} {vo : Value} {xs : List Value} {c d e : Array Value} (ho : wr.ownsRow base 123 5 vo n xs) (g : V.grownBy w5 vo.ownBlock) (h : V.heap[wr.heap.size]? = some (.cells c 123 (0, 0))) (b : wr.heap[w.heap.size]? = some (.cells d 47 (0, 0))) (b' : V.heap[w.heap.size]? = some (.cells e 47 (0, 0))) :
    w5.heap[wr.heap.size]? = some (.cells c 123 (0, 0)) ∧ w5.heap[w.heap.size]? = some (.cells e 47 (0, 0)) := by
  refine ⟨(g.block _ (Array.getElem?_eq_some_iff.1 h).1 (fun q => ?_)).trans h, (g.block _ (Array.getElem?_eq_some_iff.1 b').1 (fun q => ?_)).trans b'⟩
  · obtain ⟨cur, hc⟩ := row_ty ho _ q.symm
    exact absurd (Array.getElem?_eq_some_iff.1 hc).1 (Nat.lt_irrefl _)
  · obtain ⟨cur, hc⟩ := row_ty ho _ q.symm
    rw [b] at hc
    simp at hc
theorem papp {w wr V w5 : World} {base : Nat} {L : Loc} {v vo : Value} {T : Tabs} {ps0 ps ps2 : List (Int × Int)} {l : List Int} {u wt keep : Bool} {va0 n0 va n pa : Int} {acc : List Pc} {jn : Nat} {c3 : Array Value} (P : PHead w wr base L v T ps0 l u wt keep va0 n0 va n vo acc ps) (s : MStep w V base L v T ps2 l)
    (h1 : V.heap[wr.heap.size]? = some (.cells #[.int .u32 va, .bool u, .bool wt, .int .u32 pa, .int .i64 jn] 123 (0, 0))) (h3 : V.heap[w.heap.size]? = some (.cells c3 47 (0, 0))) (o : V.ownsRow w.heap.size 123 5 vo acc.length (pcs5 u wt acc)) (hg : V.grownBy w5 vo.ownBlock) :
    MStep w w5 base L v T ps2 l ∧ w5.heap[wr.heap.size]? = some (.cells #[.int .u32 va, .bool u, .bool wt, .int .u32 pa, .int .i64 jn] 123 (0, 0)) ∧ w5.heap[w.heap.size]? = some (.cells c3 47 (0, 0)) :=
  ⟨MStep.grown s o (by unfold mTy; decide) hg, own_ne P.row hg h1 P.box h3⟩
theorem papp4 {w5 : World} {a : Nat} {va pa : Int} {u wt : Bool} {jn : Nat} (h : w5.heap[a]? = some (.cells #[.int .u32 va, .bool u, .bool wt, .int .u32 pa, .int .i64 jn] 123 (0, 0))) : w5.cell? ⟨a, 4, none⟩ = some (.int .i64 jn) := cell_of_row _ _ 4 _ _ _ h
theorem MStep.drew {w W : World} {base : Nat} {L : Loc} {v : Value} {T : Tabs} {ps : List (Int × Int)} {l : List Int} (h : MStep w W base L v T ps l) : MStep w W.drew base L v T ps l := by
  obtain ⟨⟨v1, m, n⟩, c⟩ := h
  exact ⟨⟨v1, m.keep (fun _ _ => rfl), n⟩, ⟨c.os, c.tape, c.output, c.size, c.block⟩⟩
theorem PHead.drew {w wr : World} {base : Nat} {L : Loc} {v vo : Value} {T : Tabs} {ps0 ps : List (Int × Int)} {l : List Int} {u wt keep : Bool} {va0 n0 va n : Int} {acc : List Pc} (h : PHead w wr base L v T ps0 l u wt keep va0 n0 va n vo acc ps) : PHead w wr.drew base L v T ps0 l u wt keep va0 n0 va n vo acc ps :=
  ⟨h.st.drew, h.box, h.row, h.vr, h.n1, h.n2, h.n3, h.go⟩
theorem PHead.next {w wr w5 : World} {base : Nat} {L : Loc} {v vo vo' : Value} {T : Tabs} {ps0 ps ps2 : List (Int × Int)} {l : List Int} {u wt keep : Bool} {va0 n0 va n pa : Int} {acc : List Pc} {jn : Nat} (P : PHead w wr base L v T ps0 l u wt keep va0 n0 va n vo acc ps) (hn : 0 < n) (hn6 : n0 ≤ 65536) (hj : (jn : Int) = stepN va n) (j1 : 0 < stepN va n) (j2 : stepN va n ≤ n)
    (fm : ∀ xs f ps', 0 < n → True → Pcs T l u wt keep ps2 ((va + jn) % 4294967296) (n - jn) xs f ps' → Pcs T l u wt keep ps va n (if f.1 = 0 then (va, pa, (jn : Int).toNat) :: xs else []) f ps')
    (s : MStep w w5 base L v T ps2 l) (b : w5.heap[w.heap.size]? = some (.cells #[.int .i64 0, .int .u32 0, .int .u32 0] 47 (0, 0))) (o : w5.ownsRow w.heap.size 123 5 vo' (acc.length + 1) (pcs5 u wt acc ++ [.int .u32 va, .bool u, .bool wt, .int .u32 pa, .int .i64 jn])) :
    PHead w w5 base L v T ps0 l u wt keep va0 n0 ((va + jn) % 4294967296) (n - jn) vo' (acc ++ [(va, pa, jn)]) ps2 := by
  refine ⟨s, b, ?_, ⟨by omega, by omega⟩, by have := P.n1; omega, ?_, .inl (by omega), fun xs f ps' k => ?_⟩
  · have e : pcs5 u wt (acc ++ [(va, pa, jn)]) = pcs5 u wt acc ++ [.int .u32 va, .bool u, .bool wt, .int .u32 pa, .int .i64 jn] := by rw [pcs5_append]; simp [pcs5, pc5]
    rw [e, List.length_append]; exact o
  · have := P.n2
    rw [List.length_append]
    left
    rcases this with h | h
    · simp only [List.length_singleton]; omega
    · omega
  · have := P.go _ _ _ (fm xs f ps' hn trivial k)
    by_cases hf : f.1 = 0
    · rw [if_pos hf] at this ⊢
      rw [if_pos hf, Int.toNat_natCast] at this
      rw [List.append_assoc]; exact this
    · rw [if_neg hf] at this ⊢
      exact this
set_option maxRecDepth 100000 in
set_option maxHeartbeats 4000000 in
theorem pieces_call (w : World) (base : Nat) (L : Loc) (v : Value) (T : Tabs) (ps : List (Int × Int)) (l : List Int) (va n : Int) (u wt keep : Bool) (hv : R32 va) (hn : n ≤ 65536) (hn0 : -9223372036854775808 ≤ n) (h : MmuAt w base L v T ps l) :
    Calls Try.prog 68 #[.pointer (some ⟨L.m, 0, none⟩), .int .u32 va, .int .i64 n, .bool u, .bool wt, .bool keep] w fun e w' => ∃ A c xs f ps', Pcs T l u wt keep ps va n xs f ps' ∧ e = .returned (.tuple #[.slice A xs.length c, fltV f]) ∧ MStep w w' base L v T ps' l ∧ w'.ownsRow w.heap.size 123 5 (.slice A xs.length c) xs.length (pcs5 u wt xs) := by
  have M := Aside0.mk h
  have HV := Aside0.mk hv
  have HN := Aside0.mk (And.intro hn hn0)
  have BX := Aside0.mk (box1 w (.cells #[.int .i64 0, .int .u32 0, .int .u32 0] 47 (0, 0)))
  clear h hv hn hn0
  go_enter Try.func68, Try.ntmps68
  go_wp2_with fail
  go_loopw [1, 2, 14] (fun v1 v2 v14 wq => ∃ va' n' acc ps', v1 = .int .u32 va' ∧ v2 = .int .i64 n' ∧ Aside0 (PHead w wq base L v T ps l u wt keep va n va' n' v14 acc ps')) (fun _ v2 _ _ => (intOf v2).toNat)
  case atStart =>
    refine ⟨va, n, [], ps, rfl, rfl, ⟨⟨MStep.of_below M.out BX.out.1, BX.out.2, World.ownsRow_nil _ _ _ _, HV.out, Int.le_refl _, ?_, .inr rfl, fun xs f ps' k => ?_⟩⟩⟩
    · by_cases hn : n ≤ 0
      · exact .inr ⟨rfl, hn⟩
      · exact .inl (by simp)
    · have := k.good.2
      by_cases hf : f.1 = 0
      · rw [if_pos hf]; exact k
      · rw [if_neg hf]; have e := this hf; subst e; exact k
  case round =>
    obtain ⟨va', n', acc, ps', rfl, rfl, P⟩ := hrel
    by_cases hn : n' ≤ 0
    · have hn1 : ¬ 0 < n' := by omega
      have G := Aside0.mk (P.out.go [] noF ps' (Pcs.done hn))
      clear hn
      obtain ⟨A14, c14, rfl⟩ := own_val P.out.row
      go_wp2_with (first
        | (refine wpList_store_row rfl 47 (.tmp 13) (.tmp 59) rfl w.heap.size #[.int .i64 0, .int .u32 0, .int .u32 0] rfl rfl _ _ P.out.box infoF rfl (by kernel_rfl) ?_))
      refine bodyPost_ret (results_tc rfl _ _ w.heap.size 47 #[.int .i64 0, .int .u32 0, .int .u32 0] (0, 0) _ rfl (setRow_heap _ _ _ _ 47 _ P.out.box) Try.underlying47 rfl infoF) rfl ⟨A14, c14, acc, 0, 0, 0, ps', by have := G.out; rw [if_pos (show noF.1 = 0 from rfl), List.append_nil] at this; exact this, rfl, MStep.setRow P.out.st (Nat.le_refl _) P.out.box (by unfold mTy; decide) _, own_keep P.out.row (fun i hi => setRow_other _ _ i _ (fun e => by obtain ⟨cur, hc⟩ := row_ty P.out.row i hi; rw [e, P.out.box] at hc; simp at hc))⟩
    · have hn1 : 0 < n' := by omega
      obtain ⟨j1, j2, j3⟩ := stepN_pos (va := va') hn1
      obtain ⟨r, hr⟩ : ∃ r, va' % 512 = r := ⟨_, rfl⟩
      have hr0 : 0 ≤ r ∧ r < 512 := by omega
      have hv0 : 0 ≤ va' := P.out.vr.1
      have hr1 : Int.tmod va' 512 = r := by rw [Int.tmod_eq_emod_of_nonneg hv0, hr]
      have hr2 : wrap64 r = r := wrap64_in (by omega) (by omega)
      have hr3 : wrap64 (512 - r) = 512 - r := wrap64_in (by omega) (by omega)
      obtain ⟨jn, hjn⟩ : ∃ jn : Nat, (jn : Int) = stepN va' n' := ⟨(stepN va' n').toNat, by omega⟩
      have hj : (if 512 - r < n' then 512 - r else n') = (jn : Int) := by rw [hjn]; unfold stepN; split <;> split <;> omega
      have JN := Aside0.mk (And.intro hjn (And.intro j1 (And.intro j2 j3)))
      obtain ⟨v1, m1, nx1⟩ := P.out.st.at_
      have BB := box2 wr (.cells #[.int .u32 va', .bool u, .bool wt, .int .u32 0, .int .i64 jn] 123 (0, 0)) (.cells #[.int .i64 0, .int .u32 0, .int .u32 0] 47 (0, 0))
      obtain ⟨W, hW⟩ : ∃ W, (wr.alloc (.cells #[.int .u32 va', .bool u, .bool wt, .int .u32 0, .int .i64 jn] 123 (0, 0))).alloc (.cells #[.int .i64 0, .int .u32 0, .int .u32 0] 47 (0, 0)) = W := ⟨_, rfl⟩
      rw [hW] at BB
      have BB := Aside0.mk BB
      have M1 := Aside0.mk (m1.then BB.out.1)
      have d0 := cell_of_row _ _ 0 _ _ _ BB.out.2.1
      have d1 := cell_of_row _ _ 1 _ _ _ BB.out.2.1
      have d2 := cell_of_row _ _ 2 _ _ _ BB.out.2.1
      have d4 := cell_of_row _ _ 4 _ _ _ BB.out.2.1
      simp only [List.getElem?_toArray, List.getElem?_cons_zero, List.getElem?_cons_succ] at d0 d1 d2 d4
      have FD := Aside0.mk (find_call W base L v1 T ps' l va' jn u wt keep P.out.vr (by omega) M1.out)
      have FG := Aside0.mk (@findF_fit T ps' l va' jn u wt)
      have FX := Aside0.mk (fun (h : 0 < n') => @Pcs.stop T l u wt keep ps' va' n' h)
      have FM := Aside0.mk (fun xs f ps2 (h : 0 < n') => @Pcs.more T l u wt keep ps' va' n' xs f ps2 h)
      rw [← hjn] at FX FM
      unfold accV fltV at FD
      generalize findP T ps' l va' u wt keep = ps2 at *
      generalize findF T ps' l va' jn u wt = res at *
      obtain ⟨pa, fk, fv, fi⟩ := res
      have HN1 := Aside0.mk hn1
      have NX1 := Aside0.mk nx1
      have hw4 : wrap64 (n' - jn) = n' - jn := by have := HN.out; have := P.out.n1; exact wrap64_in (by omega) (by omega)
      have hw5 : (jn : Int) % 4294967296 = jn := by omega
      clear m1 nx1 j1 j2 j3 hjn hr hr0
      have hsz : W.heap.size = wr.heap.size + 2 := by rw [← hW]; simp [World.alloc_eq]
      have HSZ := Aside0.mk hsz
      clear hsz
      have hww : ¬ wr.heap.size + 1 = w.heap.size := by have := P.out.st.chg.size; omega
      by_cases hk : fk = 0
      · subst hk
        have JP := Aside0.mk (show 0 < n' from hn1)
        go_wp2_with (first
          | (go_at_call 66; (with_reducible refine (FD.out).mono ?_); rintro e w2 ⟨rfl, s⟩; have S2 := Aside0.mk s; have A15 := Aside0.mk (box_ty M1.out BB.out.2.1 (by unfold mTy; decide) s); have A16 := Aside0.mk (box_ty M1.out BB.out.2.2 (by unfold mTy; decide) s); have e3 := cell_of_row _ _ 3 _ _ _ A15.out; have f3 := frozen_of_row _ _ 3 _ _ A15.out; have z0 := cell_of_row _ _ 0 _ _ _ A16.out; have z1 := cell_of_row _ _ 1 _ _ _ A16.out; have z2 := cell_of_row _ _ 2 _ _ _ A16.out; have g0 := frozen_of_row _ _ 0 _ _ A16.out; have g1 := frozen_of_row _ _ 1 _ _ A16.out; have g2 := frozen_of_row _ _ 2 _ _ A16.out; clear s; obtain ⟨V, hV⟩ : ∃ V, ((((w2.setCell ⟨wr.heap.size, 3, none⟩ (.int .u32 pa)).setCell ⟨wr.heap.size + 1, 0, none⟩ (.int .i64 0)).setCell ⟨wr.heap.size + 1, 1, none⟩ (.int .u32 fv)).setCell ⟨wr.heap.size + 1, 2, none⟩ (.int .u32 fi)) = V := ⟨_, rfl⟩; have PV := Aside0.mk (hV ▸ pvals P.out NX1.out BB.out HSZ.out M1.out S2.out A15.out A16.out (pa := pa) (fk := 0) (fv := fv) (fi := fi)); have x0 := cell_of_row _ _ 0 _ _ _ PV.out.2.2.1; have x1 := cell_of_row _ _ 1 _ _ _ PV.out.2.2.1; have x2 := cell_of_row _ _ 2 _ _ _ PV.out.2.2.1; have a0 := cell_of_row _ _ 0 _ _ _ PV.out.2.1; have a1 := cell_of_row _ _ 1 _ _ _ PV.out.2.1; have a2 := cell_of_row _ _ 2 _ _ _ PV.out.2.1; have a3 := cell_of_row _ _ 3 _ _ _ PV.out.2.1; have a4 := cell_of_row _ _ 4 _ _ _ PV.out.2.1; have r0 := cell_of_row _ _ 0 _ _ _ PV.out.2.2.2.1; have r1 := cell_of_row _ _ 1 _ _ _ PV.out.2.2.2.1; have r2 := cell_of_row _ _ 2 _ _ _ PV.out.2.2.2.1; have h0 := frozen_of_row _ _ 0 _ _ PV.out.2.2.2.1; have h1 := frozen_of_row _ _ 1 _ _ PV.out.2.2.2.1; have h2 := frozen_of_row _ _ 2 _ _ PV.out.2.2.2.1; simp only [List.getElem?_toArray, List.getElem?_cons_zero, List.getElem?_cons_succ] at x0 x1 x2 a0 a1 a2 a3 a4 r0 r1 r2)
          | (at_builtin; refine print_append_cells (w0 := V) (W := V) w.heap.size rfl (.tmp 45) (.tmp 47) 119 123 (.agg #[.int .u32 0, .bool false, .bool false, .int .u32 0, .int .i64 0]) 5 24 rfl Try.underlying119 infoPc rfl (by decide) (by decide) u14 acc.length (pcs5 u wt acc) [.int .u32 va', .bool u, .bool wt, .int .u32 pa, .int .i64 jn] rfl rfl rfl (by simp [Value.oneCell']) PV.out.2.2.2.2 (Below.refl _ _) PV.out.1.chg.size (by have := P.out.n2; have := HN.out; have := HN1.out; omega) ?_; intro v2 w5 ho hb hg hat; obtain ⟨B5, C5, rfl⟩ := own_some ho; have PA := Aside0.mk (papp P.out PV.out.1 PV.out.2.1 PV.out.2.2.2.1 PV.out.2.2.2.2 hg); have O5 := Aside0.mk ho; clear ho hb hg hat a0 a1 a2 a3 a4 x0 x1 x2 r0 r1 r2 h0 h1 h2; have a4 := papp4 PA.out.2.1))
        go_region
        all_goals (
          go_wp2
          rw [hw4]
          go_roundw
          case rel => exact ⟨_, _, acc ++ [(va', pa, jn)], ps2, rfl, rfl, ⟨(PHead.next P.out HN1.out HN.out.1 JN.out.1 JN.out.2.1 JN.out.2.2.1 (FM.out) PA.out.1 PA.out.2.2 O5.out).drew⟩⟩
          case measure => have := JN.out; have := HN1.out; simp [intOf]; omega)
      · have hk' : (fk == 0) = false := beq_eq_false_iff_ne.mpr hk
        have HK := Aside0.mk hk
        clear hk
        go_wp2_with (first
          | (go_at_call 66; (with_reducible refine (FD.out).mono ?_); rintro e w2 ⟨rfl, s⟩; have S2 := Aside0.mk s; have A15 := Aside0.mk (box_ty M1.out BB.out.2.1 (by unfold mTy; decide) s); have A16 := Aside0.mk (box_ty M1.out BB.out.2.2 (by unfold mTy; decide) s); have e3 := cell_of_row _ _ 3 _ _ _ A15.out; have f3 := frozen_of_row _ _ 3 _ _ A15.out; have z0 := cell_of_row _ _ 0 _ _ _ A16.out; have z1 := cell_of_row _ _ 1 _ _ _ A16.out; have z2 := cell_of_row _ _ 2 _ _ _ A16.out; have g0 := frozen_of_row _ _ 0 _ _ A16.out; have g1 := frozen_of_row _ _ 1 _ _ A16.out; have g2 := frozen_of_row _ _ 2 _ _ A16.out; clear s; obtain ⟨V, hV⟩ : ∃ V, ((((w2.setCell ⟨wr.heap.size, 3, none⟩ (.int .u32 pa)).setCell ⟨wr.heap.size + 1, 0, none⟩ (.int .i64 fk)).setCell ⟨wr.heap.size + 1, 1, none⟩ (.int .u32 fv)).setCell ⟨wr.heap.size + 1, 2, none⟩ (.int .u32 fi)) = V := ⟨_, rfl⟩; have PV := Aside0.mk (hV ▸ pvals P.out NX1.out BB.out HSZ.out M1.out S2.out A15.out A16.out (pa := pa) (fk := fk) (fv := fv) (fi := fi)); have x0 := cell_of_row _ _ 0 _ _ _ PV.out.2.2.1; have x1 := cell_of_row _ _ 1 _ _ _ PV.out.2.2.1; have x2 := cell_of_row _ _ 2 _ _ _ PV.out.2.2.1; have a0 := cell_of_row _ _ 0 _ _ _ PV.out.2.1; have a1 := cell_of_row _ _ 1 _ _ _ PV.out.2.1; have a2 := cell_of_row _ _ 2 _ _ _ PV.out.2.1; have a3 := cell_of_row _ _ 3 _ _ _ PV.out.2.1; have a4 := cell_of_row _ _ 4 _ _ _ PV.out.2.1; have r0 := cell_of_row _ _ 0 _ _ _ PV.out.2.2.2.1; have r1 := cell_of_row _ _ 1 _ _ _ PV.out.2.2.2.1; have r2 := cell_of_row _ _ 2 _ _ _ PV.out.2.2.2.1; have h0 := frozen_of_row _ _ 0 _ _ PV.out.2.2.2.1; have h1 := frozen_of_row _ _ 1 _ _ PV.out.2.2.2.1; have h2 := frozen_of_row _ _ 2 _ _ PV.out.2.2.2.1; simp only [List.getElem?_toArray, List.getElem?_cons_zero, List.getElem?_cons_succ] at x0 x1 x2 a0 a1 a2 a3 a4 r0 r1 r2))
        go_region
        all_goals (
          go_wp2
          have G := Aside0.mk (P.out.go [] (fk, fv, fi) ps2 (FX.out HN1.out HK.out))
          refine bodyPost_ret (results_tc rfl _ _ w.heap.size 47 #[.int .i64 fk, .int .u32 fv, .int .u32 fi] (0, 0) _ rfl (flt3_put PV.out.2.2.2.1 _ _ _) Try.underlying47 rfl infoF) rfl ⟨none, 0, [], (fk, fv, fi), ps2, by have := G.out; rwa [if_neg (show ¬ (fk, fv, fi).1 = 0 from HK.out)] at this, rfl, MStep.put3 PV.out.1 (Nat.le_refl _) PV.out.2.2.2.1 (by unfold mTy; decide) _ _ _, World.ownsRow_nil _ _ _ _⟩)
end Go.Proofs.Ytiogbgjeimdgmaa.MmuWalk
