/- The MMU: where what is buffered is what stands in the memory, the buffer tells nothing. Plain. -/
import Derived.Test.YtiogbgjeimdgmaaGMmb
namespace Go.Proofs.Ytiogbgjeimdgmaa.MmuWalk
open Go.RowKit Go.Proofs.Ytiogbgjeimdgmaa.Aid Go.Proofs.YtiogbgjeimdgmaaW.PrintWords Go.Proofs.YtiogbgjeimdgmaaW.PrintLast Go.Proofs.YtiogbgjeimdgmaaW.PrintMore
open Go.Proofs.Ytiogbgjeimdgmaa.RamWalk (RamAt Bytes leN)
open Go.Proofs.Ytiogbgjeimdgmaa.TlbWalk (TlbAt Kept2 putP dropP posP posP_page entP nil2 own_some own_val own_then)
set_option linter.unusedVariables false
set_option linter.unusedSimpArgs false
theorem memF_page (T : Tabs) (l : List Int) (va vb : Int) (w1 w2 : Bool) (h : va / 512 = vb / 512) (h0 : (memF T l va w1).2.1 = 0) : memF T l vb w2 = memF T l va w1 ∧ (memF T l va w1).2 = noF := by
  have e1 : pageE va = pageE vb := by unfold pageE; omega
  have e2 : lenT T va = lenT T vb := by unfold lenT; rw [show va / 2147483648 = vb / 2147483648 by omega]
  have e3 : baseT T va = baseT T vb := by unfold baseT; rw [show va / 2147483648 = vb / 2147483648 by omega]
  have e4 : offE T va = offE T vb := by unfold offE; rw [e1, e2, show va / 1073741824 % 2 = vb / 1073741824 % 2 by omega]
  have e5 : atE T va = atE T vb := by unfold atE; rw [e1, e3]
  unfold memF at h0 ⊢
  rw [e4, e5] at h0 ⊢
  split at h0
  · cases (show (2 : Int) = 0 from h0)
  · rename_i hx
    rw [if_neg hx, if_neg hx]
    split at h0
    · rename_i hl
      rw [if_pos hl, if_pos hl]
      exact ⟨rfl, rfl⟩
    · cases (show (1 : Int) = 0 from h0)
/-- What is buffered stands in the memory. -/
def Cons (T : Tabs) (l : List Int) (ps : List (Int × Int)) : Prop := ∀ p ∈ ps, ∀ va wr, va / 512 = p.1 → memF T l va wr = (p.2, noF)
theorem Cons.nil (T : Tabs) (l : List Int) : Cons T l [] := fun p hp => by cases hp
theorem lookF_cons {T : Tabs} {l : List Int} {ps : List (Int × Int)} (h : Cons T l ps) (va : Int) (wr : Bool) : lookF T ps l va wr = memF T l va wr := by
  unfold lookF entP
  split
  · rename_i hp
    have e := posP_page (va / 512) ps hp
    have hm : ps.getD (posP (va / 512) ps) nil2 ∈ ps := by
      rw [List.getD_eq_getElem?_getD, List.getElem?_eq_getElem hp]; exact List.getElem_mem hp
    exact (h _ hm va wr e.symm).symm
  · rfl
theorem entryF_cons {T : Tabs} {l : List Int} {ps : List (Int × Int)} (h : Cons T l ps) (va : Int) (u wr : Bool) : entryF T ps l va u wr = entryF T [] l va u wr := by
  unfold entryF
  rw [lookF_cons h, lookF_cons (Cons.nil T l)]
theorem findF_cons {T : Tabs} {l : List Int} {ps : List (Int × Int)} (h : Cons T l ps) (va n : Int) (u wr : Bool) : findF T ps l va n u wr = findF T [] l va n u wr := by
  unfold findF
  rw [entryF_cons h]
theorem Cons.sub {T : Tabs} {l : List Int} {ps qs : List (Int × Int)} (h : Cons T l ps) (k : ∀ p ∈ qs, p ∈ ps) : Cons T l qs := fun p hp => h p (k p hp)
theorem Cons.drop {T : Tabs} {l : List Int} {ps : List (Int × Int)} (h : Cons T l ps) (page : Int) : Cons T l (dropP page ps) := by
  refine h.sub fun p hp => ?_
  unfold dropP at hp
  split at hp
  · rcases List.mem_append.1 hp with hp | hp
    · exact List.mem_of_mem_take hp
    · exact List.mem_of_mem_drop hp
  · exact hp
theorem Cons.put {T : Tabs} {l : List Int} {ps : List (Int × Int)} (h : Cons T l ps) (page e : Int) (k : ∀ va wr, va / 512 = page → memF T l va wr = (e, noF)) : Cons T l (putP page e ps) := by
  intro p hp
  unfold putP at hp
  split at hp
  · rcases List.mem_or_eq_of_mem_set hp with hp | rfl
    · exact h p hp
    · exact k
  · rcases List.mem_append.1 hp with hp | hp
    · refine h p ?_
      split at hp
      · exact List.mem_of_mem_drop hp
      · exact hp
    · rw [List.mem_singleton] at hp
      subst hp
      exact k
theorem Cons.find {T : Tabs} {l : List Int} {ps : List (Int × Int)} (h : Cons T l ps) (va : Int) (u wr keep : Bool) : Cons T l (findP T ps l va u wr keep) := by
  unfold findP entryP
  split
  · exact h
  · split
    · rename_i hc
      obtain ⟨h0, -, -⟩ := hc
      refine h.put _ _ fun vb w2 hb => ?_
      unfold entryF at h0 ⊢
      rw [lookF_cons h] at h0 ⊢
      by_cases c : (memF T l va wr).2.1 ≠ 0
      · rw [if_pos c] at h0; exact absurd h0 c
      · have c' : (memF T l va wr).2.1 = 0 := by simpa using c
        rw [if_neg c] at h0 ⊢
        by_cases c2 : mayE (memF T l va wr).1 u wr = false
        · rw [if_pos c2] at h0; cases (show (2 : Int) = 0 from h0)
        · rw [if_neg c2] at h0 ⊢
          by_cases c3 : isE (memF T l va wr).1 = false
          · rw [if_pos c3] at h0; cases (show (3 : Int) = 0 from h0)
          · rw [if_neg c3]
            obtain ⟨e1, e2⟩ := memF_page T l va vb wr w2 hb.symm c'
            rw [e1, ← e2]
    · exact h
/-- From any two buffers that tell the memory's entries: the same pieces, the same fault. -/
theorem Pcs.same {T : Tabs} {l : List Int} {u wr k1 : Bool} {ps : List (Int × Int)} {va n : Int} {xs : List Pc} {f : Flt} {ps' : List (Int × Int)} (h : Pcs T l u wr k1 ps va n xs f ps') : Cons T l ps → Cons T l ps' ∧ ∀ {k2 ps2 ys g ps2'}, Pcs T l u wr k2 ps2 va n ys g ps2' → Cons T l ps2 → ys = xs ∧ g = f := by
  induction h with
  | done h =>
    intro c
    refine ⟨c, fun k _ => ?_⟩
    cases k with
    | done _ => exact ⟨rfl, rfl⟩
    | stop h' _ => omega
    | more h' _ _ => omega
  | stop h hf =>
    intro c
    refine ⟨c.find _ _ _ _, fun k c2 => ?_⟩
    cases k with
    | done h' => omega
    | stop _ _ => exact ⟨rfl, by rw [findF_cons c, findF_cons c2]⟩
    | more _ hf' _ => rw [findF_cons c] at hf; rw [findF_cons c2] at hf'; exact absurd hf' hf
  | more h hf k ih =>
    intro c
    obtain ⟨c', ih2⟩ := ih (c.find _ _ _ _)
    refine ⟨c', fun k2 c2 => ?_⟩
    cases k2 with
    | done h' => omega
    | stop _ hf' => rw [findF_cons c] at hf; rw [findF_cons c2] at hf'; exact absurd hf hf'
    | more _ _ k3 =>
      obtain ⟨rfl, rfl⟩ := ih2 k3 (c2.find _ _ _ _)
      rw [findF_cons c, findF_cons c2]
      exact ⟨rfl, rfl⟩
end Go.Proofs.Ytiogbgjeimdgmaa.MmuWalk
/- The MMU: its calls over one state; alive. -/
namespace Go.Proofs.Ytiogbgjeimdgmaa.MmuWalk
open Go.RowKit Go.Proofs.Ytiogbgjeimdgmaa.Aid Go.Proofs.YtiogbgjeimdgmaaW.PrintWords Go.Proofs.YtiogbgjeimdgmaaW.PrintLast Go.Proofs.YtiogbgjeimdgmaaW.PrintMore
open Go.Proofs.Ytiogbgjeimdgmaa.RamWalk (RamAt Bytes leN new_nat put_i load_n zeros_bytes putL putL_bytes putL_length)
open Go.Proofs.Ytiogbgjeimdgmaa.TlbWalk (TlbAt Kept2 putP dropP posP posP_page entP nil2 own_some own_val own_then)
attribute [local go_sem] max2_int min2_int max_two min_two max_three min_three max_four min_four   -- for this text's walks alone
set_option linter.unusedVariables false
set_option linter.unusedSimpArgs false
theorem foot_ge1 {W : World} {base : Nat} {L : Loc} {v : Value} {T : Tabs} {ps : List (Int × Int)} {l : List Int} (h : MmuAt W base L v T ps l) (i : Nat) (k : foot L v i) : base ≤ i := by
  rcases k with k | k | k | k
  · rw [k]; exact h.ge
  · rw [k]; exact h.tlb.2.1
  · rw [k]; exact own_base h.ram.2.2.1 _ rfl
  · exact own_base h.tlb.2.2.1 _ k.symm
/-- An MMU made behind w0. -/
def M1 (w0 W : World) (L : Loc) (T : Tabs) (ps : List (Int × Int)) (l : List Int) : Prop := Below w0.heap.size w0 W ∧ ∃ v, MmuAt W w0.heap.size L v T ps l
theorem M1.step {w0 W W' : World} {L : Loc} {v : Value} {T T' : Tabs} {ps ps' : List (Int × Int)} {l l' : List Int} (b : Below w0.heap.size w0 W) (h : MmuAt W w0.heap.size L v T ps l) (s : MStep W W' w0.heap.size L v T' ps' l') : M1 w0 W' L T' ps' l' := by
  obtain ⟨⟨v', m, _⟩, c⟩ := s
  exact ⟨c.below b (fun i hi => foot_ge1 h i hi), v', m⟩
theorem M1.then {w0 W W' : World} {L : Loc} {T : Tabs} {ps : List (Int × Int)} {l : List Int} (h : M1 w0 W L T ps l) (k : Below W.heap.size W W') : M1 w0 W' L T ps l := by
  obtain ⟨b, v, m⟩ := h
  exact ⟨below_step b k, v, m.then k⟩
theorem qnew (w0 W : World) (gr b c n : Nat) (l : List Int) (hn : l.length = n) (bW : Below w0.heap.size w0 W) (h : RamAt W w0.heap.size gr (.slice (some ⟨b, 0, none⟩) n c) l) (hb : Bytes l) :
    Calls Try.prog 18 #[.pointer (some ⟨gr, 0, none⟩)] W fun e w' => ∃ L : Loc, e = .returned (.pointer (some ⟨L.m, 0, none⟩)) ∧ L.r = gr ∧ M1 w0 w' L noT [] l := by
  subst hn
  refine (mnew_call W _ gr b c l h hb).mono ?_
  rintro e w' ⟨m, t, rfl, k, hb', _, _⟩
  exact ⟨_, rfl, rfl, below_step bW hb', _, k⟩
theorem qset (w0 W : World) (L : Loc) (T T' : Tabs) (ps : List (Int × Int)) (l : List Int) (h : M1 w0 W L T ps l) (hT : T'.ok) :
    Calls Try.prog 20 #[.pointer (some ⟨L.m, 0, none⟩), .agg #[.int .u32 T'.p0b, .int .u32 T'.p0l, .int .u32 T'.sb, .int .u32 T'.sl, .int .u32 T'.men]] W fun e w' => e = .returned (.tuple #[]) ∧ M1 w0 w' L T' [] l := by
  obtain ⟨b, v, m⟩ := h
  refine (mset_call W _ L v T T' ps l m hT).mono ?_
  rintro e w' ⟨rfl, s⟩
  exact ⟨rfl, M1.step b m s⟩
theorem qget (w0 W : World) (L : Loc) (T : Tabs) (ps : List (Int × Int)) (l : List Int) (va n : Int) (u : Bool) (hv : R32 va) (h : M1 w0 W L T ps l) :
    Calls Try.prog 29 #[.pointer (some ⟨L.m, 0, none⟩), .int .u32 va, .int .i64 n, .bool u] W fun e w' => ∃ xs fk fv fi ps', Pcs T l u false true ps va (szI n) xs (fk, fv, fi) ps' ∧ e = .returned (.tuple #[.int .u32 (leN (loadL l xs)), .agg #[.int .i64 fk, .int .u32 fv, .int .u32 fi]]) ∧ M1 w0 w' L T ps' l := by
  obtain ⟨b, v, m⟩ := h
  refine (mget_call W _ L v T ps l va n u hv m).mono ?_
  rintro e w' ⟨xs, fk, fv, fi, ps', hp, rfl, s⟩
  exact ⟨xs, fk, fv, fi, ps', hp, rfl, M1.step b m s⟩
/-! What the document tells. -/
def lA : List Int := putL (putL (List.replicate 1024 0) 512 2550136832 4) 3 77 1
def tA : Tabs := ⟨512, 1, 0, 0, 1⟩
theorem lA_len : lA.length = 1024 := by unfold lA; rw [putL_length, putL_length, List.length_replicate]
theorem lA_bytes : Bytes lA := putL_bytes _ (putL_bytes _ (zeros_bytes _) _ _ _) _ _ _
theorem tA_ok : tA.ok := by unfold tA Tabs.ok; decide
theorem fA1 : findF tA [] lA 3 1 true false = (3, 0, 0, 0) := by decide +kernel
theorem pA1 : leN (loadL lA [(3, 3, 1)]) = 77 := by decide +kernel
theorem qA1 : findP tA [] lA 3 true false true = [(0, 2550136832)] := by decide +kernel
theorem fA2 : findF tA [(0, 2550136832)] lA 512 1 false true = (0, 2, 512, 5) := by decide +kernel
theorem pcsA1 {k : Bool} {xs : List Pc} {f : Flt} {ps' : List (Int × Int)} (hk : k = true) (h : Pcs tA lA true false k [] 3 (szI 1) xs f ps') : xs = [(3, 3, 1)] ∧ f = (0, 0, 0) ∧ ps' = [(0, 2550136832)] := by
  subst hk
  have e : szI 1 = 1 := by decide
  have s : stepN 3 1 = 1 := by decide
  rw [e] at h
  have d := Pcs.more (T := tA) (l := lA) (u := true) (wr := false) (keep := true) (ps := []) (va := 3) (n := 1) (by decide) (by rw [s, fA1]) (Pcs.done (by rw [s]; decide))
  rw [s, fA1, qA1] at d
  obtain ⟨rfl, rfl, rfl⟩ := d.det h
  exact ⟨rfl, rfl, rfl⟩
theorem pcsA2 {xs : List Pc} {f : Flt} {ps' : List (Int × Int)} (h : Pcs tA lA false true true [(0, 2550136832)] 512 1 xs f ps') : f = (2, 512, 5) := by
  have s : stepN 512 1 = 1 := by decide
  have d := Pcs.stop (T := tA) (l := lA) (u := false) (wr := true) (keep := true) (ps := [(0, 2550136832)]) (va := 512) (n := 1) (by decide) (by rw [s, fA2]; decide)
  rw [s, fA2] at d
  exact (d.det h).2.1
end Go.Proofs.Ytiogbgjeimdgmaa.MmuWalk
/- The MMU: alive. -/
namespace Go.Proofs.Ytiogbgjeimdgmaa.MmuWalk
open Go.RowKit Go.Proofs.Ytiogbgjeimdgmaa.Aid Go.Proofs.YtiogbgjeimdgmaaW.PrintWords Go.Proofs.YtiogbgjeimdgmaaW.PrintLast Go.Proofs.YtiogbgjeimdgmaaW.PrintMore
open Go.Proofs.Ytiogbgjeimdgmaa.RamWalk (RamAt Bytes leN new_nat put_i load_n zeros_bytes putL putL_bytes putL_length)
open Go.Proofs.Ytiogbgjeimdgmaa.TlbWalk (TlbAt Kept2 putP dropP posP posP_page entP nil2 own_some own_val own_then)
attribute [local go_sem] max2_int min2_int max_two min_two max_three min_three max_four min_four   -- for this text's walks alone
set_option linter.unusedVariables false
set_option linter.unusedSimpArgs false
theorem ram_below1 {w W W1 : World} {g b n c : Nat} {l : List Int} (h : Below w.heap.size w W) (r : RamAt W w.heap.size g (.slice (some ⟨b, 0, none⟩) n c) l) (k : W.grownBy W1 (some b)) : Below w.heap.size w W1 :=
  ⟨k.os.trans h.os, k.tape.trans h.tape, k.output.trans h.output, Nat.le_trans h.size k.size, fun i hi => (k.block i (Nat.lt_of_lt_of_le hi h.size) (fun e => by have := r.baseb; simp only [Option.some.injEq] at e; omega)).trans (h.block i hi)⟩
theorem r3 : R32 3 := ⟨by decide, by decide⟩
theorem r512 : R32 512 := ⟨by decide, by decide⟩
theorem getA (w0 W : World) (L : Loc) (h : M1 w0 W L tA [] lA) :
    Calls Try.prog 29 #[.pointer (some ⟨L.m, 0, none⟩), .int .u32 3, .int .i64 1, .bool true] W fun e w' => e = .returned (.tuple #[.int .u32 77, .agg #[.int .i64 0, .int .u32 0, .int .u32 0]]) ∧ M1 w0 w' L tA [(0, 2550136832)] lA := by
  refine (qget w0 W L tA [] lA 3 1 true r3 h).mono ?_
  rintro e w' ⟨xs, fk, fv, fi, ps', hp, rfl, m⟩
  obtain ⟨rfl, hf, rfl⟩ := pcsA1 rfl hp
  simp only [Prod.mk.injEq] at hf
  obtain ⟨rfl, rfl, rfl⟩ := hf
  rw [pA1]
  exact ⟨rfl, m⟩
theorem probeA (w0 W : World) (L : Loc) (h : M1 w0 W L tA [(0, 2550136832)] lA) :
    Calls Try.prog 35 #[.pointer (some ⟨L.m, 0, none⟩), .int .u32 512, .int .i64 1, .bool false, .bool true] W fun e w' => e = .returned (.agg #[.int .i64 2, .int .u32 512, .int .u32 5]) ∧ Below w0.heap.size w0 w' ∧ Chg (fun i => w0.heap.size ≤ i ∧ ∃ cs ty fr, W.heap[i]? = some (.cells cs ty fr) ∧ mTy ty) W w' := by
  obtain ⟨b, v, m⟩ := h
  refine (probe_call W _ L v tA _ lA 512 1 false true r512 (by decide) (by decide) m).mono ?_
  rintro e w' ⟨xs, f, ps', hp, rfl, s⟩
  have := pcsA2 hp
  subst this
  refine ⟨rfl, (M1.step b m s).1, s.chg.mono fun i hi => ⟨foot_ge1 m i hi, ?_⟩⟩
  obtain ⟨cs, ty, h1, h2⟩ := m.types i (.inl hi)
  exact ⟨cs, ty, _, h1, h2⟩
set_option maxRecDepth 100000 in
set_option maxHeartbeats 4000000 in
theorem malive_call (w : World) : Calls Try.prog 28 #[] w fun e w' => e = .returned (.bool true) ∧ Below w.heap.size w w' := by
  have lb : (List.replicate 1024 (0 : Int)).length = 1024 := List.length_replicate
  clear lb
  go_enter Try.func28, Try.ntmps28
  go_wp2_with (first
    | (go_at_call 14; refine (new_nat 1024 _ (by decide)).mono ?_; rintro e w1 ⟨gr, b, rfl, hr, hb⟩; have R1 := Aside0.mk hr; have B1 := Aside0.mk hb; clear hr hb)
    | (go_at_call 39; (with_reducible refine (put_i _ _ _ _ _ _ _ 512 4 2550136832 (by decide) (by decide) (by decide) (by decide) R1.out (by decide) (by decide) (by decide)).mono ?_); rintro e w2 ⟨rfl, hr, hg⟩; have R2 := Aside0.mk hr; have B2 := Aside0.mk (ram_below1 B1.out R1.out hg); clear hr hg)
    | (go_at_call 39; (with_reducible refine (put_i _ _ _ _ _ _ _ 3 1 77 (by decide) (by decide) (by decide) (by decide) R2.out (by decide) (by decide) (by decide)).mono ?_); rintro e w3 ⟨rfl, hr, hg⟩; have R3 := Aside0.mk (show RamAt w3 w.heap.size gr (.slice (some ⟨b, 0, none⟩) 1024 1024) lA from hr); have B3 := Aside0.mk (ram_below1 B2.out R2.out hg); clear hr hg)
    | (go_at_call 18; (with_reducible refine (qnew w _ _ _ _ 1024 lA lA_len B3.out R3.out lA_bytes).mono ?_); rintro e w4 ⟨L, rfl, _, hm⟩; have M4 := Aside0.mk hm; clear hm)
    | (go_at_call 20; refine (qset w _ L noT tA [] lA M4.out tA_ok).mono ?_; rintro e w5 ⟨rfl, hm⟩; have M5 := Aside0.mk hm; clear hm)
    | (go_at_call 29; (with_reducible refine (getA w _ L M5.out).mono ?_); rintro e w6 ⟨rfl, hm⟩; have M6 := Aside0.mk (hm.then (below_alloc (Below.refl _ _) (.cells #[.int .i64 0, .int .u32 0, .int .u32 0] 47 (0, 0)))); have Y6 := Aside0.mk (heap_alloc_new w6 (.cells #[.int .i64 0, .int .u32 0, .int .u32 0] 47 (0, 0))); clear hm)
    | (go_at_call 35; (with_reducible refine (probeA w _ L M6.out).mono ?_); rintro e w7 ⟨rfl, hb, hc⟩; have B7 := Aside0.mk hb; have Y7 := Aside0.mk ((hc.block _ (Array.getElem?_eq_some_iff.1 Y6.out).1 (fun ⟨_, cs, ty, fr, h1, h2⟩ => by rw [Y6.out] at h1; simp only [Option.some.injEq, Obj.cells.injEq] at h1; rw [← h1.2.1] at h2; revert h2; unfold mTy; decide)).trans Y6.out); have y0 := fun o => cell_of_row (w7.alloc o) w6.heap.size 0 _ _ _ (row_then Y7.out (below_alloc (Below.refl _ _) o)); have y1 := fun o => cell_of_row (w7.alloc o) w6.heap.size 1 _ _ _ (row_then Y7.out (below_alloc (Below.refl _ _) o)); have y2 := fun o => cell_of_row (w7.alloc o) w6.heap.size 2 _ _ _ (row_then Y7.out (below_alloc (Below.refl _ _) o)); clear hb hc))
  go_ret
  exact ⟨rfl, below_step B7.out (below_alloc (Below.refl _ _) _)⟩
end Go.Proofs.Ytiogbgjeimdgmaa.MmuWalk
/- Two MMUs over one memory. -/
namespace Go.Proofs.Ytiogbgjeimdgmaa.MmuWalk
open Go.RowKit Go.Proofs.Ytiogbgjeimdgmaa.Aid Go.Proofs.YtiogbgjeimdgmaaW.PrintWords Go.Proofs.YtiogbgjeimdgmaaW.PrintLast Go.Proofs.YtiogbgjeimdgmaaW.PrintMore
open Go.Proofs.Ytiogbgjeimdgmaa.RamWalk (RamAt Bytes leN new_nat put_i load_n zeros_bytes putL putL_bytes putL_length)
open Go.Proofs.Ytiogbgjeimdgmaa.TlbWalk (TlbAt Kept2 putP dropP posP posP_page entP nil2 own_some own_val own_then)
set_option linter.unusedVariables false
set_option linter.unusedSimpArgs false
structure M2 (w0 W : World) (L1 L2 : Loc) (v1 v2 : Value) (T1 T2 : Tabs) (ps1 ps2 : List (Int × Int)) (l : List Int) : Prop where
  below : Below w0.heap.size w0 W
  at1 : MmuAt W w0.heap.size L1 v1 T1 ps1 l
  at2 : MmuAt W w0.heap.size L2 v2 T2 ps2 l
  nm : L1.m ≠ L2.m
  nt : L1.t ≠ L2.t
  nv : ∀ i, v1.ownBlock = some i → v2.ownBlock = some i → False
  er : L1.r = L2.r
  eb : L1.b = L2.b
  ec : L1.c = L2.c
theorem M2.swap {w0 W : World} {L1 L2 : Loc} {v1 v2 : Value} {T1 T2 : Tabs} {ps1 ps2 : List (Int × Int)} {l : List Int} (h : M2 w0 W L1 L2 v1 v2 T1 T2 ps1 ps2 l) : M2 w0 W L2 L1 v2 v1 T2 T1 ps2 ps1 l :=
  ⟨h.below, h.at2, h.at1, h.nm.symm, h.nt.symm, fun i a b => h.nv i b a, h.er.symm, h.eb.symm, h.ec.symm⟩
theorem M2.then {w0 W W' : World} {L1 L2 : Loc} {v1 v2 : Value} {T1 T2 : Tabs} {ps1 ps2 : List (Int × Int)} {l : List Int} (h : M2 w0 W L1 L2 v1 v2 T1 T2 ps1 ps2 l) (k : Below W.heap.size W W') : M2 w0 W' L1 L2 v1 v2 T1 T2 ps1 ps2 l :=
  ⟨below_step h.below k, h.at1.then k, h.at2.then k, h.nm, h.nt, h.nv, h.er, h.eb, h.ec⟩
theorem two_ty {W : World} {i j : Nat} {c1 c2 : Array Value} {t1 t2 : TypeId} {f1 f2 : Nat × Nat} (h1 : W.heap[i]? = some (.cells c1 t1 f1)) (h2 : W.heap[j]? = some (.cells c2 t2 f2)) (h : t1 ≠ t2) : i ≠ j := fun e => by
  rw [e, h2] at h1
  simp only [Option.some.injEq, Obj.cells.injEq] at h1
  exact h h1.2.1.symm
/-- Two MMUs over one memory, whose buffers tell what stands in it. -/
def R2 (w0 W : World) (L1 L2 : Loc) (T : Tabs) (l : List Int) : Prop := ∃ v1 v2 ps1 ps2, M2 w0 W L1 L2 v1 v2 T T ps1 ps2 l ∧ Cons T l ps1 ∧ Cons T l ps2
theorem R2.below {w0 W : World} {L1 L2 : Loc} {T : Tabs} {l : List Int} (h : R2 w0 W L1 L2 T l) : Below w0.heap.size w0 W := by
  obtain ⟨v1, v2, ps1, ps2, m, _, _⟩ := h
  exact m.below
theorem R2.then {w0 W W' : World} {L1 L2 : Loc} {T : Tabs} {l : List Int} (h : R2 w0 W L1 L2 T l) (k : Below W.heap.size W W') : R2 w0 W' L1 L2 T l := by
  obtain ⟨v1, v2, ps1, ps2, m, c1, c2⟩ := h
  exact ⟨v1, v2, ps1, ps2, m.then k, c1, c2⟩
theorem R2.swap {w0 W : World} {L1 L2 : Loc} {T : Tabs} {l : List Int} (h : R2 w0 W L1 L2 T l) : R2 w0 W L2 L1 T l := by
  obtain ⟨v1, v2, ps1, ps2, m, c1, c2⟩ := h
  exact ⟨v2, v1, ps2, ps1, m.swap, c2, c1⟩
/-- What Get tells of the memory. -/
def Tells (T : Tabs) (l : List Int) (u : Bool) (va n : Int) (x : Int) (f : Flt) : Prop := ∃ xs k ps ps', Cons T l ps ∧ Pcs T l u false k ps va n xs f ps' ∧ x = leN (loadL l xs)
theorem Tells.same {T : Tabs} {l : List Int} {u : Bool} {va n x y : Int} {f g : Flt} (h : Tells T l u va n x f) (k : Tells T l u va n y g) : y = x ∧ g = f := by
  obtain ⟨xs, _, _, _, c, p, rfl⟩ := h
  obtain ⟨ys, _, _, _, c2, p2, rfl⟩ := k
  obtain ⟨rfl, rfl⟩ := (p.same c).2 p2 c2
  exact ⟨rfl, rfl⟩
/-- Boxes of other kinds stay. -/
def Stay (W W' : World) : Prop := ∀ (i : Nat) (cs : Array Value) (ty : TypeId) (fr : Nat × Nat), W.heap[i]? = some (.cells cs ty fr) → ¬ mTy ty → W'.heap[i]? = some (.cells cs ty fr)
/-- Two new ones. -/
def N2 (w0 W : World) (L1 L2 : Loc) (T1 T2 : Tabs) (l : List Int) : Prop := ∃ v1 v2, M2 w0 W L1 L2 v1 v2 T1 T2 [] [] l
theorem N2.r2 {w0 W : World} {L1 L2 : Loc} {T : Tabs} {l : List Int} (h : N2 w0 W L1 L2 T T l) : R2 w0 W L1 L2 T l := by
  obtain ⟨v1, v2, m⟩ := h
  exact ⟨v1, v2, [], [], m, Cons.nil _ _, Cons.nil _ _⟩
theorem N2.swap {w0 W : World} {L1 L2 : Loc} {T1 T2 : Tabs} {l : List Int} (h : N2 w0 W L1 L2 T1 T2 l) : N2 w0 W L2 L1 T2 T1 l := by
  obtain ⟨v1, v2, m⟩ := h
  exact ⟨v2, v1, m.swap⟩
end Go.Proofs.Ytiogbgjeimdgmaa.MmuWalk
/- The reference's Number; Peek and Load of one byte. -/
namespace Go.Proofs.Ytiogbgjeimdgmaa.MmuWalk
open Go.RowKit Go.Proofs.Ytiogbgjeimdgmaa.Aid Go.Proofs.YtiogbgjeimdgmaaW.PrintWords Go.Proofs.YtiogbgjeimdgmaaW.PrintLast Go.Proofs.YtiogbgjeimdgmaaW.PrintMore
open Go.Proofs.Ytiogbgjeimdgmaa.RamWalk (RamAt Bytes leN leN_bounds)
open Go.Proofs.Ytiogbgjeimdgmaa.TlbWalk (TlbAt Kept2 putP dropP posP posP_page entP nil2 own_some own_val own_then)
attribute [local go_sem] max2_int min2_int max_two min_two max_three min_three max_four min_four   -- for this text's walks alone
set_option linter.unusedVariables false
set_option linter.unusedSimpArgs false
end Go.Proofs.Ytiogbgjeimdgmaa.MmuWalk
/- One MMU whose buffer tells what stands in the memory: its calls. -/
namespace Go.Proofs.Ytiogbgjeimdgmaa.MmuWalk
open Go.RowKit Go.Proofs.Ytiogbgjeimdgmaa.Aid Go.Proofs.YtiogbgjeimdgmaaW.PrintWords Go.Proofs.YtiogbgjeimdgmaaW.PrintLast Go.Proofs.YtiogbgjeimdgmaaW.PrintMore
open Go.Proofs.Ytiogbgjeimdgmaa.RamWalk (RamAt Bytes leN leN_bounds)
open Go.Proofs.Ytiogbgjeimdgmaa.TlbWalk (TlbAt Kept2 putP dropP posP posP_page entP nil2 own_some own_val own_then)
set_option linter.unusedVariables false
set_option linter.unusedSimpArgs false
def P1 (w0 W : World) (L : Loc) (T : Tabs) (l : List Int) : Prop := ∃ ps, M1 w0 W L T ps l ∧ Cons T l ps
theorem P1.below {w0 W : World} {L : Loc} {T : Tabs} {l : List Int} (h : P1 w0 W L T l) : Below w0.heap.size w0 W := by
  obtain ⟨_, m, _⟩ := h
  exact m.1
theorem P1.then {w0 W W' : World} {L : Loc} {T : Tabs} {l : List Int} (h : P1 w0 W L T l) (k : Below W.heap.size W W') : P1 w0 W' L T l := by
  obtain ⟨ps, m, c⟩ := h
  exact ⟨ps, m.then k, c⟩
/-- Rows of bytes made behind the memory's stay. -/
def RowStay (W W' : World) (L : Loc) : Prop := ∀ B v n xs, L.b < B → W.ownsRow B 5 1 v n xs → W'.ownsRow B 5 1 v n xs
end Go.Proofs.Ytiogbgjeimdgmaa.MmuWalk
