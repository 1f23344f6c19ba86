/- MmuSame: one call, with a buffer and without. -/
import Derived.Test.YtiogbgjeimdgmaaRefP
import Derived.Test.YtiogbgjeimdgmaaRefQ
namespace Go.Proofs.Ytiogbgjeimdgmaa.RefWalk
open Go.RowKit Go.Proofs.Ytiogbgjeimdgmaa.Aid Go.Proofs.YtiogbgjeimdgmaaW.PrintWords Go.Proofs.YtiogbgjeimdgmaaW.PrintLast Go.Proofs.YtiogbgjeimdgmaaW.PrintMore
open Go.Proofs.Ytiogbgjeimdgmaa.MmuWalk (Chg R32 Flt fltV noF flt infoF Tabs row_ty own_keep two_ty box1 row_then foot mine MmuAt MStep NextRow mTy noT Pcs findF findF_fit findF_cons stepN szI szI_le storeP storeL byL byL_length Cons store_same marks_length lays_length Pc mine_lt')
open Go.Proofs.Ytiogbgjeimdgmaa.RamWalk (Bytes leN own_cell putL)
open Go.Proofs.Ytiogbgjeimdgmaa.TlbWalk (RefAt own_then own_val own_some dropP)
set_option linter.unusedVariables false
set_option linter.unusedSimpArgs false
theorem dropP_nil (page : Int) : dropP page [] = [] := by
  unfold dropP
  rw [if_neg (by simp)]
theorem pcs_plain {T : Tabs} {l : List Int} {u wr : Bool} {ps : List (Int × Int)} {va n : Int} {xs : List Pc} {f : Flt} {ps' : List (Int × Int)} (p : Pcs T l u wr true ps va n xs f ps') (hc : Cons T l ps) : Cons T l ps' ∧ Pcs T l u wr (!true) [] va n xs f [] := by
  obtain ⟨c, s⟩ := p.same hc
  obtain ⟨ys, g, qs, q⟩ := Pcs.ex T l u wr false _ [] va n (Nat.le_refl _)
  obtain ⟨e1, e2⟩ := s q (Cons.nil T l)
  have e3 := q.nokeep
  subst e1 e2 e3
  exact ⟨c, q⟩
theorem store_len {T : Tabs} {l : List Int} {u keep : Bool} {ps : List (Int × Int)} {va n : Int} {xs : List Pc} {f : Flt} {ps' : List (Int × Int)} (p : Pcs T l u true keep ps va n xs f ps') (hv : R32 va) (bs : List Int) (hb : bs.length = n.toNat) : (storeL T xs f.1 ps' l bs).length = l.length := by
  unfold storeL
  split
  · rename_i hk
    have hl := marks_length T xs ps' l
    have ht := p.total hk
    exact (lays_length xs _ bs (fun q hq => by rw [hl]; exact p.fitN hv q hq) (by omega)).1.trans hl
  · rfl
def Does (c : Cal) (w0 WF : World) (F : Nat → Prop) (w : World) (L R : LocR) (T : Tabs) (ps : List (Int × Int)) (l : List Int) (pl : Bool) (qs : List (Int × Int)) : Prop :=
  Calls Try.prog 51 #[.pointer (some ⟨L.r, 0, none⟩), .pointer (some ⟨L.m, 0, none⟩), .pointer (some ⟨R.m, 0, none⟩), .agg c.cells] w fun e w' => e = .returned (.bool true) ∧ ∃ v' vp' ve', DU w0 WF F w' L R v' vp' ve' T ps l T pl qs l
set_option maxHeartbeats 2000000 in
theorem same_any (T : Tabs) (ps : List (Int × Int)) (l : List Int) (c : Cal) (w0 : World) (ho : CalOk w0 c) (hf : fineC c) (hb : Bytes l) (hc : Cons T l ps) :
    ∃ T' ps' l', l'.length = l.length ∧ (∀ (WF : World) (F : Nat → Prop) (w : World) (L R : LocR) (v vp ve : Value), DU w0 WF F w L R v vp ve T ps l T true [] l → Does c w0 WF F w L R T' ps' l' true []) ∧
      ∀ (WF : World) (F : Nat → Prop) (w : World) (L R : LocR) (v vp ve : Value), DU w0 WF F w L R v vp ve T ps l T false ps l → Does c w0 WF F w L R T' ps' l' false ps' := by
  obtain ⟨hv, hx, hn0, hcap, hT, bs, hlen, hby, hr⟩ := ho
  obtain ⟨hn, hnb⟩ := hf
  obtain ⟨kd, va, x, n, u, wr, A, nb, cb, t1, t2, t3, t4, t5⟩ := c
  by_cases k0 : kd = 0
  · subst k0
    obtain ⟨xs, ⟨fk, fv, fi⟩, ps', p⟩ := Pcs.ex T l u false true _ ps va (szI n) (Nat.le_refl _)
    exact ⟨T, ps', l, rfl, fun WF F w L R v vp ve h => does_get w0 WF F w L R v vp ve T true ps [] l va x n u wr A nb cb t1 t2 t3 t4 t5 h hv xs fk fv fi ps' [] p (pcs_plain p hc).2,
      fun WF F w L R v vp ve h => does_get w0 WF F w L R v vp ve T false ps ps l va x n u wr A nb cb t1 t2 t3 t4 t5 h hv xs fk fv fi ps' ps' p p⟩
  by_cases k1 : kd = 1
  · subst k1
    obtain ⟨xs, ⟨fk, fv, fi⟩, ps', p⟩ := Pcs.ex T l u true true _ ps va (szI n) (Nat.le_refl _)
    obtain ⟨c', q⟩ := pcs_plain p hc
    have s := store_same T xs fk ps' l (byL x (szI n).toNat) hb c'
    exact ⟨T, _, _, store_len p hv _ (byL_length x (szI n).toNat), fun WF F w L R v vp ve h => does_put w0 WF F w L R v vp ve T true ps [] l va x n u wr A nb cb t1 t2 t3 t4 t5 h hv hx xs fk fv fi ps' [] p q _ _ _ rfl s.2 rfl s.1,
      fun WF F w L R v vp ve h => does_put w0 WF F w L R v vp ve T false ps ps l va x n u wr A nb cb t1 t2 t3 t4 t5 h hv hx xs fk fv fi ps' ps' p p _ _ _ rfl rfl rfl rfl⟩
  by_cases k2 : kd = 2
  · subst k2
    obtain ⟨xs, ⟨fk, fv, fi⟩, ps', p⟩ := Pcs.ex T l u false true _ ps va n (Nat.le_refl _)
    exact ⟨T, ps', l, rfl, fun WF F w L R v vp ve h => does_load w0 WF F w L R v vp ve T true ps [] l va x n u wr A nb cb t1 t2 t3 t4 t5 h hv hn hn0 xs fk fv fi ps' [] p (pcs_plain p hc).2,
      fun WF F w L R v vp ve h => does_load w0 WF F w L R v vp ve T false ps ps l va x n u wr A nb cb t1 t2 t3 t4 t5 h hv hn hn0 xs fk fv fi ps' ps' p p⟩
  by_cases k3 : kd = 3
  · subst k3
    obtain ⟨xs, ⟨fk, fv, fi⟩, ps', p⟩ := Pcs.ex T l u true true _ ps va nb (Nat.le_refl _)
    obtain ⟨c', q⟩ := pcs_plain p hc
    have s := store_same T xs fk ps' l bs hb c'
    exact ⟨T, _, _, store_len p hv bs (by rw [hlen]; exact (Int.toNat_natCast nb).symm), fun WF F w L R v vp ve h => does_store w0 WF F w L R v vp ve T true ps [] l va x n u wr A nb cb t1 t2 t3 t4 t5 h hv bs hlen hnb hcap hby hr xs fk fv fi ps' [] p q _ _ _ rfl s.2 rfl s.1,
      fun WF F w L R v vp ve h => does_store w0 WF F w L R v vp ve T false ps ps l va x n u wr A nb cb t1 t2 t3 t4 t5 h hv bs hlen hnb hcap hby hr xs fk fv fi ps' ps' p p _ _ _ rfl rfl rfl rfl⟩
  by_cases k4 : kd = 4
  · subst k4
    obtain ⟨xs, ⟨fk, fv, fi⟩, ps', p⟩ := Pcs.ex T l u wr true _ ps va n (Nat.le_refl _)
    exact ⟨T, ps', l, rfl, fun WF F w L R v vp ve h => does_probe w0 WF F w L R v vp ve T true ps [] l va x n u wr A nb cb t1 t2 t3 t4 t5 h hv hn hn0 xs fk fv fi ps' [] p (pcs_plain p hc).2,
      fun WF F w L R v vp ve h => does_probe w0 WF F w L R v vp ve T false ps ps l va x n u wr A nb cb t1 t2 t3 t4 t5 h hv hn hn0 xs fk fv fi ps' ps' p p⟩
  by_cases k5 : kd = 5
  · subst k5
    have peek : ∀ (pl : Bool) (qs : List (Int × Int)) (hF : findF T ps l va 1 u false = findF T qs l va 1 u false) (WF : World) (F : Nat → Prop) (w : World) (L R : LocR) (v vp ve : Value), DU w0 WF F w L R v vp ve T ps l T pl qs l → Does ⟨5, va, x, n, u, wr, A, nb, cb, ⟨t1, t2, t3, t4, t5⟩⟩ w0 WF F w L R T ps l pl qs := by
      intro pl qs hE WF F w L R v vp ve h
      obtain ⟨⟨pa, fk, fv, fi⟩, hF⟩ : ∃ r, findF T qs l va 1 u false = r := ⟨_, rfl⟩
      by_cases hk : fk = 0
      · have hfit := @findF_fit T qs l va 1 u false (by rw [hF]; exact hk)
        have hr := Go.Proofs.Ytiogbgjeimdgmaa.MmuWalk.findF_r h.m va 1 hv u false
        rw [hE] at hr
        rw [hF] at hfit hr
        obtain ⟨h1, h2⟩ := hfit
        simp only at h1 h2 hr
        obtain ⟨q, rfl⟩ : ∃ q : Nat, pa = q := ⟨pa.toNat, by have := hr.1; omega⟩
        rw [h2] at hF
        exact does_peek_y w0 WF F w L R v vp ve T pl ps qs l va x n u wr A nb cb t1 t2 t3 t4 t5 h hv hE q hF (by omega)
      · exact does_peek_f w0 WF F w L R v vp ve T pl ps qs l va x n u wr A nb cb t1 t2 t3 t4 t5 h hv hE pa fk fv fi hF (beq_eq_false_iff_ne.mpr hk)
    exact ⟨T, ps, l, rfl, peek true [] (findF_cons hc va 1 u false), peek false ps rfl⟩
  by_cases k6 : kd = 6
  · subst k6
    exact ⟨⟨t1, t2, t3, t4, t5⟩, [], l, rfl, fun WF F w L R v vp ve h => does_set w0 WF F w L R v vp ve T true ps [] l va x n u wr A nb cb t1 t2 t3 t4 t5 h hT, fun WF F w L R v vp ve h => does_set w0 WF F w L R v vp ve T false ps ps l va x n u wr A nb cb t1 t2 t3 t4 t5 h hT⟩
  by_cases k7 : kd = 7
  · subst k7
    exact ⟨T, [], l, rfl, fun WF F w L R v vp ve h => does_clear w0 WF F w L R v vp ve T true ps [] l va x n u wr A nb cb t1 t2 t3 t4 t5 h, fun WF F w L R v vp ve h => does_clear w0 WF F w L R v vp ve T false ps ps l va x n u wr A nb cb t1 t2 t3 t4 t5 h⟩
  by_cases k8 : kd = 8
  · subst k8
    exact ⟨T, _, l, rfl, fun WF F w L R v vp ve h => (dropP_nil (va / 512)) ▸ does_drop w0 WF F w L R v vp ve T true ps [] l va x n u wr A nb cb t1 t2 t3 t4 t5 h hv, fun WF F w L R v vp ve h => does_drop w0 WF F w L R v vp ve T false ps ps l va x n u wr A nb cb t1 t2 t3 t4 t5 h hv⟩
  by_cases k9 : kd = 9
  · subst k9
    by_cases hl : va + 4 ≤ l.length
    · exact ⟨T, ps, _, Go.Proofs.Ytiogbgjeimdgmaa.RamWalk.putL_length _ _ _ _, fun WF F w L R v vp ve h => does_ram_ok w0 WF F w L R v vp ve T true ps [] l va x n u wr A nb cb t1 t2 t3 t4 t5 h hv hx hl _ rfl, fun WF F w L R v vp ve h => does_ram_ok w0 WF F w L R v vp ve T false ps ps l va x n u wr A nb cb t1 t2 t3 t4 t5 h hv hx hl _ rfl⟩
    · exact ⟨T, ps, l, rfl, fun WF F w L R v vp ve h => does_ram_bus w0 WF F w L R v vp ve T true ps [] l va x n u wr A nb cb t1 t2 t3 t4 t5 h hv hx hl, fun WF F w L R v vp ve h => does_ram_bus w0 WF F w L R v vp ve T false ps ps l va x n u wr A nb cb t1 t2 t3 t4 t5 h hv hx hl⟩
  have b : ∀ k : Int, kd ≠ k → (kd == k) = false := fun k h => beq_eq_false_iff_ne.mpr h
  exact ⟨T, ps, l, rfl, fun WF F w L R v vp ve h => does_other w0 WF F w L R v vp ve T true ps [] l kd va x n u wr A nb cb t1 t2 t3 t4 t5 h (b _ k0) (b _ k1) (b _ k2) (b _ k3) (b _ k4) (b _ k5) (b _ k6) (b _ k7) (b _ k8) (b _ k9), fun WF F w L R v vp ve h => does_other w0 WF F w L R v vp ve T false ps ps l kd va x n u wr A nb cb t1 t2 t3 t4 t5 h (b _ k0) (b _ k1) (b _ k2) (b _ k3) (b _ k4) (b _ k5) (b _ k6) (b _ k7) (b _ k8) (b _ k9)⟩
/-! Four MMUs: two pairs. -/
/-- The blocks of a pair. -/
def blocks (L R : LocR) (v vp ve : Value) (i : Nat) : Prop := mine L v i ∨ rmine R vp ve i
abbrev nF : Nat → Prop := fun _ => False
/-- Two pairs, apart. -/
structure Q4 (w0 W : World) (L R L2 R2 : LocR) (v vp ve v2 vp2 ve2 : Value) (T : Tabs) (ps : List (Int × Int)) (l : List Int) : Prop where
  a : DU w0 w0 nF W L R v vp ve T ps l T true [] l
  b : DU w0 w0 nF W L2 R2 v2 vp2 ve2 T ps l T false ps l
  dis : ∀ i, blocks L R v vp ve i → ¬ blocks L2 R2 v2 vp2 ve2 i
theorem DU.inF {w0 W : World} {L R : LocR} {v vp ve : Value} {T : Tabs} {ps : List (Int × Int)} {l : List Int} {T' : Tabs} {pl : Bool} {qs : List (Int × Int)} {k : List Int} (h : DU w0 w0 nF W L R v vp ve T ps l T' pl qs k) (F : Nat → Prop) (hF : ∀ i, F i → i < W.heap.size ∧ ¬ blocks L R v vp ve i) : DU w0 W F W L R v vp ve T ps l T' pl qs k :=
  ⟨h.below, h.m, h.r, h.dis, fun i hi => ⟨(hF i hi).1, rfl, fun f => (hF i hi).2 (.inl f), fun f => (hF i hi).2 (.inr f)⟩⟩
theorem DU.outF {w0 WF W : World} {F : Nat → Prop} {L R : LocR} {v vp ve : Value} {T : Tabs} {ps : List (Int × Int)} {l : List Int} {T' : Tabs} {pl : Bool} {qs : List (Int × Int)} {k : List Int} (h : DU w0 WF F W L R v vp ve T ps l T' pl qs k) : DU w0 w0 nF W L R v vp ve T ps l T' pl qs k :=
  ⟨h.below, h.m, h.r, h.dis, fun i hi => hi.elim⟩
theorem DU.blocks_lt {w0 WF W : World} {F : Nat → Prop} {L R : LocR} {v vp ve : Value} {T : Tabs} {ps : List (Int × Int)} {l : List Int} {T' : Tabs} {pl : Bool} {qs : List (Int × Int)} {k : List Int} (h : DU w0 WF F W L R v vp ve T ps l T' pl qs k) (i : Nat) (b : blocks L R v vp ve i) : i < W.heap.size := by
  rcases b with b | b
  · exact mine_lt' h.m i b
  · exact rmine_lt h.r i b
/-- Kept blocks: the pair stands. -/
theorem DU.kept {w0 W W' : World} {L R : LocR} {v vp ve : Value} {T : Tabs} {ps : List (Int × Int)} {l : List Int} {T' : Tabs} {pl : Bool} {qs : List (Int × Int)} {k : List Int} (h : DU w0 w0 nF W L R v vp ve T ps l T' pl qs k) (hb : Below w0.heap.size w0 W') (hk : ∀ i, blocks L R v vp ve i → W'.heap[i]? = W.heap[i]?) : DU w0 w0 nF W' L R v vp ve T ps l T' pl qs k :=
  ⟨hb, h.m.keep (fun i q => hk i (.inl q)), h.r.keep (fun i q => hk i (.inr q)), h.dis, fun i hi => hi.elim⟩
/-- Half way: the first pair has gone on. -/
structure H4 (w0 W : World) (L R L2 R2 : LocR) (v vp ve v2 vp2 ve2 : Value) (T : Tabs) (ps : List (Int × Int)) (l : List Int) (T2 : Tabs) (ps2 : List (Int × Int)) (l2 : List Int) : Prop where
  a : DU w0 w0 nF W L R v vp ve T ps l T true [] l
  b : DU w0 w0 nF W L2 R2 v2 vp2 ve2 T2 ps2 l2 T2 false ps2 l2
  dis : ∀ i, blocks L R v vp ve i → ¬ blocks L2 R2 v2 vp2 ve2 i
theorem H4.then {w0 W W' : World} {L R L2 R2 : LocR} {v vp ve v2 vp2 ve2 : Value} {T T2 : Tabs} {ps ps2 : List (Int × Int)} {l l2 : List Int} (h : H4 w0 W L R L2 R2 v vp ve v2 vp2 ve2 T ps l T2 ps2 l2) (b : Below W.heap.size W W') : H4 w0 W' L R L2 R2 v vp ve v2 vp2 ve2 T ps l T2 ps2 l2 :=
  ⟨h.a.then b, h.b.then b, h.dis⟩
/-- Boxes of other kinds stay. -/
def KeepO (W W' : World) : Prop := ∀ (g : Nat) (cs : Array Value) (ty : TypeId) (fr : Nat × Nat), W.heap[g]? = some (.cells cs ty fr) → oTy ty → W'.heap[g]? = some (.cells cs ty fr)
theorem DU.free {w0 W W' : World} {L R L' R' : LocR} {v vp ve v' vp' ve' : Value} {T : Tabs} {ps : List (Int × Int)} {l : List Int} {T' : Tabs} {pl : Bool} {qs : List (Int × Int)} {k : List Int} {T2 : Tabs} {ps2 : List (Int × Int)} {l2 : List Int} {T3 : Tabs} {pl2 : Bool} {qs2 : List (Int × Int)} {k2 : List Int} (h : DU w0 w0 nF W L R v vp ve T ps l T' pl qs k) (h' : DU w0 W (fun i => i < W.heap.size ∧ ¬ blocks L R v vp ve i) W' L' R' v' vp' ve' T2 ps2 l2 T3 pl2 qs2 k2) : KeepO W W' := fun g cs ty fr hg ht => by
  have hlt := (Array.getElem?_eq_some_iff.1 hg).1
  refine ((h'.fr g ⟨hlt, fun f => ?_⟩).2.1).trans hg
  rcases f with f | f
  · exact h.m.ne_ty hg ht.1 g f rfl
  · exact h.r.ne_ty hg ht.2 g f rfl
theorem h4_a {c : Cal} {w0 w : World} {L R L2 R2 : LocR} {v vp ve v2 vp2 ve2 : Value} {T T2 T3 : Tabs} {ps ps2 ps3 : List (Int × Int)} {l l2 l3 : List Int} (h : H4 w0 w L R L2 R2 v vp ve v2 vp2 ve2 T ps l T2 ps2 l2)
    (d : ∀ (WF : World) (F : Nat → Prop) (w : World) (L R : LocR) (v vp ve : Value), DU w0 WF F w L R v vp ve T ps l T true [] l → Does c w0 WF F w L R T3 ps3 l3 true []) :
    Calls Try.prog 51 #[.pointer (some ⟨L.r, 0, none⟩), .pointer (some ⟨L.m, 0, none⟩), .pointer (some ⟨R.m, 0, none⟩), .agg c.cells] w fun e w' => e = .returned (.bool true) ∧ (∃ v' vp' ve', H4 w0 w' L R L2 R2 v' vp' ve' v2 vp2 ve2 T3 ps3 l3 T2 ps2 l2) ∧ KeepO w w' :=
  (d w (fun i => i < w.heap.size ∧ ¬ blocks L R v vp ve i) w L R v vp ve (h.a.inF _ (fun i hi => hi))).mono fun e w' ⟨he, v', vp', ve', D⟩ =>
    ⟨he, ⟨v', vp', ve', D.outF, h.b.kept D.below (fun i hi => (D.fr i ⟨h.b.blocks_lt i hi, fun f => h.dis i f hi⟩).2.1), fun i f g => (f.elim (D.fr i ⟨h.b.blocks_lt i g, fun f => h.dis i f g⟩).2.2.1 (D.fr i ⟨h.b.blocks_lt i g, fun f => h.dis i f g⟩).2.2.2)⟩, h.a.free D⟩
theorem h4_b {c : Cal} {w0 w : World} {L R L2 R2 : LocR} {v vp ve v2 vp2 ve2 : Value} {T T2 T3 : Tabs} {ps ps2 ps3 : List (Int × Int)} {l l2 l3 : List Int} (h : H4 w0 w L R L2 R2 v vp ve v2 vp2 ve2 T ps l T2 ps2 l2)
    (d : ∀ (WF : World) (F : Nat → Prop) (w : World) (L R : LocR) (v vp ve : Value), DU w0 WF F w L R v vp ve T2 ps2 l2 T2 false ps2 l2 → Does c w0 WF F w L R T3 ps3 l3 false ps3) :
    Calls Try.prog 51 #[.pointer (some ⟨L2.r, 0, none⟩), .pointer (some ⟨L2.m, 0, none⟩), .pointer (some ⟨R2.m, 0, none⟩), .agg c.cells] w fun e w' => e = .returned (.bool true) ∧ ∃ v' vp' ve', H4 w0 w' L R L2 R2 v vp ve v' vp' ve' T ps l T3 ps3 l3 :=
  (d w (blocks L R v vp ve) w L2 R2 v2 vp2 ve2 (h.b.inF _ (fun i hi => ⟨h.a.blocks_lt i hi, fun f => h.dis i hi f⟩))).mono fun e w' ⟨he, v', vp', ve', D⟩ =>
    ⟨he, v', vp', ve', h.a.kept D.below (fun i hi => (D.fr i hi).2.1), D.outF, fun i f g => (g.elim (D.fr i f).2.2.1 (D.fr i f).2.2.2)⟩
/-- A pair that lies behind another. -/
theorem DU.lower {w0 w1 W : World} {L R : LocR} {v vp ve : Value} {T : Tabs} {ps : List (Int × Int)} {l : List Int} {T' : Tabs} {pl : Bool} {qs : List (Int × Int)} {k : List Int} (h : DU w1 w1 nF W L R v vp ve T ps l T' pl qs k) (b : Below w0.heap.size w0 w1) : DU w0 w0 nF W L R v vp ve T ps l T' pl qs k :=
  ⟨below_step b h.below, ⟨h.m.blk, Nat.le_trans b.size h.m.ge, h.m.ram.lower b.size, h.m.tlb.lower b.size, h.m.by_, h.m.ok, h.m.ents⟩,
    ⟨h.r.blk, Nat.le_trans b.size h.r.ge, h.r.ram.lower b.size, ⟨h.r.tlb.1, Nat.le_trans b.size h.r.tlb.2.1, own_less h.r.tlb.2.2.1 b.size, own_less h.r.tlb.2.2.2.1 b.size, h.r.tlb.2.2.2.2⟩, h.r.by_, h.r.ok, h.r.ents, h.r.nd⟩, h.dis, fun i hi => hi.elim⟩
theorem mine_ge {W : World} {base : Nat} {L : LocR} {v : Value} {T : Tabs} {ps : List (Int × Int)} {l : List Int} (h : MmuAt W base L v T ps l) (i : Nat) (k : mine L v i) : base ≤ i := by
  rcases k with k | rfl
  · exact Go.Proofs.Ytiogbgjeimdgmaa.MmuWalk.foot_ge1 h i k
  · exact h.ram.2.1
theorem h4_new {w0 w1 W : World} {L R L2 R2 : LocR} {v vp ve v2 vp2 ve2 : Value} {T T2 : Tabs} {ps ps2 : List (Int × Int)} {l l2 : List Int} (a : DU w0 w0 nF w1 L R v vp ve T ps l T true [] l) (b : DU w1 w1 nF W L2 R2 v2 vp2 ve2 T2 ps2 l2 T2 false ps2 l2) : H4 w0 W L R L2 R2 v vp ve v2 vp2 ve2 T ps l T2 ps2 l2 := by
  refine ⟨a.then b.below, b.lower a.below, fun i f g => ?_⟩
  have h1 := a.blocks_lt i f
  rcases g with g | g
  · have := mine_ge b.m i g; omega
  · have := rmine_ge b.r i g; omega
end Go.Proofs.Ytiogbgjeimdgmaa.RefWalk
