/- Both queues beside both MMUs: the calls of FetchDoes. -/
import Derived.Test.YtiogbgjeimdgmaaRefX
namespace Go.Proofs.Ytiogbgjeimdgmaa.RefWalk
open Go.RowKit Go.Proofs.Ytiogbgjeimdgmaa.Aid Go.Proofs.YtiogbgjeimdgmaaW.PrintWords Go.Proofs.YtiogbgjeimdgmaaW.PrintMore
open Go.Proofs.Ytiogbgjeimdgmaa.MmuWalk (Chg R32 Flt fltV noF flt infoF infoB Tabs row_ty own_keep two_ty box1 row_then foot mine MmuAt MStep NextRow mTy qfoot cycF cycF_good cycF_pc goodF qCells peekF peekF_good peekF_zero findF findF_fit findF_r' foot_ge1 Pcs szI szI_le storeP storeL byL byL_length byL_bytes mput_call mset_call Pc)
open Go.Proofs.Ytiogbgjeimdgmaa.RamWalk (Bytes leN own_cell putL putL_length putL_bytes put_i put_bus_i)
open Go.Proofs.Ytiogbgjeimdgmaa.TlbWalk (RefAt own_then own_val own_some dropP)
set_option linter.unusedVariables false
set_option linter.unusedSimpArgs false
theorem keepB_below {W W' : World} (b : Below W.heap.size W W') : KeepB W W' := fun g cs ty fr hg _ _ _ => row_then hg b
section
variable {w0 W W' : World} {L R : LocR} {v vp ve : Value} {T T' : Tabs} {ps qs : List (Int × Int)} {l k : List Int} {q y : Nat} {vb yb : Value} {pc pc2 : Int} {u u2 : Bool} {bs bs2 : List Int} {f f2 : Flt}
/-- All other blocks as a frame. -/
theorem YU.inMax (h : YU w0 W L R v vp ve T ps l T' qs k q vb pc u bs f y yb pc2 u2 bs2 f2) : FU w0 W (fun i => i < W.heap.size ∧ ¬ both L R v vp ve i ∧ ¬ qfoot q vb i) W L R v vp ve T ps l T' false qs k q vb pc u bs f :=
  ⟨⟨h.fu.du.below, h.fu.du.m, h.fu.du.r, h.fu.du.dis, fun i hi => ⟨hi.1, rfl, fun g => hi.2.1 (.inl g), fun g => hi.2.1 (.inr g)⟩⟩, h.fu.qa, h.fu.dq, fun i hi => hi.2.2⟩
theorem YU.ofMax {v' vp' ve' : Value} {T1 T2 : Tabs} {ps1 qs1 : List (Int × Int)} {l1 k1 : List Int} {vb' : Value} {pc' : Int} {u' : Bool} {bs' : List Int} {f' : Flt} (h : YU w0 W L R v vp ve T ps l T' qs k q vb pc u bs f y yb pc2 u2 bs2 f2)
    (h' : FU w0 W (fun i => i < W.heap.size ∧ ¬ both L R v vp ve i ∧ ¬ qfoot q vb i) W' L R v' vp' ve' T1 ps1 l1 T2 false qs1 k1 q vb' pc' u' bs' f') :
    YS w0 W' L R T1 ps1 l1 T2 qs1 k1 q pc' u' bs' f' y pc2 u2 bs2 f2 ∧ KeepB W W' := by
  have hy : ∀ i, qfoot y yb i → i < W.heap.size ∧ ¬ both L R v vp ve i ∧ ¬ qfoot q vb i := fun i hi => ⟨h.ylt i hi, (h.dy i hi).1, (h.dy i hi).2⟩
  refine ⟨⟨v', vp', ve', vb', yb, h'.outF, h.ya.keep (fun i hi => (h'.du.fr i (hy i hi)).2.1), fun i hi => ⟨fun g => g.elim (h'.du.fr i (hy i hi)).2.2.1 (h'.du.fr i (hy i hi)).2.2.2, h'.df i (hy i hi)⟩⟩, fun g cs ty fr hg ho h1 h2 => ?_⟩
  have hlt := (Array.getElem?_eq_some_iff.1 hg).1
  refine ((h'.du.fr g ⟨hlt, fun e => ?_, fun e => ?_⟩).2.1).trans hg
  · rcases e with e | e
    · exact h.fu.du.m.ne_ty hg ho.1 g e rfl
    · exact h.fu.du.r.ne_ty hg ho.2 g e rfl
  · rcases e with rfl | e
    · have := h.fu.qa.blk
      rw [this] at hg
      simp only [Option.some.injEq, Obj.cells.injEq] at hg
      exact h1 hg.2.1.symm
    · obtain ⟨cur, hc⟩ := row_ty h.fu.qa.row g e.symm
      rw [hc] at hg
      simp only [Option.some.injEq, Obj.cells.injEq] at hg
      exact ho.1 (by rw [← hg.2.1]; unfold mTy; decide)
theorem ys_cycle (h : YS w0 W L R T ps l T' qs k q pc u bs f y pc2 u2 bs2 f2) (hpc : R32 pc) (hf : goodF f) :
    Calls Try.prog 23 #[.pointer (some ⟨q, 0, none⟩)] W fun e w' => e = .returned (.tuple #[]) ∧ YS w0 w' L R T ps l T' qs k q (cycF T ps l pc u bs f).1 u (cycF T ps l pc u bs f).2.1 (cycF T ps l pc u bs f).2.2 y pc2 u2 bs2 f2 ∧ KeepB W w' := by
  obtain ⟨v, vp, ve, vb, yb, h⟩ := h
  exact (fu_cycle h.inMax hpc hf).mono fun e w' ⟨he, v', vb', k⟩ => ⟨he, h.ofMax k⟩
theorem ys_have (n : Nat) (h : YS w0 W L R T ps l T' qs k q pc u bs f y pc2 u2 bs2 f2) (hn : n ≤ bs.length) (hl : bs.length ≤ 16) :
    Calls Try.prog 25 #[.pointer (some ⟨q, 0, none⟩), .int .i64 n] W fun e w' => ∃ A1 c1, e = .returned (.tuple #[.slice A1 n c1, .agg #[.int .i64 0, .int .u32 0, .int .u32 0], .bool true]) ∧ w'.ownsRow W.heap.size 5 1 (.slice A1 n c1) n (nums .u8 (bs.take n)) ∧ YS w0 w' L R T ps l T' qs k q pc u (bs.drop n) f y pc2 u2 bs2 f2 ∧ KeepB W w' := by
  obtain ⟨v, vp, ve, vb, yb, h⟩ := h
  exact (fu_have n h.inMax hn hl).mono fun e w' ⟨A1, c1, he, o, v', vb', k⟩ => ⟨A1, c1, he, o, h.ofMax k⟩
theorem ys_none (m : Int) (h : YS w0 W L R T ps l T' qs k q pc u bs f y pc2 u2 bs2 f2) (hn : ¬ m ≤ bs.length) (h16 : m ≤ 16) :
    Calls Try.prog 25 #[.pointer (some ⟨q, 0, none⟩), .int .i64 m] W fun e w' => e = .returned (.tuple #[.slice none 0 0, .agg #[.int .i64 f.1, .int .u32 f.2.1, .int .u32 f.2.2], .bool (f.1 != 0)]) ∧ Below W.heap.size W w' := by
  obtain ⟨v, vp, ve, vb, yb, h⟩ := h
  exact fu_none m h.inMax hn h16
theorem ys_flush (pc' : Int) (u' : Bool) (h : YS w0 W L R T ps l T' qs k q pc u bs f y pc2 u2 bs2 f2) :
    Calls Try.prog 22 #[.pointer (some ⟨q, 0, none⟩), .int .u32 pc', .bool u'] W fun e w' => e = .returned (.tuple #[]) ∧ YS w0 w' L R T ps l T' qs k q pc' u' [] noF y pc2 u2 bs2 f2 ∧ KeepB W w' := by
  obtain ⟨v, vp, ve, vb, yb, h⟩ := h
  exact (fu_flush pc' u' h.inMax).mono fun e w' ⟨he, v', vb', k⟩ => ⟨he, h.ofMax k⟩
theorem ys_len (h : YS w0 W L R T ps l T' qs k q pc u bs f y pc2 u2 bs2 f2) :
    Calls Try.prog 26 #[.pointer (some ⟨q, 0, none⟩)] W fun e w' => e = .returned (.int .i64 bs.length) ∧ W = w' := by
  obtain ⟨v, vp, ve, vb, yb, h⟩ := h
  obtain ⟨A, c, rfl⟩ := Go.Proofs.Ytiogbgjeimdgmaa.MmuWalk.q_val h.fu.qa
  exact Go.Proofs.Ytiogbgjeimdgmaa.MmuWalk.flen_call W _ q L.m pc u A bs.length c bs f h.fu.qa
theorem ys_next (h : YS w0 W L R T ps l T' qs k q pc u bs f y pc2 u2 bs2 f2) :
    Calls Try.prog 27 #[.pointer (some ⟨q, 0, none⟩)] W fun e w' => e = .returned (.int .u32 pc) ∧ W = w' := by
  obtain ⟨v, vp, ve, vb, yb, h⟩ := h
  exact Go.Proofs.Ytiogbgjeimdgmaa.MmuWalk.fnext_call W _ q L.m pc u vb bs f h.fu.qa
/-- The document's queue goes on by one. -/
theorem ys_ycycle (h : YS w0 W L R T ps l T' qs k q pc u bs f y pc2 u2 bs2 f2) (hpc : R32 pc2) (hf : goodF f2) (hl : bs2.length ≤ 16) :
    Calls Try.prog 42 #[.pointer (some ⟨y, 0, none⟩)] W fun e w' => e = .returned (.tuple #[]) ∧ YS w0 w' L R T ps l T' qs k q pc u bs f y (cycF T' qs k pc2 u2 bs2 f2).1 u2 (cycF T' qs k pc2 u2 bs2 f2).2.1 (cycF T' qs k pc2 u2 bs2 f2).2.2 ∧ KeepB W w' := by
  obtain ⟨v, vp, ve, vb, yb, h⟩ := h
  have h0 : YS w0 W L R T ps l T' qs k q pc u bs f y pc2 u2 bs2 f2 := ⟨_, _, _, _, _, h⟩
  have same : KeepB W W := keepB_below (Below.refl _ _)
  obtain ⟨A, c, rfl⟩ := yq_val h.ya
  unfold cycF
  by_cases h16 : bs2.length = 16
  · rw [if_pos (.inl (by omega))]
    refine (ycycle_full W _ y R.m pc2 u2 A bs2.length c bs2 f2 h.ya h16).mono ?_
    rintro e w' ⟨rfl, rfl⟩
    exact ⟨rfl, h0, same⟩
  · by_cases hk : f2.1 = 0
    · have := hf hk
      subst this
      rw [if_neg (fun c => c.elim (fun c => h16 (by omega)) (fun k => k rfl))]
      have FD : ∀ W1, Below W.heap.size W W1 → Calls Try.prog 24 #[.pointer (some ⟨R.m, 0, none⟩), .int .u32 pc2, .int .i64 ((1 : Nat) : Int), .bool u2, .bool false, .bool false] W1 fun e w' => e = .returned (.tuple #[.int .u32 (findF T' qs k pc2 ((1 : Nat) : Int) u2 false).1, fltV (findF T' qs k pc2 ((1 : Nat) : Int) u2 false).2]) ∧ Below W1.heap.size W1 w' := fun W1 b => rfind_nk W1 _ R vp ve T' false qs k pc2 1 u2 false hpc (h.fu.du.r.then b)
      have hr := findF_r' (T := T') (ps := qs) (l := k) pc2 1 hpc u2 false
      have hfit := @findF_fit T' qs k pc2 1 u2 false
      rw [show ((1 : Nat) : Int) = 1 from rfl] at FD
      unfold peekF
      generalize findF T' qs k pc2 1 u2 false = r at *
      obtain ⟨pa, fk, fv, fi⟩ := r
      simp only at FD hr hfit ⊢
      by_cases hk2 : fk = 0
      · obtain ⟨hp, hz⟩ := hfit hk2
        simp only [noF, Prod.mk.injEq] at hz
        obtain ⟨rfl, rfl, rfl⟩ := hz
        rw [if_neg (fun c => c rfl), if_neg (fun c => c rfl)]
        obtain ⟨a, rfl⟩ : ∃ a : Nat, pa = a := ⟨pa.toNat, by have := hr.1; omega⟩
        refine (ycycle_byte W _ y R vp ve T' false qs k pc2 u2 A c bs2 h.fu.du.r h.ya (by omega) a (by omega) _ rfl ⟨fun W1 b => FD W1 b⟩).mono ?_
        rintro e w' ⟨yb', rfl, a', n', c'⟩
        exact ⟨rfl, h.stepY a' n' c', h.keepF (P := True) c' (fun i hi => .inr (.inr hi))⟩
      · rw [if_pos hk2, if_pos hk2]
        refine (ycycle_flt W _ y R pc2 u2 A c bs2 h.ya h16 pa fk fv fi (beq_eq_false_iff_ne.mpr hk2) ⟨fun W1 b => FD W1 b⟩).mono ?_
        rintro e w' ⟨rfl, a', c'⟩
        exact ⟨rfl, h.stepY a' (NextRow.same _ _) c', h.keepF (P := True) c' (fun i hi => .inr (.inr hi))⟩
    · rw [if_pos (.inr hk)]
      obtain ⟨fk, fv, fi⟩ := f2
      refine (ycycle_stop W _ y R.m pc2 fk fv fi u2 A bs2.length c bs2 h.ya h16 (beq_eq_false_iff_ne.mpr hk)).mono ?_
      rintro e w' ⟨rfl, rfl⟩
      exact ⟨rfl, h0, same⟩
/-- The document's Take of what is there. -/
def YHave (w0 W : World) (L R : LocR) (T : Tabs) (ps : List (Int × Int)) (l : List Int) (T' : Tabs) (qs : List (Int × Int)) (k : List Int) (q : Nat) (pc : Int) (u : Bool) (bs : List Int) (f : Flt) (y : Nat) (pc2 : Int) (u2 : Bool) (bs2 : List Int) (f2 : Flt) (n : Nat) (e : Ending) (w' : World) : Prop :=
  ∃ A1 c1, e = .returned (.tuple #[.slice A1 n c1, .agg #[.int .i64 0, .int .u32 0, .int .u32 0], .bool true]) ∧ ReadsInt w' .u8 A1 n (bs2.take n) ∧ YS w0 w' L R T ps l T' qs k q pc u bs f y pc2 u2 (bs2.drop n) f2 ∧ KeepB W w' ∧ Chg (fun i => i = y) W w'
theorem ys_yhave (n : Nat) (h : YS w0 W L R T ps l T' qs k q pc u bs f y pc2 u2 bs2 f2) (hn : n ≤ bs2.length) (hl : bs2.length ≤ 16) :
    Calls Try.prog 43 #[.pointer (some ⟨y, 0, none⟩), .int .i64 n] W (YHave w0 W L R T ps l T' qs k q pc u bs f y pc2 u2 bs2 f2 n) := by
  obtain ⟨v, vp, ve, vb, yb, h⟩ := h
  refine (ytake_have W _ y R.m pc2 u2 yb n bs2 f2 h.ya hn hl).mono ?_
  rintro e w' ⟨A1, c1, v2, rfl, hr, a', n', c'⟩
  exact ⟨A1, c1, rfl, hr, h.stepY a' n' (c'.mono (fun i hi => .inl hi)), h.keepF (P := True) c' (fun i hi => .inr (.inr (.inl hi))), c'⟩
theorem ys_ynone (m : Int) (h : YS w0 W L R T ps l T' qs k q pc u bs f y pc2 u2 bs2 f2) (hn : ¬ m ≤ bs2.length) (h16 : m ≤ 16) :
    Calls Try.prog 43 #[.pointer (some ⟨y, 0, none⟩), .int .i64 m] W fun e w' => e = .returned (.tuple #[.slice none 0 0, .agg #[.int .i64 f2.1, .int .u32 f2.2.1, .int .u32 f2.2.2], .bool (f2.1 != 0)]) ∧ Below W.heap.size W w' := by
  obtain ⟨v, vp, ve, vb, yb, h⟩ := h
  obtain ⟨A, c, rfl⟩ := yq_val h.ya
  obtain ⟨fk, fv, fi⟩ := f2
  exact ytake_none W _ y R.m pc2 fk fv fi u2 A c bs2.length m bs2 h.ya hn h16
/-- A write by the memory itself. -/
def rP (l : List Int) (va x : Int) : List Int := if va + 4 ≤ l.length then putL l va.toNat x 4 else l
theorem ys_rput (va x : Int) (hv : R32 va) (hx : R32 x) (h : YS w0 W L R T ps l T' qs k q pc u bs f y pc2 u2 bs2 f2) :
    Calls Try.prog 39 #[.pointer (some ⟨L.r, 0, none⟩), .int .u32 va, .int .u32 x, .int .i64 4] W fun e w' => ∃ c, e = .returned (.int .i64 c) ∧ YS w0 w' L R T ps (rP l va x) T' qs k q pc u bs f y pc2 u2 bs2 f2 ∧ KeepB W w' := by
  obtain ⟨v, vp, ve, vb, yb, h⟩ := h
  unfold rP
  by_cases hl : va + 4 ≤ l.length
  · rw [if_pos hl]
    refine (put_i W _ L.r L.b l.length L.c l va 4 x hx.1 hx.2 hv.1 hv.2 h.fu.du.m.ram (by decide) hl (by decide)).mono ?_
    rintro e w' ⟨rfl, hr, hg⟩
    have s := h.fu.du.m.ram_step (putL_length _ _ _ _) hr hg (putL_bytes _ h.fu.du.m.by_ _ _ _)
    exact ⟨_, rfl, h.stepM s, h.keepF (P := True) s.chg (fun i hi => .inl (.inl (.inl hi)))⟩
  · rw [if_neg hl]
    refine (put_bus_i W _ L.r L.b l.length L.c l va 4 x hv.1 hv.2 h.fu.du.m.ram (fun c => hl c.2.1)).mono ?_
    rintro e w' ⟨rfl, rfl⟩
    exact ⟨_, rfl, ⟨_, _, _, _, _, h⟩, keepB_below (Below.refl _ _)⟩
theorem ys_nput (va x : Int) (hv : R32 va) (hx : R32 x) (h : YS w0 W L R T ps l T' qs k q pc u bs f y pc2 u2 bs2 f2) :
    Calls Try.prog 44 #[.pointer (some ⟨R.r, 0, none⟩), .int .u32 va, .int .u32 x, .int .i64 4] W fun e w' => ∃ c, e = .returned (.int .i64 c) ∧ YS w0 w' L R T ps l T' qs (rP k va x) q pc u bs f y pc2 u2 bs2 f2 ∧ KeepB W w' := by
  obtain ⟨v, vp, ve, vb, yb, h⟩ := h
  unfold rP
  by_cases hl : va + 4 ≤ k.length
  · rw [if_pos hl]
    obtain ⟨a, rfl⟩ : ∃ a : Nat, va = a := ⟨va.toNat, by have := hv.1; omega⟩
    refine (rput_ok W _ R.r R.b R.c k a x hx (by have := hv.2; omega) h.fu.du.r.ram (by omega)).mono ?_
    rintro e w' ⟨rfl, hr, hg⟩
    have s := h.fu.du.r.ram_step (putL_length _ _ _ _) hr hg (putL_bytes _ h.fu.du.r.by_ _ _ _)
    exact ⟨_, rfl, h.stepR s, h.keepF (P := True) s.chg (fun i hi => .inl (.inr (.inl hi)))⟩
  · rw [if_neg hl]
    refine (rput_bus W _ R.r R.b R.c k va x hv h.fu.du.r.ram hl).mono ?_
    rintro e w' ⟨rfl, rfl⟩
    exact ⟨_, rfl, ⟨_, _, _, _, _, h⟩, keepB_below (Below.refl _ _)⟩
theorem ys_mput (va x : Int) (hv : R32 va) (hx : R32 x) (xs : List Pc) (fk fv fi : Int) (ps1 : List (Int × Int)) (p : Pcs T l false true true ps va (szI 4) xs (fk, fv, fi) ps1) (h : YS w0 W L R T ps l T' qs k q pc u bs f y pc2 u2 bs2 f2) :
    Calls Try.prog 40 #[.pointer (some ⟨L.m, 0, none⟩), .int .u32 va, .int .u32 x, .int .i64 4, .bool false] W fun e w' => e = .returned (.agg #[.int .i64 fk, .int .u32 fv, .int .u32 fi]) ∧ YS w0 w' L R T (storeP T xs fk ps1 l) (storeL T xs fk ps1 l (byL x (szI 4).toNat)) T' qs k q pc u bs f y pc2 u2 bs2 f2 ∧ KeepB W w' := by
  obtain ⟨v, vp, ve, vb, yb, h⟩ := h
  exact (mput_call W _ L v T ps l va x 4 false xs fk fv fi ps1 hv hx p h.fu.du.m).mono fun e w' ⟨he, s⟩ => ⟨he, h.stepM s, h.keepF (P := True) s.chg (fun i hi => .inl (.inl (.inl hi)))⟩
theorem ys_xstore {W2 : World} {A : Option Addr} {c : Nat} (va x : Int) (hv : R32 va) (xs : List Pc) (fk fv fi : Int) (qs1 : List (Int × Int)) (p : Pcs T' k false true true qs va (szI 4) xs (fk, fv, fi) qs1) (h : YS w0 W L R T ps l T' qs k q pc u bs f y pc2 u2 bs2 f2) (b : Below W.heap.size W W2)
    (ho : W2.ownsRow W.heap.size 5 1 (.slice A (szI 4).toNat c) (szI 4).toNat (nums .u8 (byL x (szI 4).toNat))) :
    Calls Try.prog 45 #[.pointer (some ⟨R.m, 0, none⟩), .int .u32 va, .bool false, .slice A (szI 4).toNat c] W2 fun e w' => e = .returned (.agg #[.int .i64 fk, .int .u32 fv, .int .u32 fi]) ∧ YS w0 w' L R T ps l T' (storeP T' xs fk qs1 k) (storeL T' xs fk qs1 k (byL x (szI 4).toNat)) q pc u bs f y pc2 u2 bs2 f2 ∧ KeepB W2 w' := by
  obtain ⟨v, vp, ve, vb, yb, h⟩ := h
  have h2 := h.then b
  have hz := szI_le 4
  obtain ⟨n, hn⟩ : ∃ n : Nat, szI 4 = n := ⟨(szI 4).toNat, by omega⟩
  rw [hn, Int.toNat_natCast] at ho
  rw [hn, Int.toNat_natCast]
  rw [hn] at p hz
  clear hn
  have ST := rstore_call W2 w0.heap.size R vp ve T' false qs k va false A n c (byL x n) xs fk fv fi qs1 (byL_length _ _) hv (by omega) (byL_bytes _ _) (own_reads' ho) (fun a ha hp g => ?_) p h2.fu.du.r
  refine ST.mono ?_
  rotate_left
  · have h1 := rmine_lt h.fu.du.r _ (.inl g)
    have h3 := own_base ho a.block (by subst ha; rfl)
    omega
  · rintro e w' ⟨he, s⟩
    exact ⟨he, h2.stepR s, h2.keepF (P := True) s.chg (fun i hi => .inl (.inr (.inl hi)))⟩
theorem ys_set (T2 : Tabs) (hT : T2.ok) (h : YS w0 W L R T ps l T' qs k q pc u bs f y pc2 u2 bs2 f2) :
    Calls Try.prog 20 #[.pointer (some ⟨L.m, 0, none⟩), .agg #[.int .u32 T2.p0b, .int .u32 T2.p0l, .int .u32 T2.sb, .int .u32 T2.sl, .int .u32 T2.men]] W fun e w' => e = .returned (.tuple #[]) ∧ YS w0 w' L R T2 [] l T' qs k q pc u bs f y pc2 u2 bs2 f2 ∧ KeepB W w' := by
  obtain ⟨v, vp, ve, vb, yb, h⟩ := h
  exact (mset_call W _ L v T T2 ps l h.fu.du.m hT).mono fun e w' ⟨he, s⟩ => ⟨he, h.stepM s, h.keepF (P := True) s.chg (fun i hi => .inl (.inl (.inl hi)))⟩
theorem ys_put5 (T2 : Tabs) (hT : T2.ok) (h : YS w0 W L R T ps l T' qs k q pc u bs f y pc2 u2 bs2 f2) : YS w0 (put5 W R.m T2) L R T ps l T2 qs k q pc u bs f y pc2 u2 bs2 f2 ∧ KeepB W (put5 W R.m T2) := by
  obtain ⟨v, vp, ve, vb, yb, h⟩ := h
  have s := rm_put5_step h.fu.du.r T2 hT
  exact ⟨h.stepR s, h.keepF (P := True) s.chg (fun i hi => .inl (.inr (.inl hi)))⟩
theorem ys_clear (h : YS w0 W L R T ps l T' qs k q pc u bs f y pc2 u2 bs2 f2) :
    Calls Try.prog 47 #[.pointer (some ⟨R.t, 0, none⟩)] W fun e w' => e = .returned (.tuple #[]) ∧ YS w0 w' L R T ps l T' [] k q pc u bs f y pc2 u2 bs2 f2 ∧ KeepB W w' := by
  obtain ⟨v, vp, ve, vb, yb, h⟩ := h
  refine (tclear_call W _ R.t vp ve qs h.fu.du.r.tlb).mono ?_
  rintro e w' ⟨he, s⟩
  have s := h.fu.du.r.tlb_step s (fun p hp => by cases hp) List.nodup_nil
  exact ⟨he, h.stepR s, h.keepF (P := True) s.chg (fun i hi => .inl (.inr (.inl hi)))⟩
/-- The document's queue, made anew in its place. -/
def put7 (W : World) (y m : Nat) (pc : Int) (u : Bool) : World := ((((((W.setCell ⟨y, 0, none⟩ (.pointer (some ⟨m, 0, none⟩))).setCell ⟨y, 1, none⟩ (.int .u32 pc)).setCell ⟨y, 2, none⟩ (.bool u)).setCell ⟨y, 3, none⟩ (.slice none 0 0)).setCell ⟨y, 4, none⟩ (.int .i64 0)).setCell ⟨y, 5, none⟩ (.int .u32 0)).setCell ⟨y, 6, none⟩ (.int .u32 0)
theorem ys_put7 (pc' : Int) (u' : Bool) (h : YS w0 W L R T ps l T' qs k q pc u bs f y pc2 u2 bs2 f2) : YS w0 (put7 W y R.m pc' u') L R T ps l T' qs k q pc u bs f y pc' u' [] noF ∧ KeepB W (put7 W y R.m pc' u') := by
  obtain ⟨v, vp, ve, vb, yb, h⟩ := h
  obtain ⟨a0, c0⟩ := yq_put h.ya (pc' := pc2) (u' := u2) (f' := f2) 0 (.pointer (some ⟨R.m, 0, none⟩)) (blk_put h.ya.blk 0 _ rfl)
  obtain ⟨a, c1⟩ := yflush_end a0 pc' u'
  have c := c0.trans c1 (fun i _ e => e)
  exact ⟨h.stepY a (NextRow.nil _ _) (c.mono (fun i hi => .inl hi)), h.keepF (P := True) c (fun i hi => .inr (.inr (.inl hi)))⟩
end
theorem ys_new {w0 W : World} {L R : LocR} {v vp ve : Value} {T T' : Tabs} {ps qs : List (Int × Int)} {l k : List Int} {q : Nat} {vb : Value} {pc : Int} {u : Bool} {bs : List Int} {f : Flt} (h : FU w0 w0 (fun _ => False) W L R v vp ve T ps l T' false qs k q vb pc u bs f) :
    YS w0 (W.alloc (.cells (qCells R.m 0 false (.slice none 0 0) noF) 83 (0, 0))) L R T ps l T' qs k q pc u bs f W.heap.size 0 false [] noF := by
  refine ⟨v, vp, ve, vb, .slice none 0 0, h.then (below_alloc (Below.refl _ _) _), ⟨heap_alloc_new _ _, h.du.below.size, World.ownsRow_nil _ _ _ _⟩, fun i hi => ?_⟩
  have hi : W.heap.size ≤ i := by
    rcases hi with rfl | hi
    · exact Nat.le_refl _
    · simp [Value.ownBlock] at hi
  exact ⟨fun e => by have := h.lt i (.inl e); omega, fun e => by have := h.lt i (.inr e); omega⟩
end Go.Proofs.Ytiogbgjeimdgmaa.RefWalk
