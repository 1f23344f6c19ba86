/- The document's MMU: Places, walked. -/
import Derived.Test.YtiogbgjeimdgmaaRefF
namespace Go.Proofs.Ytiogbgjeimdgmaa.RefWalk
open Go.RowKit Go.Proofs.Ytiogbgjeimdgmaa.Aid Go.Proofs.YtiogbgjeimdgmaaW.PrintWords Go.Proofs.YtiogbgjeimdgmaaW.PrintLast Go.Proofs.YtiogbgjeimdgmaaW.PrintMore
open Go.Proofs.Ytiogbgjeimdgmaa.MmuWalk (Chg R32 Flt fltV noF flt infoF Tabs row_ty own_keep two_ty findF findP findF_fit findF_r' box1 row_then flt3_put Pc Pcs Pcs.good Pcs.fit stepN stepN_pos)
open Go.Proofs.Ytiogbgjeimdgmaa.RamWalk (Bytes leN)
open Go.Proofs.Ytiogbgjeimdgmaa.TlbWalk (RefAt own_then own_val own_some info22)
attribute [local go_sem] max2_int min2_int max_two min_two max_three min_three max_four min_four   -- for this text's walks alone
set_option linter.unusedVariables false
set_option linter.unusedSimpArgs false
/-- The places of the pieces' bytes. -/
def adr (pa : Int) (k : Nat) : List Int := (List.range k).map fun i => pa + (i : Nat)
def addrL (xs : List Pc) : List Int := xs.flatMap fun p => adr p.2.1 p.2.2
theorem adr_length (pa : Int) (k : Nat) : (adr pa k).length = k := by unfold adr; rw [List.length_map, List.length_range]
theorem adr_next (pa : Int) (k : Nat) : adr pa (k + 1) = adr pa k ++ [pa + (k : Nat)] := by
  unfold adr; rw [List.range_succ, List.map_append]; rfl
theorem addrL_snoc (xs : List Pc) (p : Pc) : addrL (xs ++ [p]) = addrL xs ++ adr p.2.1 p.2.2 := by
  unfold addrL; rw [List.flatMap_append]; simp
/-- At the head of the loop. -/
structure GHead (w wr : World) (base : Nat) (L : LocR) (vp ve : Value) (T : Tabs) (pl : Bool) (l : List Int) (u wt : Bool) (xs : List Pc) (f : Flt) (ps' : List (Int × Int)) (n0 va n : Int) (vo : Value) (acc : List Pc) (psc : List (Int × Int)) (ys : List Pc) : Prop where
  at_ : ∃ vp1 ve1, RmAt wr base L vp1 ve1 T pl psc l ∧ Nx w vp ve vp1 ∧ Nx w vp ve ve1 ∧ Off wr L vp1 ve1 vo
  chg : Chg (rfoot L vp ve) w wr
  box : wr.heap[w.heap.size]? = some (.cells #[.int .i64 0, .int .u32 0, .int .u32 0] 47 (0, 0))
  row : wr.ownsRow w.heap.size 23 1 vo (addrL acc).length (nums .u32 (addrL acc))
  vr : R32 va
  n1 : n ≤ n0
  n2 : 0 ≤ n ∨ n = n0
  n3 : (addrL acc).length + n.toNat ≤ n0.toNat
  pcs : Pcs T l u wt (!pl) psc va n ys f ps'
  all : (if f.1 = 0 then acc ++ ys else []) = xs
/-- What Places leaves. -/
structure Placed (w w' : World) (base : Nat) (L : LocR) (vp ve : Value) (T : Tabs) (pl : Bool) (ps' : List (Int × Int)) (l : List Int) (vo : Value) (zs : List Int) : Prop where
  at_ : ∃ vp1 ve1, RmAt w' base L vp1 ve1 T pl ps' l ∧ Nx w vp ve vp1 ∧ Nx w vp ve ve1 ∧ Off w' L vp1 ve1 vo
  chg : Chg (rfoot L vp ve) w w'
  row : w'.ownsRow w.heap.size 23 1 vo zs.length (nums .u32 zs)
theorem Pcs.done_inv {T : Tabs} {l : List Int} {u wr keep : Bool} {ps : List (Int × Int)} {va n : Int} {xs : List Pc} {f : Flt} {ps' : List (Int × Int)} (h : Pcs T l u wr keep ps va n xs f ps') (hn : n ≤ 0) : xs = [] ∧ f = noF ∧ ps' = ps := by
  cases h with
  | done _ => exact ⟨rfl, rfl, rfl⟩
  | stop h _ => omega
  | more h _ _ => omega
theorem Pcs.stop_inv {T : Tabs} {l : List Int} {u wr keep : Bool} {ps : List (Int × Int)} {va n : Int} {xs : List Pc} {f : Flt} {ps' : List (Int × Int)} (h : Pcs T l u wr keep ps va n xs f ps') (hn : 0 < n) (hf : (findF T ps l va (stepN va n) u wr).2.1 ≠ 0) : xs = [] ∧ f = (findF T ps l va (stepN va n) u wr).2 ∧ ps' = findP T ps l va u wr keep := by
  cases h with
  | done _ => omega
  | stop _ _ => exact ⟨rfl, rfl, rfl⟩
  | more _ hf' _ => exact absurd hf' hf
theorem Pcs.more_inv {T : Tabs} {l : List Int} {u wr keep : Bool} {ps : List (Int × Int)} {va n : Int} {xs : List Pc} {f : Flt} {ps' : List (Int × Int)} (h : Pcs T l u wr keep ps va n xs f ps') (hn : 0 < n) (hf : (findF T ps l va (stepN va n) u wr).2.1 = 0) : ∃ ys, Pcs T l u wr keep (findP T ps l va u wr keep) ((va + stepN va n) % 4294967296) (n - stepN va n) ys f ps' ∧ xs = if f.1 = 0 then (va, (findF T ps l va (stepN va n) u wr).1, (stepN va n).toNat) :: ys else [] := by
  cases h with
  | done _ => omega
  | stop _ hf' => exact absurd hf hf'
  | more _ _ k => exact ⟨_, k, rfl⟩
/-- In the loop of a piece's bytes. -/
structure IHead (w V wr : World) (base : Nat) (L : LocR) (vp2 ve2 o0 : Value) (T : Tabs) (pl : Bool) (l : List Int) (ps2 : List (Int × Int)) (acc : List Pc) (pa : Int) (j : Nat) (vo : Value) : Prop where
  at_ : RmAt wr base L vp2 ve2 T pl ps2 l
  off : Off wr L vp2 ve2 vo
  row : wr.ownsRow w.heap.size 23 1 vo (addrL acc ++ adr pa j).length (nums .u32 (addrL acc ++ adr pa j))
  chg : Chg (fun i => o0.ownBlock = some i) V wr
  nx : ∀ i, vo.ownBlock = some i → o0.ownBlock = some i ∨ V.heap.size ≤ i
theorem IHead.next {w V wr w1 : World} {base : Nat} {L : LocR} {vp2 ve2 o0 o o1 : Value} {T : Tabs} {pl : Bool} {l : List Int} {ps2 : List (Int × Int)} {acc : List Pc} {pa : Int} {j : Nat} (I : IHead w V wr base L vp2 ve2 o0 T pl l ps2 acc pa j o)
    (ho : w1.ownsRow w.heap.size 23 1 o1 (addrL acc ++ adr pa j ++ [pa + (j : Nat)]).length (nums .u32 (addrL acc ++ adr pa j ++ [pa + (j : Nat)]))) (hg : wr.grownBy w1 o.ownBlock) (hat : o1.ownBlock = o.ownBlock ∨ ∃ b, o1.ownBlock = some b ∧ wr.heap.size ≤ b) : IHead w V w1 base L vp2 ve2 o0 T pl l ps2 acc pa (j + 1) o1 := by
  refine ⟨I.at_.grown I.off hg, I.off.grown I.at_ hat ho hg.size, ?_, chg_grown I.chg hg (fun i hi hl => ?_), fun i hi => ?_⟩
  · rw [adr_next, ← List.append_assoc]; exact ho
  · rcases I.nx i hi with h | h
    · exact h
    · omega
  · rcases hat with h | ⟨b, h, hb⟩
    · exact I.nx i (h ▸ hi)
    · rw [h] at hi
      simp only [Option.some.injEq] at hi
      have := I.chg.size
      exact .inr (by omega)
theorem GHead.next {w wr V w1 : World} {base : Nat} {L : LocR} {vp ve vp2 ve2 vo o : Value} {T : Tabs} {pl : Bool} {l : List Int} {u wt : Bool} {xs : List Pc} {f : Flt} {ps' : List (Int × Int)} {n0 va n : Int} {acc : List Pc} {psc ps2 : List (Int × Int)} {ys ys' : List Pc} {pa : Int} {jn : Nat} (G : GHead w wr base L vp ve T pl l u wt xs f ps' n0 va n vo acc psc ys)
    (cV : Chg (rfoot L vp ve) w V) (bx : V.heap[w.heap.size]? = some (.cells #[.int .i64 0, .int .u32 0, .int .u32 0] 47 (0, 0))) (rV : ∀ i, vo.ownBlock = some i → w.heap.size ≤ i ∧ ∃ cur, V.heap[i]? = some (.cells cur 23 (0, 0))) (n1 : Nx w vp ve vp2) (n2 : Nx w vp ve ve2) (I : IHead w V w1 base L vp2 ve2 vo T pl l ps2 acc pa jn o)
    (hn : 0 < n) (hj1 : (jn : Int) ≤ n) (hp : Pcs T l u wt (!pl) ps2 ((va + jn) % 4294967296) (n - jn) ys' f ps') (hy : ys = if f.1 = 0 then (va, pa, jn) :: ys' else []) : GHead w w1 base L vp ve T pl l u wt xs f ps' n0 ((va + jn) % 4294967296) (n - jn) o (acc ++ [(va, pa, jn)]) ps2 ys' := by
  refine ⟨⟨vp2, ve2, I.at_, n1, n2, I.off⟩, cV.trans I.chg (fun i hi f => by have := (rV i f).1; omega), ?_, ?_, ⟨Int.emod_nonneg _ (by decide), Int.emod_lt_of_pos _ (by decide)⟩, by have := G.n1; omega, .inl (by omega), ?_, hp, ?_⟩
  · refine (I.chg.block _ (Array.getElem?_eq_some_iff.1 bx).1 (fun f => ?_)).trans bx
    obtain ⟨cur, this⟩ := (rV _ f).2
    rw [bx] at this
    simp at this
  · rw [addrL_snoc]; exact I.row
  · have := G.n3
    rw [addrL_snoc, List.length_append, adr_length]
    show _ + jn + _ ≤ _
    omega
  · have := G.all
    by_cases hf : f.1 = 0
    · rw [if_pos hf] at this hy ⊢
      rw [← this, hy, List.append_assoc]; rfl
    · rw [if_neg hf] at this ⊢; exact this
set_option maxRecDepth 100000 in
set_option maxHeartbeats 8000000 in
theorem rplaces_is (w : World) (base : Nat) (L : LocR) (vp ve : Value) (T : Tabs) (pl : Bool) (ps : List (Int × Int)) (l : List Int) (va n : Int) (u wt : Bool) (hv : R32 va) (hn : n ≤ 65536) (hn0 : -9223372036854775808 ≤ n) (xs : List Pc) (fk fv fi : Int) (ps' : List (Int × Int)) (hp : Pcs T l u wt (!pl) ps va n xs (fk, fv, fi) ps') (h : RmAt w base L vp ve T pl ps l) :
    Calls Try.prog 70 #[.pointer (some ⟨L.m, 0, none⟩), .int .u32 va, .int .i64 n, .bool u, .bool wt] w fun e w' => ∃ A c, e = .returned (.tuple #[.slice A (addrL xs).length c, .agg #[.int .i64 fk, .int .u32 fv, .int .u32 fi]]) ∧ Placed w w' base L vp ve T pl ps' l (.slice A (addrL xs).length c) (addrL xs) := by
  have M := Aside0.mk h
  have HV := Aside0.mk hv
  have HN := Aside0.mk (And.intro hn hn0)
  have HP := Aside0.mk hp
  have BX := box1 w (.cells #[.int .i64 0, .int .u32 0, .int .u32 0] 47 (0, 0))
  obtain ⟨W, hW⟩ : ∃ W, w.alloc (.cells #[.int .i64 0, .int .u32 0, .int .u32 0] 47 (0, 0)) = W := ⟨_, rfl⟩
  rw [hW] at BX
  have Z := Aside0.mk BX.2
  have BB := Aside0.mk BX.1
  clear h BX hv hn hn0 hp
  go_enter Try.func70, Try.ntmps70
  go_wp2_with fail
  go_loopw [1, 2, 12] (fun a b o wr => ∃ va' n' acc psc ys, a = .int .u32 va' ∧ b = .int .i64 n' ∧ Aside0 (GHead w wr base L vp ve T pl l u wt xs (fk, fv, fi) ps' n va' n' o acc psc ys)) (fun _ b _ _ => (intOf b).toNat)
  case atStart =>
    refine ⟨va, n, [], ps, xs, rfl, rfl, ⟨⟨⟨vp, ve, M.out.then BB.out, Nx.p _ _ _, Nx.e _ _ _, Off.nil _ _ _ _⟩, Chg.of_below BB.out _, Z.out, World.ownsRow_nil _ _ _ _, HV.out, Int.le_refl _, .inr rfl, by show 0 + _ ≤ _; omega, HP.out, ?_⟩⟩⟩
    by_cases hf : fk = 0
    · rw [if_pos hf]; rfl
    · rw [if_neg hf]; exact (HP.out.good.2 hf).symm
  case round =>
    obtain ⟨va', n', acc, psc, ys, rfl, rfl, G⟩ := hrel
    obtain ⟨vp1, ve1, m1, nx1, nx2, of1⟩ := G.out.at_
    by_cases hn : n' ≤ 0
    · have hn1 : ¬ 0 < n' := by omega
      obtain ⟨e1, e2, e3⟩ := Pcs.done_inv G.out.pcs hn
      simp only [noF, Prod.mk.injEq] at e2
      have HE := Aside0.mk (show acc = xs ∧ fk = 0 ∧ fv = 0 ∧ fi = 0 ∧ ps' = psc from ⟨by have := G.out.all; rw [if_pos e2.1, e1, List.append_nil] at this; exact this, e2.1, e2.2.1, e2.2.2, e3⟩)
      clear hn e1 e2 e3
      obtain ⟨A14, c14, rfl⟩ := own_val G.out.row
      have M1 := Aside0.mk m1
      have OF1 := Aside0.mk of1
      have NX := Aside0.mk (And.intro nx1 nx2)
      clear m1 of1 nx1 nx2
      go_wp2_with (first
        | (refine wpList_store_row rfl 47 (.tmp 11) (.tmp 60) rfl w.heap.size #[.int .i64 0, .int .u32 0, .int .u32 0] rfl rfl _ _ G.out.box infoF rfl (by kernel_rfl) ?_))
      refine bodyPost_ret (results_tc rfl _ _ w.heap.size 47 #[.int .i64 0, .int .u32 0, .int .u32 0] (0, 0) _ rfl (setRow_heap _ _ _ _ 47 _ G.out.box) Try.underlying47 rfl infoF) rfl ?_
      obtain ⟨h1, h2, h3, h4, h5⟩ := HE.out
      have hk : ∀ i, i ≠ w.heap.size → (wr.setRow w.heap.size #[.int .i64 0, .int .u32 0, .int .u32 0]).heap[i]? = wr.heap[i]? := fun i hi => setRow_other wr w.heap.size i _ hi
      refine ⟨A14, c14, by rw [← h1, h2, h3, h4]; rfl, ⟨⟨vp1, ve1, by rw [h5]; exact M1.out.keep (fun i k => hk i (M1.out.ne_ty G.out.box (by unfold rTy; decide) i k)), NX.out.1, NX.out.2, by rw [← h1]; exact OF1.out.up (by simp [World.setRow])⟩, ⟨G.out.chg.os, G.out.chg.tape, G.out.chg.output, by simp [World.setRow]; exact G.out.chg.size, fun i hi hf => (hk i (by omega)).trans (G.out.chg.block i hi hf)⟩, by
        rw [← h1]
        exact own_keep G.out.row (fun i hi => hk i (fun e => by obtain ⟨cur, hc⟩ := row_ty G.out.row i hi; rw [e, G.out.box] at hc; simp at hc))⟩⟩
    · have hn1 : 0 < n' := by omega
      obtain ⟨j1, j2, j3⟩ := stepN_pos (va := va') hn1
      obtain ⟨r, hr⟩ : ∃ r, va' % 512 = r := ⟨_, rfl⟩
      have hr0 : 0 ≤ r ∧ r < 512 := by omega
      have hv0 : 0 ≤ va' := G.out.vr.1
      have hr1 : Int.tmod va' 512 = r := by rw [Int.tmod_eq_emod_of_nonneg hv0, hr]
      have hr2 : wrap64 r = r := wrap64_in (by omega) (by omega)
      have hr3 : wrap64 (512 - r) = 512 - r := wrap64_in (by omega) (by omega)
      obtain ⟨jn, hjn⟩ : ∃ jn : Nat, (jn : Int) = stepN va' n' := ⟨(stepN va' n').toNat, by omega⟩
      by_cases hlt : n' < 512 - r
      · have hjk : (jn : Int) = n' := by rw [hjn]; unfold stepN; rw [hr, if_pos hlt]
        have FD0 := rfind_call wr base L vp1 ve1 T pl psc l va' jn u wt true G.out.vr m1
        rw [Bool.true_and] at FD0
        have FG0 := @findF_fit T psc l va' jn u wt
        have FR0 := @findF_r' T psc l va' jn G.out.vr u wt
        have FS0 := Pcs.stop_inv G.out.pcs hn1
        have FM0 := Pcs.more_inv G.out.pcs hn1
        rw [← hjn] at FS0 FM0
        unfold fltV at FD0
        generalize findP T psc l va' u wt (!pl) = ps2 at *
        generalize findF T psc l va' jn u wt = res at *
        obtain ⟨pa, gk, gv, gi⟩ := res
        rw [Int.toNat_natCast] at FM0
        rw [hjk] at FD0
        have FD := Aside0.mk FD0
        have FM := Aside0.mk FM0
        have FS := Aside0.mk FS0
        have FR := Aside0.mk FR0
        have FG := Aside0.mk FG0
        have M1 := Aside0.mk m1
        have OF1 := Aside0.mk of1
        have NX := Aside0.mk (And.intro nx1 nx2)
        have HJ := Aside0.mk (And.intro hn1 (And.intro hjn (And.intro j1 (And.intro j2 j3))))
        have hbx := G.out.box
        clear m1 of1 nx1 nx2 FD0 FM0 FS0 FR0 FG0 hjn j1 j2 j3 hbx
        by_cases hk : gk = 0
        · subst hk
          obtain ⟨ys', hpc, hys⟩ := FM.out rfl
          have HPC := Aside0.mk hpc
          have HYS := Aside0.mk hys
          have hfit := (FG.out rfl).1
          have hpr := FR.out.1
          have hml := M1.out.ram.2.2.2.2
          simp only at hfit hpr
          have HF := Aside0.mk (And.intro hfit (And.intro hpr hml))
          clear hpc hys hfit hpr hml
          go_wp2_with (first
            | (go_at_call 24; (with_reducible refine (FD.out).mono ?_); rintro e w2 ⟨rfl, s⟩; have S2 := Aside0.mk s; clear s))
          obtain ⟨vp2, ve2, m2, n1, n2⟩ := S2.out.at_
          have bl := below_alloc (Below.refl _ w2) (.cells #[.int .i64 0, .int .u32 gv, .int .u32 gi] 47 (0, 0))
          have M2 := Aside0.mk (m2.then bl)
          have OF2 := Aside0.mk ((OF1.out.step n1 n2 S2.out.chg.size).up bl.size)
          have ROW2 := Aside0.mk (own_then (OF1.out.keep S2.out G.out.row) bl)
          have BOX2 := Aside0.mk (row_then (S2.out.box M1.out G.out.box (by unfold rTy; decide)) bl)
          have CHG2 := Aside0.mk ((G.out.chg.trans S2.out.chg (fun i hi f => rfoot_of NX.out.1 NX.out.2 i hi f)).then bl)
          have NX2 := Aside0.mk (And.intro (Nx.trans NX.out.1 NX.out.2 n1 G.out.chg.size) (Nx.trans NX.out.1 NX.out.2 n2 G.out.chg.size))
          clear m2 n1 n2 bl
          generalize w2.alloc (.cells #[.int .i64 0, .int .u32 gv, .int .u32 gi] 47 (0, 0)) = V at *
          obtain ⟨wc, rfl⟩ : ∃ wc : World, wc = wr := ⟨_, rfl⟩
          obtain ⟨o0, ho0⟩ : ∃ o0 : Value, o0 = u12 := ⟨_, rfl⟩
          rw [← ho0] at OF2 ROW2 G ⊢
          have RV := Aside0.mk (show ∀ i, o0.ownBlock = some i → w.heap.size ≤ i ∧ ∃ cur, V.heap[i]? = some (.cells cur 23 (0, 0)) from fun i hi => ⟨own_base ROW2.out i hi, row_ty ROW2.out i hi⟩)
          clear ho0
          go_loopw [12, 16] (fun o i wq => ∃ j : Nat, j ≤ jn ∧ i = .int .i64 j ∧ Aside0 (IHead w V wq base L vp2 ve2 o0 T pl l ps2 acc pa j o)) (fun _ i _ => jn - (intOf i).toNat)
          case atStart => exact ⟨0, Nat.zero_le _, rfl, ⟨⟨M2.out, OF2.out, by have := ROW2.out; rw [show adr pa 0 = [] from rfl, List.append_nil]; exact this, Chg.refl _ _, fun i hi => .inl hi⟩⟩⟩
          case round =>
            obtain ⟨j, hj, rfl, I⟩ := hrel
            by_cases hjj : j = jn
            · subst hjj
              have hjl : (j : Int) < 4294967296 ∧ (0 : Int) ≤ j := by have := HJ.out; have := HN.out; have := G.out.n1; omega
              have hw1 : (n') % 4294967296 = n' := by omega
              have hw2 : wrap64 (n' - (n')) = n' - (n') := by have := HJ.out; have := HN.out; have := G.out.n1; exact wrap64_in (by omega) (by omega)
              have X := GHead.next G.out CHG2.out BOX2.out RV.out NX2.out.1 NX2.out.2 I.out HJ.out.1 (by have := HJ.out; omega) HPC.out HYS.out
              rw [hjk] at X
              have X := Aside0.mk X
              have HJK := Aside0.mk hjk
              have HW2 := Aside0.mk hw2
              clear hjl
              go_wp2
              go_roundw
              case rel => exact ⟨_, _, acc ++ [(va', pa, j)], ps2, ys', rfl, rfl, ⟨by have X := X.out; first | exact X | (rw [HW2.out]; exact X) | (rw [Int.sub_self] at X; exact X)⟩⟩
              case measure => have := HJ.out; have := HJK.out; simp [intOf]; omega
            · skip
              have hj' : j < jn := by omega
              have hjl : (j : Int) < 4294967296 := by have := HJ.out; omega
              have a1 : (j : Int) % 4294967296 = j := by omega
              have a2 : (pa + (j : Int)) % 4294967296 = pa + j := by have := HF.out; omega
              have a3 : (j : Int) < n' := by omega
              have hlen : ((addrL acc ++ adr pa j).length + 1) * 4 ≤ 140737488355328 := by rw [List.length_append, adr_length]; have := G.out.n3; have := HN.out; have := HJ.out; omega
              have HJ2 := Aside0.mk hj'
              have HSZ := Aside0.mk (Nat.le_trans CHG2.out.size I.out.chg.size)
              go_wp2_with (first
                | (at_builtin; refine print_append_num (w0 := wr) (W := wr) w.heap.size rfl (.tmp 45) (.tmp 50) 58 23 .u32 4 rfl Try.underlying58 info22 (by decide) u12 (addrL acc ++ adr pa j) (pa + (j : Nat)) rfl (by simp [Act.eval]) I.out.row (Below.refl _ _) HSZ.out hlen ?_; intro o1 w1 ho1 hb1 hg1 hat1; have I1 := Aside0.mk (IHead.next I.out ho1 hg1 hat1); clear ho1 hb1 hg1 hat1))
              go_roundw
              case rel => exact ⟨j + 1, HJ2.out, by go_num, I1⟩
              case measure => have := HJ2.out; simp [intOf]; omega
        · have hk' : (gk == 0) = false := beq_eq_false_iff_ne.mpr hk
          have FSS := FS.out hk
          have HFS := Aside0.mk FSS
          clear FSS
          go_wp2_with (first
            | (go_at_call 24; (with_reducible refine (FD.out).mono ?_); rintro e w2 ⟨rfl, s⟩; have S2 := Aside0.mk s; clear s))
          obtain ⟨vp2, ve2, m2, n1, n2⟩ := S2.out.at_
          have bl := below_alloc (Below.refl _ w2) (.cells #[.int .i64 gk, .int .u32 gv, .int .u32 gi] 47 (0, 0))
          have M2 := Aside0.mk (m2.then bl)
          have y := heap_alloc_new w2 (.cells #[.int .i64 gk, .int .u32 gv, .int .u32 gi] 47 (0, 0))
          have BOX2 := Aside0.mk (row_then (S2.out.box M1.out G.out.box (by unfold rTy; decide)) bl)
          have CHG2 := Aside0.mk ((G.out.chg.trans S2.out.chg (fun i hi f => rfoot_of NX.out.1 NX.out.2 i hi f)).then bl)
          have NX2 := Aside0.mk (And.intro (Nx.trans NX.out.1 NX.out.2 n1 G.out.chg.size) (Nx.trans NX.out.1 NX.out.2 n2 G.out.chg.size))
          have hzl := G.out.chg.size
          have hzs := S2.out.chg.size
          have hne : ¬ w2.heap.size = w.heap.size := by have := (Array.getElem?_eq_some_iff.1 G.out.box).1; omega
          clear m2 n1 n2 bl hzl hzs
          generalize w2.alloc (.cells #[.int .i64 gk, .int .u32 gv, .int .u32 gi] 47 (0, 0)) = V at *
          have y0 := cell_of_row _ _ 0 _ _ _ y
          have y1 := cell_of_row _ _ 1 _ _ _ y
          have y2 := cell_of_row _ _ 2 _ _ _ y
          have z0 := cell_of_row _ _ 0 _ _ _ BOX2.out
          have z1 := cell_of_row _ _ 1 _ _ _ BOX2.out
          have z2 := cell_of_row _ _ 2 _ _ _ BOX2.out
          have g0 := frozen_of_row _ _ 0 _ _ BOX2.out
          have g1 := frozen_of_row _ _ 1 _ _ BOX2.out
          have g2 := frozen_of_row _ _ 2 _ _ BOX2.out
          simp only [List.getElem?_toArray, List.getElem?_cons_zero, List.getElem?_cons_succ] at y0 y1 y2 z0 z1 z2
          have Y := Aside0.mk y
          clear y
          go_region
          all_goals (
            go_wp2
            refine bodyPost_ret (results_tc rfl _ _ w.heap.size 47 #[.int .i64 gk, .int .u32 gv, .int .u32 gi] (0, 0) _ rfl (flt3_put BOX2.out _ _ _) Try.underlying47 rfl infoF) rfl ?_
            obtain ⟨q1, q2, q3⟩ := HFS.out
            simp only [Prod.mk.injEq] at q2
            have qx : xs = [] := by have := G.out.all; rw [if_neg (by rw [q2.1]; exact hk)] at this; exact this.symm
            have SS : RStep w V base L vp ve T pl ps2 l := ⟨⟨vp2, ve2, M2.out, NX2.out.1, NX2.out.2⟩, CHG2.out⟩
            have S3 := RStep.put3 SS (Nat.le_refl _) BOX2.out (by unfold rTy; decide) (.int .i64 gk) (.int .u32 gv) (.int .u32 gi)
            obtain ⟨⟨vp3, ve3, m3, a1, a2⟩, c3⟩ := S3
            exact ⟨none, 0, by rw [qx, q2.1, q2.2.1, q2.2.2]; rfl, ⟨⟨vp3, ve3, by rw [q3]; exact m3, a1, a2, by rw [qx]; exact Off.nil _ _ _ _⟩, c3, by rw [qx]; exact World.ownsRow_nil _ _ _ _⟩⟩)
      · have hjk : (jn : Int) = 512 - r := by rw [hjn]; unfold stepN; rw [hr, if_neg hlt]
        have FD0 := rfind_call wr base L vp1 ve1 T pl psc l va' jn u wt true G.out.vr m1
        rw [Bool.true_and] at FD0
        have FG0 := @findF_fit T psc l va' jn u wt
        have FR0 := @findF_r' T psc l va' jn G.out.vr u wt
        have FS0 := Pcs.stop_inv G.out.pcs hn1
        have FM0 := Pcs.more_inv G.out.pcs hn1
        rw [← hjn] at FS0 FM0
        unfold fltV at FD0
        generalize findP T psc l va' u wt (!pl) = ps2 at *
        generalize findF T psc l va' jn u wt = res at *
        obtain ⟨pa, gk, gv, gi⟩ := res
        rw [Int.toNat_natCast] at FM0
        rw [hjk] at FD0
        have FD := Aside0.mk FD0
        have FM := Aside0.mk FM0
        have FS := Aside0.mk FS0
        have FR := Aside0.mk FR0
        have FG := Aside0.mk FG0
        have M1 := Aside0.mk m1
        have OF1 := Aside0.mk of1
        have NX := Aside0.mk (And.intro nx1 nx2)
        have HJ := Aside0.mk (And.intro hn1 (And.intro hjn (And.intro j1 (And.intro j2 j3))))
        have hbx := G.out.box
        clear m1 of1 nx1 nx2 FD0 FM0 FS0 FR0 FG0 hjn j1 j2 j3 hbx
        by_cases hk : gk = 0
        · subst hk
          obtain ⟨ys', hpc, hys⟩ := FM.out rfl
          have HPC := Aside0.mk hpc
          have HYS := Aside0.mk hys
          have hfit := (FG.out rfl).1
          have hpr := FR.out.1
          have hml := M1.out.ram.2.2.2.2
          simp only at hfit hpr
          have HF := Aside0.mk (And.intro hfit (And.intro hpr hml))
          clear hpc hys hfit hpr hml
          go_wp2_with (first
            | (go_at_call 24; (with_reducible refine (FD.out).mono ?_); rintro e w2 ⟨rfl, s⟩; have S2 := Aside0.mk s; clear s))
          obtain ⟨vp2, ve2, m2, n1, n2⟩ := S2.out.at_
          have bl := below_alloc (Below.refl _ w2) (.cells #[.int .i64 0, .int .u32 gv, .int .u32 gi] 47 (0, 0))
          have M2 := Aside0.mk (m2.then bl)
          have OF2 := Aside0.mk ((OF1.out.step n1 n2 S2.out.chg.size).up bl.size)
          have ROW2 := Aside0.mk (own_then (OF1.out.keep S2.out G.out.row) bl)
          have BOX2 := Aside0.mk (row_then (S2.out.box M1.out G.out.box (by unfold rTy; decide)) bl)
          have CHG2 := Aside0.mk ((G.out.chg.trans S2.out.chg (fun i hi f => rfoot_of NX.out.1 NX.out.2 i hi f)).then bl)
          have NX2 := Aside0.mk (And.intro (Nx.trans NX.out.1 NX.out.2 n1 G.out.chg.size) (Nx.trans NX.out.1 NX.out.2 n2 G.out.chg.size))
          clear m2 n1 n2 bl
          generalize w2.alloc (.cells #[.int .i64 0, .int .u32 gv, .int .u32 gi] 47 (0, 0)) = V at *
          obtain ⟨wc, rfl⟩ : ∃ wc : World, wc = wr := ⟨_, rfl⟩
          obtain ⟨o0, ho0⟩ : ∃ o0 : Value, o0 = u12 := ⟨_, rfl⟩
          rw [← ho0] at OF2 ROW2 G ⊢
          have RV := Aside0.mk (show ∀ i, o0.ownBlock = some i → w.heap.size ≤ i ∧ ∃ cur, V.heap[i]? = some (.cells cur 23 (0, 0)) from fun i hi => ⟨own_base ROW2.out i hi, row_ty ROW2.out i hi⟩)
          clear ho0
          go_loopw [12, 16] (fun o i wq => ∃ j : Nat, j ≤ jn ∧ i = .int .i64 j ∧ Aside0 (IHead w V wq base L vp2 ve2 o0 T pl l ps2 acc pa j o)) (fun _ i _ => jn - (intOf i).toNat)
          case atStart => exact ⟨0, Nat.zero_le _, rfl, ⟨⟨M2.out, OF2.out, by have := ROW2.out; rw [show adr pa 0 = [] from rfl, List.append_nil]; exact this, Chg.refl _ _, fun i hi => .inl hi⟩⟩⟩
          case round =>
            obtain ⟨j, hj, rfl, I⟩ := hrel
            by_cases hjj : j = jn
            · subst hjj
              have hjl : (j : Int) < 4294967296 ∧ (0 : Int) ≤ j := by have := HJ.out; have := HN.out; have := G.out.n1; omega
              have hw1 : (512 - r) % 4294967296 = 512 - r := by omega
              have hw2 : wrap64 (n' - (512 - r)) = n' - (512 - r) := by have := HJ.out; have := HN.out; have := G.out.n1; exact wrap64_in (by omega) (by omega)
              have X := GHead.next G.out CHG2.out BOX2.out RV.out NX2.out.1 NX2.out.2 I.out HJ.out.1 (by have := HJ.out; omega) HPC.out HYS.out
              rw [hjk] at X
              have X := Aside0.mk X
              have HJK := Aside0.mk hjk
              have HW2 := Aside0.mk hw2
              clear hjl
              go_wp2
              go_roundw
              case rel => exact ⟨_, _, acc ++ [(va', pa, j)], ps2, ys', rfl, rfl, ⟨by have X := X.out; first | exact X | (rw [HW2.out]; exact X) | (rw [Int.sub_self] at X; exact X)⟩⟩
              case measure => have := HJ.out; have := HJK.out; simp [intOf]; omega
            · skip
              have hj' : j < jn := by omega
              have hjl : (j : Int) < 4294967296 := by have := HJ.out; omega
              have a1 : (j : Int) % 4294967296 = j := by omega
              have a2 : (pa + (j : Int)) % 4294967296 = pa + j := by have := HF.out; omega
              have a3 : (j : Int) < 512 - r := by omega
              have hlen : ((addrL acc ++ adr pa j).length + 1) * 4 ≤ 140737488355328 := by rw [List.length_append, adr_length]; have := G.out.n3; have := HN.out; have := HJ.out; omega
              have HJ2 := Aside0.mk hj'
              have HSZ := Aside0.mk (Nat.le_trans CHG2.out.size I.out.chg.size)
              go_wp2_with (first
                | (at_builtin; refine print_append_num (w0 := wr) (W := wr) w.heap.size rfl (.tmp 45) (.tmp 50) 58 23 .u32 4 rfl Try.underlying58 info22 (by decide) u12 (addrL acc ++ adr pa j) (pa + (j : Nat)) rfl (by simp [Act.eval]) I.out.row (Below.refl _ _) HSZ.out hlen ?_; intro o1 w1 ho1 hb1 hg1 hat1; have I1 := Aside0.mk (IHead.next I.out ho1 hg1 hat1); clear ho1 hb1 hg1 hat1))
              go_roundw
              case rel => exact ⟨j + 1, HJ2.out, by go_num, I1⟩
              case measure => have := HJ2.out; simp [intOf]; omega
        · have hk' : (gk == 0) = false := beq_eq_false_iff_ne.mpr hk
          have FSS := FS.out hk
          have HFS := Aside0.mk FSS
          clear FSS
          go_wp2_with (first
            | (go_at_call 24; (with_reducible refine (FD.out).mono ?_); rintro e w2 ⟨rfl, s⟩; have S2 := Aside0.mk s; clear s))
          obtain ⟨vp2, ve2, m2, n1, n2⟩ := S2.out.at_
          have bl := below_alloc (Below.refl _ w2) (.cells #[.int .i64 gk, .int .u32 gv, .int .u32 gi] 47 (0, 0))
          have M2 := Aside0.mk (m2.then bl)
          have y := heap_alloc_new w2 (.cells #[.int .i64 gk, .int .u32 gv, .int .u32 gi] 47 (0, 0))
          have BOX2 := Aside0.mk (row_then (S2.out.box M1.out G.out.box (by unfold rTy; decide)) bl)
          have CHG2 := Aside0.mk ((G.out.chg.trans S2.out.chg (fun i hi f => rfoot_of NX.out.1 NX.out.2 i hi f)).then bl)
          have NX2 := Aside0.mk (And.intro (Nx.trans NX.out.1 NX.out.2 n1 G.out.chg.size) (Nx.trans NX.out.1 NX.out.2 n2 G.out.chg.size))
          have hzl := G.out.chg.size
          have hzs := S2.out.chg.size
          have hne : ¬ w2.heap.size = w.heap.size := by have := (Array.getElem?_eq_some_iff.1 G.out.box).1; omega
          clear m2 n1 n2 bl hzl hzs
          generalize w2.alloc (.cells #[.int .i64 gk, .int .u32 gv, .int .u32 gi] 47 (0, 0)) = V at *
          have y0 := cell_of_row _ _ 0 _ _ _ y
          have y1 := cell_of_row _ _ 1 _ _ _ y
          have y2 := cell_of_row _ _ 2 _ _ _ y
          have z0 := cell_of_row _ _ 0 _ _ _ BOX2.out
          have z1 := cell_of_row _ _ 1 _ _ _ BOX2.out
          have z2 := cell_of_row _ _ 2 _ _ _ BOX2.out
          have g0 := frozen_of_row _ _ 0 _ _ BOX2.out
          have g1 := frozen_of_row _ _ 1 _ _ BOX2.out
          have g2 := frozen_of_row _ _ 2 _ _ BOX2.out
          simp only [List.getElem?_toArray, List.getElem?_cons_zero, List.getElem?_cons_succ] at y0 y1 y2 z0 z1 z2
          have Y := Aside0.mk y
          clear y
          go_region
          all_goals (
            go_wp2
            refine bodyPost_ret (results_tc rfl _ _ w.heap.size 47 #[.int .i64 gk, .int .u32 gv, .int .u32 gi] (0, 0) _ rfl (flt3_put BOX2.out _ _ _) Try.underlying47 rfl infoF) rfl ?_
            obtain ⟨q1, q2, q3⟩ := HFS.out
            simp only [Prod.mk.injEq] at q2
            have qx : xs = [] := by have := G.out.all; rw [if_neg (by rw [q2.1]; exact hk)] at this; exact this.symm
            have SS : RStep w V base L vp ve T pl ps2 l := ⟨⟨vp2, ve2, M2.out, NX2.out.1, NX2.out.2⟩, CHG2.out⟩
            have S3 := RStep.put3 SS (Nat.le_refl _) BOX2.out (by unfold rTy; decide) (.int .i64 gk) (.int .u32 gv) (.int .u32 gi)
            obtain ⟨⟨vp3, ve3, m3, a1, a2⟩, c3⟩ := S3
            exact ⟨none, 0, by rw [qx, q2.1, q2.2.1, q2.2.2]; rfl, ⟨⟨vp3, ve3, by rw [q3]; exact m3, a1, a2, by rw [qx]; exact Off.nil _ _ _ _⟩, c3, by rw [qx]; exact World.ownsRow_nil _ _ _ _⟩⟩)
end Go.Proofs.Ytiogbgjeimdgmaa.RefWalk
