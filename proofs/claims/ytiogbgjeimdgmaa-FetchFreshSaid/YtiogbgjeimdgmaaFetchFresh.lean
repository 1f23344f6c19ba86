/- Behind a Flush a queue is as a new one that is flushed so, whatever it had: the walk of FetchFresh. -/
import Derived.Test.YtiogbgjeimdgmaaFetG
import Derived.Test.YtiogbgjeimdgmaaWSized
namespace Go.Proofs.YtiogbgjeimdgmaaW.PrintWords
open Go.RowKit in
def IsRow (k : IntKind) (w : World) (a : Option Addr) (len cap : Nat) (zs : List Int) : Prop :=
  (a = none ∧ len = 0 ∧ cap = 0 ∧ zs = []) ∨
  ∃ x, a = some x ∧ len ≤ cap ∧ cap ≤ maxLen ∧ zs.length = cap ∧ (∀ i, i < zs.length → w.cell? (x.add i) = some (.int k (zs.getD i 0))) ∧ ∀ n ∈ zs, (Lit.int k n).wf = true
end Go.Proofs.YtiogbgjeimdgmaaW.PrintWords
namespace Go.Proofs.Ytiogbgjeimdgmaa.MmuWalk
open Go.RowKit Go.Proofs.Ytiogbgjeimdgmaa.Aid Go.Proofs.YtiogbgjeimdgmaaW.PrintWords Go.Proofs.YtiogbgjeimdgmaaW.PrintLast Go.Proofs.YtiogbgjeimdgmaaW.PrintMore
open Go.Proofs.Ytiogbgjeimdgmaa.RamWalk (RamAt Bytes leN new_nat load_n)
open Go.Proofs.Ytiogbgjeimdgmaa.TlbWalk (own_val own_then)
attribute [local go_sem] max2_int min2_int max_two min_two max_three min_three max_four min_four   -- for this text's walks alone
set_option linter.unusedVariables false
set_option linter.unusedSimpArgs false
theorem pset (w0 W : World) (L : Loc) (T T' : Tabs) (ps : List (Int × Int)) (l : List Int) (h : MP w0 W L T ps l) (hT : T'.ok) :
    Calls Try.prog 20 #[.pointer (some ⟨L.m, 0, none⟩), .agg #[.int .u32 T'.p0b, .int .u32 T'.p0l, .int .u32 T'.sb, .int .u32 T'.sl, .int .u32 T'.men]] W fun e w' => e = .returned (.tuple #[]) ∧ MP w0 w' L T' [] l := by
  obtain ⟨b, v, m⟩ := h
  refine (mset_call W _ L v T T' ps l m hT).mono ?_
  rintro e w' ⟨rfl, s⟩
  exact ⟨rfl, MP.step b m s⟩
theorem own_far {W W' : World} {B p n : Nat} {v : Value} {X : List Value} (h : W.ownsRow B 5 1 v n X) (c : Chg (fun i => i = p) W W') (hp : p < B) : W'.ownsRow B 5 1 v n X :=
  own_keep h fun i hi => c.block i (by obtain ⟨cur, hc⟩ := row_cells h i hi; exact (Array.getElem?_eq_some_iff.1 hc).1) (fun e => by
    rcases h.2 with ⟨rfl, _⟩ | ⟨b, cc, cur, rfl, hb, _⟩
    · simp [Value.ownBlock] at hi
    · simp only [Value.ownBlock, Option.some.injEq] at hi
      omega)
theorem cycF_ok (T : Tabs) (ps : List (Int × Int)) (l : List Int) (s : Qs) (h : s.ok) : Qs.ok ⟨(cycF T ps l s.pc s.u s.bs s.f).1, s.u, (cycF T ps l s.pc s.u s.bs s.f).2.1, (cycF T ps l s.pc s.u s.bs s.f).2.2⟩ := by
  refine ⟨cycF_pc h.1, cycF_good h.2.1, ?_⟩
  show (cycF T ps l s.pc s.u s.bs s.f).2.1.length ≤ 16
  have := h.2.2
  unfold cycF
  split
  · exact this
  · rename_i hn
    split
    · exact this
    · show (s.bs ++ [_]).length ≤ 16
      rw [List.length_append, List.length_singleton]; omega
theorem fresh_off (A : Option Addr) (n c : Nat) (T : Tabs) (was pc k : Int) (w : World) (h : 8192 < n ∨ k < 0 ∨ 60 < k) :
    Calls Try.prog 4 #[.slice A n c, .agg #[.int .u32 T.p0b, .int .u32 T.p0l, .int .u32 T.sb, .int .u32 T.sl, .int .u32 T.men], .int .u32 was, .int .u32 pc, .int .i64 k] w fun e w' => e = .returned (.bool true) ∧ Below w.heap.size w w' := by
  by_cases h1 : 8192 < n
  · have h2 : (8192 : Int) < n := by omega
    clear h
    go_enter Try.func4, Try.ntmps4
    go_wp2_with (first
      | (go_at_call 13; (with_reducible refine (falive_call _).mono ?_); rintro e w0 ⟨rfl, hb0⟩; have B0 := Aside0.mk (below_step (below_alloc (Below.refl w.heap.size w) _) hb0); clear hb0))
    go_ret
    exact ⟨rfl, B0.out⟩
  · have h2 : ¬ (8192 : Int) < n := by omega
    by_cases h3 : k < 0
    · clear h
      go_enter Try.func4, Try.ntmps4
      go_wp2_with (first
        | (go_at_call 13; (with_reducible refine (falive_call _).mono ?_); rintro e w0 ⟨rfl, hb0⟩; have B0 := Aside0.mk (below_step (below_alloc (Below.refl w.heap.size w) _) hb0); clear hb0))
      go_ret
      exact ⟨rfl, B0.out⟩
    · have h4 : 60 < k := by omega
      clear h
      go_enter Try.func4, Try.ntmps4
      go_wp2_with (first
        | (go_at_call 13; (with_reducible refine (falive_call _).mono ?_); rintro e w0 ⟨rfl, hb0⟩; have B0 := Aside0.mk (below_step (below_alloc (Below.refl w.heap.size w) _) hb0); clear hb0))
      go_ret
      exact ⟨rfl, B0.out⟩
set_option maxRecDepth 100000 in
set_option maxHeartbeats 8000000 in
theorem fresh_ok (A : Option Addr) (c : Nat) (l : List Int) (T : Tabs) (was pc : Int) (k : Nat) (w : World) (hn : l.length ≤ 8192) (hk : k ≤ 60) (hl : ReadsInt w .u8 A l.length l) (hb : Bytes l) (hT : T.ok) (hwas : R32 was) (hpc : R32 pc) :
    Calls Try.prog 4 #[.slice A l.length c, .agg #[.int .u32 T.p0b, .int .u32 T.p0l, .int .u32 T.sb, .int .u32 T.sl, .int .u32 T.men], .int .u32 was, .int .u32 pc, .int .i64 k] w fun e w' => e = .returned (.bool true) ∧ Below w.heap.size w w' := by
  have HL := Aside0.mk hl
  have HB := Aside0.mk hb
  have HT := Aside0.mk hT
  have HP := Aside0.mk hpc
  have HW := Aside0.mk hwas
  have NEW := Aside0.mk (fun w => new_nat l.length w (by omega))
  have ST := Aside0.mk (fun (w : World) (X : List Int) (n : Nat) (hX : X.length = n) (A : Option Addr) (c : Nat) (h : ReadsInt w .u8 A n X) => (by subst hX; exact string_of_reads (P := Try.prog) Try.underlying22 Try.underlying5 Try.underlying9 h : (convert 22 9 (.slice A n c)).run Try.prog w = .ok (.string (strOfNums X)) w))
  have h2 : ¬ (8192 : Int) < l.length := by omega
  have h3 : ¬ (k : Int) < 0 := by omega
  have h4 : ¬ 60 < (k : Int) := by omega
  clear hl hb hT hpc hwas
  go_enter Try.func4, Try.ntmps4
  go_wp2_with (first
    | (go_at_call 13; (with_reducible refine (falive_call _).mono ?_); rintro e w0 ⟨rfl, hb0⟩; have B0 := Aside0.mk (below_step (below_alloc (Below.refl w.heap.size w) _) hb0); have X0 := Aside0.mk (row_then (heap_alloc_new w _) hb0); clear hb0)
    | (go_at_call 14; (with_reducible refine (NEW.out _).mono ?_); rintro e w1 ⟨gr, b, rfl, hr, hbel⟩; have R1 := Aside0.mk hr; have B1 := Aside0.mk hbel; clear hr hbel)
    | (go_at_call 16; (with_reducible refine (load_n _ _ _ _ _ _ _ l _ _ R1.out (HL.out.below (below_step B0.out B1.out))).mono ?_); rintro e w2 ⟨rfl, hr, hg⟩; have R2 := Aside0.mk hr; have B2 := Aside0.mk (ram_below B1.out R1.out hg); clear hr hg)
    | (go_at_call 18; (with_reducible refine (pmnew w0 _ _ _ _ _ l rfl B2.out R2.out HB.out).mono ?_); rintro e w3 ⟨L, rfl, hLr, hm⟩; have M3 := Aside0.mk hm; have t3 := cell_of_row _ _ 0 _ _ _ (row_then X0.out hm.1); have t4 := cell_of_row _ _ 1 _ _ _ (row_then X0.out hm.1); have t5 := cell_of_row _ _ 2 _ _ _ (row_then X0.out hm.1); have t6 := cell_of_row _ _ 3 _ _ _ (row_then X0.out hm.1); have t7 := cell_of_row _ _ 4 _ _ _ (row_then X0.out hm.1); clear hm hLr)
    | (go_at_call 20; (with_reducible refine (pset _ _ _ _ T _ _ M3.out HT.out).mono ?_); rintro e w4 ⟨rfl, hm⟩; have M4 := Aside0.mk hm; clear hm)
    | (go_at_call 21; (with_reducible refine (pnew _ _ _ _ _ _ M4.out).mono ?_); rintro e w5 ⟨q, rfl, hf⟩; have F5 := Aside0.mk hf; clear hf)
    | (go_at_call 21; (with_reducible refine (f2_new _ _ _ _ _ _ _ _ _ _ _ F5.out).mono ?_); rintro e w6 ⟨p, rfl, hf⟩; have F6 := Aside0.mk hf; clear hf)
    | (go_at_call 22; (with_reducible refine (f2_flush _ _ _ _ _ _ _ _ _ _ was true F6.out).mono ?_); rintro e w7 ⟨rfl, hf⟩; have F7 := Aside0.mk hf; clear hf))
  have G7 : Aside0 (Qs.ok ⟨was, true, [], noF⟩) := ⟨⟨HW.out, good0, Nat.zero_le _⟩⟩
  clear t3 t4 t5 t6 t7
  go_loopw [15] (fun iv wr => ∃ i : Nat, i ≤ k ∧ iv = .int .i64 i ∧ Aside0 (∃ s : Qs, s.ok ∧ FP2 w0 wr L T [] l q p s ⟨0, false, [], noF⟩)) (fun iv _ => k - (intOf iv).toNat)
  case atStart => exact ⟨0, Nat.zero_le _, rfl, ⟨_, G7.out, F7.out⟩⟩
  case round =>
    obtain ⟨i, hi, rfl, R⟩ := hrel
    obtain ⟨s, hs, hf⟩ := R.out
    have S1 := Aside0.mk hs
    have F8 := Aside0.mk hf
    clear hs hf R
    by_cases hik : i = k
    · subst hik
      go_wp2_with (first
        | (go_at_call 22; (with_reducible refine (f2_flush _ _ _ _ _ _ _ _ _ _ pc false F8.out).mono ?_); rintro e w8 ⟨rfl, hf⟩; have F9 := Aside0.mk hf; clear hf)
        | (go_at_call 22; (with_reducible refine (f2_flush _ _ _ _ _ _ _ _ _ _ pc false F9.out.swap).mono ?_); rintro e w9 ⟨rfl, hf⟩; have F10 := Aside0.mk hf.swap; clear hf))
      have G9 : Aside0 (Qs.ok ⟨pc, false, [], noF⟩) := ⟨⟨HP.out, good0, Nat.zero_le _⟩⟩
      go_loopw [16] (fun iv wq => ∃ j : Nat, j ≤ i ∧ iv = .int .i64 j ∧ Aside0 (∃ s : Qs, s.ok ∧ FP2 w0 wq L T [] l q p s s)) (fun iv _ => i - (intOf iv).toNat)
      case atStart => exact ⟨0, Nat.zero_le _, rfl, ⟨_, G9.out, F10.out⟩⟩
      case round =>
        obtain ⟨j, hj, rfl, R⟩ := hrel
        obtain ⟨s0, hs, hf⟩ := R.out
        have S2 := Aside0.mk hs
        have F11 := Aside0.mk hf
        clear hs hf R
        by_cases hji : j = i
        · subst hji
          go_wp2
          go_ret
          exact ⟨rfl, below_step B0.out F11.out.1⟩
        · have hj1 : (j : Int) < i := by omega
          have HJ := Aside0.mk (show j < i by omega)
          have hj3 : 0 ≤ (j : Int) := by omega
          have hj4 : (j : Int) ≤ 60 := by omega
          have S3 := Aside0.mk (cycF_ok T [] l s0 S2.out)
          have C1 := Aside0.mk (fun W t (h : FP2 w0 W L T [] l q p s0 t) => f2_cycle w0 W L T [] l q p s0 t h S2.out)
          have C2 := Aside0.mk (fun W t (h : FP2 w0 W L T [] l p q s0 t) => f2_cycle w0 W L T [] l p q s0 t h S2.out)
          generalize (⟨(cycF T [] l s0.pc s0.u s0.bs s0.f).1, s0.u, (cycF T [] l s0.pc s0.u s0.bs s0.f).2.1, (cycF T [] l s0.pc s0.u s0.bs s0.f).2.2⟩ : Qs) = s1 at *
          obtain ⟨r, hr⟩ : ∃ r, Int.tmod (j : Int) 3 = r := ⟨_, rfl⟩
          have hr0 : 0 ≤ r ∧ r ≤ 2 := by rw [← hr, Int.tmod_eq_emod_of_nonneg hj3]; omega
          have r0 := hr0.1
          have r1 := hr0.2
          have LQ := Aside0.mk S3.out.2.2
          obtain ⟨n, hnr⟩ : ∃ n : Nat, (n : Int) = 1 + r := ⟨(1 + r).toNat, by omega⟩
          have HN := Aside0.mk hnr
          have NP := Aside0.mk (show 0 < n by omega)
          have hw1 : wrap64 (1 + r) = 1 + r := wrap64_in (by omega) (by omega)
          clear hnr hr0
          by_cases hh : n ≤ s1.bs.length
          · have TL := Aside0.mk (show (s1.bs.take n).length = n by rw [List.length_take]; omega)
            have S4 : Aside0 (Qs.ok ⟨s1.pc, s1.u, s1.bs.drop n, s1.f⟩) := ⟨⟨S3.out.1, S3.out.2.1, by show (s1.bs.drop n).length ≤ 16; rw [List.length_drop]; have := LQ.out; omega⟩⟩
            have HH := Aside0.mk hh
            clear hh
            go_wp2_with (first
              | (go_at_call 23; (with_reducible refine (C1.out _ _ F11.out).mono ?_); rintro e w12 ⟨rfl, hf⟩; have F12 := Aside0.mk hf; clear hf)
              | (go_at_call 23; (with_reducible refine (C2.out _ _ F12.out.swap).mono ?_); rintro e w13 ⟨rfl, hf⟩; have F13 := Aside0.mk hf.swap; clear hf)
              | (go_at_call 25; (with_reducible refine (f2_have _ _ _ _ _ _ _ _ _ _ n _ HN.out F13.out NP.out HH.out S3.out).mono ?_); rintro e w14 ⟨b1, c1, rfl, ho, hf, hc⟩; have F14 := Aside0.mk (fun o => hf.then (below_alloc (Below.refl _ _) o)); have O14 := Aside0.mk (fun o => own_then ho (below_alloc (Below.refl _ _) o)); have L13 := Aside0.mk (f2_lt F13.out).2; have L14 := Aside0.mk hc.size; clear ho hf hc)
              | (go_at_call 25; (with_reducible refine (f2_have _ _ _ _ _ _ _ _ _ _ n _ HN.out (F14.out _).swap NP.out HH.out S3.out).mono ?_); rintro e w15 ⟨b2, c2, rfl, ho, hf, hc⟩; have F15 := Aside0.mk (fun o => (hf.then (below_alloc (Below.refl _ _) o)).swap); have X15 := Aside0.mk (own_far (O14.out _) hc L13.out); have s9 := fun o => ST.out (w15.alloc o) _ n TL.out _ c1 (own_reads' (own_then X15.out (below_alloc (Below.refl _ _) o))); have s8 := fun o => ST.out (w15.alloc o) _ n TL.out _ c2 (own_reads' (own_then ho (below_alloc (Below.refl _ _) o))); have x0 := fun o j => cell_of_row (w15.alloc o) w14.heap.size j _ _ _ (row_then ((hc.block w14.heap.size (by simp [World.alloc_eq]) (by have := L13.out; have := L14.out; omega)).trans (heap_alloc_new w14 _)) (below_alloc (Below.refl _ _) o)); clear ho hf hc)
              | (go_at_call 26; (with_reducible refine (f2_len _ _ _ _ _ _ _ _ _ _ (F15.out _)).mono ?_); rintro e w16 ⟨rfl, rfl⟩)
              | (go_at_call 26; (with_reducible refine (f2_len _ _ _ _ _ _ _ _ _ _ (F15.out _).swap).mono ?_); rintro e w16 ⟨rfl, rfl⟩)
              | (go_at_call 27; (with_reducible refine (f2_next _ _ _ _ _ _ _ _ _ _ (F15.out _)).mono ?_); rintro e w16 ⟨rfl, rfl⟩)
              | (go_at_call 27; (with_reducible refine (f2_next _ _ _ _ _ _ _ _ _ _ (F15.out _).swap).mono ?_); rintro e w16 ⟨rfl, rfl⟩))
            go_roundw
            case rel => exact ⟨j + 1, HJ.out, by go_num, ⟨_, S4.out, F15.out _⟩⟩
            case measure => have := HJ.out; simp [intOf]; omega
          · have hn1 : ¬ (1 + r) ≤ (s1.bs.length : Int) := by have := HN.out; omega
            have N1 : Aside0 ((s1.bs.length : Int) < 1 + r) := ⟨by omega⟩
            have N2 := Aside0.mk (show (1 + r) ≤ (16 : Int) by omega)
            have s8 := fun W => ST.out W [] 0 rfl none 0 (ReadsInt.nil _ _)
            clear hn1 hh
            go_wp2_with (first
              | (go_at_call 23; (with_reducible refine (C1.out _ _ F11.out).mono ?_); rintro e w12 ⟨rfl, hf⟩; have F12 := Aside0.mk hf; clear hf)
              | (go_at_call 23; (with_reducible refine (C2.out _ _ F12.out.swap).mono ?_); rintro e w13 ⟨rfl, hf⟩; have F13 := Aside0.mk hf.swap; clear hf)
              | (go_at_call 25; (with_reducible refine (f2_none _ _ _ _ _ _ _ _ _ _ _ F13.out (Int.not_le.mpr N1.out) N2.out).mono ?_); rintro e w14 ⟨rfl, hf, hb⟩; have F14 := Aside0.mk (fun o => hf.then (below_alloc (Below.refl _ _) o)); clear hf hb)
              | (go_at_call 25; (with_reducible refine (f2_none _ _ _ _ _ _ _ _ _ _ _ (F14.out _).swap (Int.not_le.mpr N1.out) N2.out).mono ?_); rintro e w15 ⟨rfl, hf, hb⟩; have F15 := Aside0.mk (fun o => (hf.then (below_alloc (Below.refl _ _) o)).swap); have x0 := fun o j => cell_of_row (w15.alloc o) w14.heap.size j _ _ _ (row_then (heap_alloc_new w14 _) (below_step hb (below_alloc (Below.refl _ _) o))); clear hf hb)
              | (go_at_call 26; (with_reducible refine (f2_len _ _ _ _ _ _ _ _ _ _ (F15.out _)).mono ?_); rintro e w16 ⟨rfl, rfl⟩)
              | (go_at_call 26; (with_reducible refine (f2_len _ _ _ _ _ _ _ _ _ _ (F15.out _).swap).mono ?_); rintro e w16 ⟨rfl, rfl⟩)
              | (go_at_call 27; (with_reducible refine (f2_next _ _ _ _ _ _ _ _ _ _ (F15.out _)).mono ?_); rintro e w16 ⟨rfl, rfl⟩)
              | (go_at_call 27; (with_reducible refine (f2_next _ _ _ _ _ _ _ _ _ _ (F15.out _).swap).mono ?_); rintro e w16 ⟨rfl, rfl⟩))
            go_roundw
            case rel => exact ⟨j + 1, HJ.out, by go_num, ⟨_, S3.out, F15.out _⟩⟩
            case measure => have := HJ.out; simp [intOf]; omega
    · have hik1 : (i : Int) < k := by omega
      have HI := Aside0.mk (show i < k by omega)
      have S3 := Aside0.mk (cycF_ok T [] l s S1.out)
      have C1 := Aside0.mk (f2_cycle w0 wr L T [] l q p s _ F8.out S1.out)
      generalize (⟨(cycF T [] l s.pc s.u s.bs s.f).1, s.u, (cycF T [] l s.pc s.u s.bs s.f).2.1, (cycF T [] l s.pc s.u s.bs s.f).2.2⟩ : Qs) = s1 at *
      go_wp2_with (first
        | (go_at_call 23; (with_reducible refine (C1.out).mono ?_); rintro e w9 ⟨rfl, hf⟩; have F9 := Aside0.mk hf; clear hf))
      go_roundw
      case rel => exact ⟨i + 1, HI.out, by go_num, ⟨_, S3.out, F9.out⟩⟩
      case measure => have := HI.out; simp [intOf]; omega
theorem u32_r {x : Int} (h : (Lit.int .u32 x).wf = true) : R32 x := by
  obtain ⟨n, rfl, hn⟩ := u32_nat h
  unfold R32; omega
theorem FetchFresh_walk (a0 : Option Addr) (len0 cap0 : Nat) (z0 : List Int) (t1 t2 t3 t4 t5 was pc k : Int) (w : World) (w0 : IsRow .u8 w a0 len0 cap0 z0) (_ : len0 * 1 ≤ 140737488351232)
    (h1 : (Lit.int .u32 t1).wf = true) (h2 : (Lit.int .u32 t2).wf = true) (h3 : (Lit.int .u32 t3).wf = true) (h4 : (Lit.int .u32 t4).wf = true) (h5 : (Lit.int .u32 t5).wf = true) (hw : (Lit.int .u32 was).wf = true) (hp : (Lit.int .u32 pc).wf = true) (_ : (Lit.int .i64 k).wf = true) :
    Calls Try.prog 4 #[.slice a0 len0 cap0, .agg #[.int .u32 t1, .int .u32 t2, .int .u32 t3, .int .u32 t4, .int .u32 t5], .int .u32 was, .int .u32 pc, .int .i64 k] w fun e w' => e = .returned (.bool true) ∧ Below w.heap.size w w' := by
  obtain ⟨l, rfl, hr, hm, hwf, hc⟩ := ReadsInt.ofRowC w0
  by_cases h : 8192 < l.length ∨ k < 0 ∨ 60 < k
  · exact fresh_off a0 _ cap0 ⟨t1, t2, t3, t4, t5⟩ was pc k w h
  · obtain ⟨n, rfl⟩ : ∃ n : Nat, k = n := ⟨k.toNat, by omega⟩
    exact fresh_ok a0 cap0 l ⟨t1, t2, t3, t4, t5⟩ was pc n w (by omega) (by omega) hr (fun x hx => by obtain ⟨j, rfl, hj⟩ := u8_nat (hwf x hx); omega) ⟨u32_r h1, u32_r h2, u32_r h3, u32_r h4, u32_r h5⟩ (u32_r hw) (u32_r hp)
end Go.Proofs.Ytiogbgjeimdgmaa.MmuWalk
