/- A queue never has more bytes than may be, and nothing is buffered for it: the walk of FetchRoom. -/
import Derived.Test.YtiogbgjeimdgmaaFetF
import Derived.Test.YtiogbgjeimdgmaaWSized
namespace Go.Proofs.YtiogbgjeimdgmaaW.PrintWords
open Go.RowKit in
def IsRow (k : IntKind) (w : World) (a : Option Addr) (len cap : Nat) (zs : List Int) : Prop :=
  (a = none ∧ len = 0 ∧ cap = 0 ∧ zs = []) ∨
  ∃ x, a = some x ∧ len ≤ cap ∧ cap ≤ maxLen ∧ zs.length = cap ∧ (∀ i, i < zs.length → w.cell? (x.add i) = some (.int k (zs.getD i 0))) ∧ ∀ n ∈ zs, (Lit.int k n).wf = true
end Go.Proofs.YtiogbgjeimdgmaaW.PrintWords
namespace Go.Proofs.Ytiogbgjeimdgmaa.MmuWalk
open Go.RowKit Go.Proofs.Ytiogbgjeimdgmaa.Aid Go.Proofs.YtiogbgjeimdgmaaW.PrintWords Go.Proofs.YtiogbgjeimdgmaaW.PrintLast Go.Proofs.YtiogbgjeimdgmaaW.PrintMore
open Go.Proofs.Ytiogbgjeimdgmaa.RamWalk (RamAt Bytes leN bytes_n new_nat load_n)
open Go.Proofs.Ytiogbgjeimdgmaa.TlbWalk (own_val)
attribute [local go_sem] max2_int min2_int max_two min_two max_three min_three max_four min_four   -- for this text's walks alone
set_option linter.unusedVariables false
set_option linter.unusedSimpArgs false
theorem bytes_all (w : World) (base g b m c : Nat) (l : List Int) (h : RamAt w base g (.slice (some ⟨b, 0, none⟩) m c) l) :
    Calls Try.prog 37 #[.pointer (some ⟨g, 0, none⟩), .int .u32 0, .int .i64 m] w fun e w' => ∃ b' c', e = .returned (.tuple #[.slice (some ⟨b', 0, none⟩) m c', .int .i64 0]) ∧ w'.ownsRow w.heap.size 5 1 (.slice (some ⟨b', 0, none⟩) m c') m (nums .u8 l) ∧ Below w.heap.size w w' := by
  obtain ⟨rfl, -, -⟩ := h.field
  exact bytes_n w base g b l.length c l l 0 l.length (by decide) h (by omega) (by rw [List.drop_zero, List.take_length])
theorem pset (w0 W : World) (L : Loc) (T T' : Tabs) (ps : List (Int × Int)) (l : List Int) (h : MP w0 W L T ps l) (hT : T'.ok) :
    Calls Try.prog 20 #[.pointer (some ⟨L.m, 0, none⟩), .agg #[.int .u32 T'.p0b, .int .u32 T'.p0l, .int .u32 T'.sb, .int .u32 T'.sl, .int .u32 T'.men]] W fun e w' => e = .returned (.tuple #[]) ∧ MP w0 w' L T' [] l := by
  obtain ⟨b, v, m⟩ := h
  refine (mset_call W _ L v T T' ps l m hT).mono ?_
  rintro e w' ⟨rfl, s⟩
  exact ⟨rfl, MP.step b m s⟩
/-- So many cycles. -/
def cycs (T : Tabs) (l : List Int) (pc : Int) (u : Bool) : Nat → Int × List Int × Flt
  | 0 => (pc, [], noF)
  | k + 1 => cycF T [] l (cycs T l pc u k).1 u (cycs T l pc u k).2.1 (cycs T l pc u k).2.2
theorem cycs_good (T : Tabs) (l : List Int) (pc : Int) (u : Bool) (hpc : R32 pc) : ∀ k, R32 (cycs T l pc u k).1 ∧ goodF (cycs T l pc u k).2.2 ∧ (cycs T l pc u k).2.1.length ≤ 16 ∧ (cycs T l pc u k).2.1.length ≤ k ∧ (cycs T l pc u k).1 = (pc + (cycs T l pc u k).2.1.length) % 4294967296
  | 0 => ⟨hpc, good0, Nat.zero_le _, Nat.zero_le _, by unfold R32 at hpc; show pc = (pc + ((0 : Nat) : Int)) % 4294967296; omega⟩
  | k + 1 => by
    obtain ⟨h1, h2, h3, h4, h5⟩ := cycs_good T l pc u hpc k
    unfold cycs
    generalize cycs T l pc u k = s at *
    obtain ⟨p, bs, f⟩ := s
    refine ⟨cycF_pc h1, cycF_good h2, ?_⟩
    simp only at h1 h2 h3 h4 h5 ⊢
    unfold cycF
    split
    · exact ⟨h3, by show bs.length ≤ k + 1; omega, h5⟩
    · rename_i hn
      split
      · exact ⟨h3, by show bs.length ≤ k + 1; omega, h5⟩
      · refine ⟨?_, ?_, ?_⟩
        · show (bs ++ [_]).length ≤ 16; rw [List.length_append, List.length_singleton]; omega
        · show (bs ++ [_]).length ≤ k + 1; rw [List.length_append, List.length_singleton]; omega
        · show (p + 1) % 4294967296 = (pc + ((bs ++ [_]).length : Nat)) % 4294967296
          rw [List.length_append, List.length_singleton]; omega
theorem room_off (A : Option Addr) (n c : Nat) (T : Tabs) (pc k : Int) (w : World) (h : 8192 < n ∨ k < 0 ∨ 100 < k) :
    Calls Try.prog 7 #[.slice A n c, .agg #[.int .u32 T.p0b, .int .u32 T.p0l, .int .u32 T.sb, .int .u32 T.sl, .int .u32 T.men], .int .u32 pc, .int .i64 k] w fun e w' => e = .returned (.bool true) ∧ Below w.heap.size w w' := by
  have G : Aside0 (∀ W, Below w.heap.size w W → Below w.heap.size w W) := ⟨fun _ h => h⟩
  by_cases h1 : 8192 < n
  · have h2 : (8192 : Int) < n := by omega
    clear h
    go_enter Try.func7, Try.ntmps7
    go_wp2_with (first
      | (go_at_call 13; (with_reducible refine (falive_call _).mono ?_); rintro e w0 ⟨rfl, hb0⟩; have B0 := Aside0.mk (below_step (below_alloc (Below.refl w.heap.size w) _) hb0); clear hb0))
    go_ret
    exact ⟨rfl, B0.out⟩
  · have h2 : ¬ (8192 : Int) < n := by omega
    by_cases h3 : k < 0
    · clear h
      go_enter Try.func7, Try.ntmps7
      go_wp2_with (first
        | (go_at_call 13; (with_reducible refine (falive_call _).mono ?_); rintro e w0 ⟨rfl, hb0⟩; have B0 := Aside0.mk (below_step (below_alloc (Below.refl w.heap.size w) _) hb0); clear hb0))
      go_ret
      exact ⟨rfl, B0.out⟩
    · have h4 : 100 < k := by omega
      clear h
      go_enter Try.func7, Try.ntmps7
      go_wp2_with (first
        | (go_at_call 13; (with_reducible refine (falive_call _).mono ?_); rintro e w0 ⟨rfl, hb0⟩; have B0 := Aside0.mk (below_step (below_alloc (Below.refl w.heap.size w) _) hb0); clear hb0))
      go_ret
      exact ⟨rfl, B0.out⟩
set_option maxRecDepth 100000 in
set_option maxHeartbeats 4000000 in
theorem room_ok (A : Option Addr) (c : Nat) (l : List Int) (T : Tabs) (pc : Int) (k : Nat) (w : World) (hn : l.length ≤ 8192) (hk : k ≤ 100) (hl : ReadsInt w .u8 A l.length l) (hb : Bytes l) (hT : T.ok) (hpc : R32 pc) :
    Calls Try.prog 7 #[.slice A l.length c, .agg #[.int .u32 T.p0b, .int .u32 T.p0l, .int .u32 T.sb, .int .u32 T.sl, .int .u32 T.men], .int .u32 pc, .int .i64 k] w fun e w' => e = .returned (.bool true) ∧ Below w.heap.size w w' := by
  have HL := Aside0.mk hl
  have HB := Aside0.mk hb
  have HT := Aside0.mk hT
  have HP := Aside0.mk hpc
  have NEW := Aside0.mk (fun w => new_nat l.length w (by omega))
  obtain ⟨S, hS⟩ : ∃ S, S = strOfNums l := ⟨_, rfl⟩
  have ST := Aside0.mk (fun (w : World) (A : Option Addr) (c : Nat) (h : ReadsInt w .u8 A l.length l) => (by rw [hS]; exact string_of_reads (P := Try.prog) Try.underlying22 Try.underlying5 Try.underlying9 h : (convert 22 9 (.slice A l.length c)).run Try.prog w = .ok (.string S) w))
  have h2 : ¬ (8192 : Int) < l.length := by omega
  have h3 : ¬ (k : Int) < 0 := by omega
  have h4 : ¬ 100 < (k : Int) := by omega
  have T0 := fun (W : World) (o : Obj) => W
  clear hl hb hT hS T0
  go_enter Try.func7, Try.ntmps7
  go_wp2_with (first
    | (go_at_call 13; (with_reducible refine (falive_call _).mono ?_); rintro e w0 ⟨rfl, hb0⟩; have B0 := Aside0.mk (below_step (below_alloc (Below.refl w.heap.size w) _) hb0); have X0 := Aside0.mk (row_then (heap_alloc_new w _) hb0); clear hb0)
    | (go_at_call 14; (with_reducible refine (NEW.out _).mono ?_); rintro e w1 ⟨gr, b, rfl, hr, hbel⟩; have R1 := Aside0.mk hr; have B1 := Aside0.mk hbel; clear hr hbel)
    | (go_at_call 16; (with_reducible refine (load_n _ _ _ _ _ _ _ l _ _ R1.out (HL.out.below (below_step B0.out B1.out))).mono ?_); rintro e w2 ⟨rfl, hr, hg⟩; have R2 := Aside0.mk hr; have B2 := Aside0.mk (ram_below B1.out R1.out hg); clear hr hg)
    | (go_at_call 18; (with_reducible refine (pmnew w0 _ _ _ _ _ l rfl B2.out R2.out HB.out).mono ?_); rintro e w3 ⟨L, rfl, hLr, hm⟩; have M3 := Aside0.mk hm; have LR := Aside0.mk hLr; have t3 := cell_of_row _ _ 0 _ _ _ (row_then X0.out hm.1); have t4 := cell_of_row _ _ 1 _ _ _ (row_then X0.out hm.1); have t5 := cell_of_row _ _ 2 _ _ _ (row_then X0.out hm.1); have t6 := cell_of_row _ _ 3 _ _ _ (row_then X0.out hm.1); have t7 := cell_of_row _ _ 4 _ _ _ (row_then X0.out hm.1); clear hm hLr)
    | (go_at_call 20; (with_reducible refine (pset _ _ _ _ T _ _ M3.out HT.out).mono ?_); rintro e w4 ⟨rfl, hm⟩; have M4 := Aside0.mk hm; clear hm)
    | (go_at_call 21; (with_reducible refine (pnew _ _ _ _ _ _ M4.out).mono ?_); rintro e w5 ⟨q, rfl, hf⟩; have F5 := Aside0.mk hf; clear hf)
    | (go_at_call 22; (with_reducible refine (pflush _ _ _ _ _ _ _ _ pc _ false _ _ F5.out).mono ?_); rintro e w6 ⟨rfl, hf⟩; have F6 := Aside0.mk hf; clear hf))
  go_loopw [12] (fun iv wr => ∃ i : Nat, i ≤ k ∧ iv = .int .i64 i ∧ Aside0 (FP w0 wr L T [] l q (cycs T l pc false i).1 false (cycs T l pc false i).2.1 (cycs T l pc false i).2.2)) (fun iv _ => k - (intOf iv).toNat)
  case atStart => exact ⟨0, Nat.zero_le _, rfl, F6⟩
  case round =>
    obtain ⟨i, hi, rfl, R⟩ := hrel
    by_cases hik : i = k
    · subst hik
      have R7 := Aside0.mk (LR.out ▸ pram R.out)
      have B7 := Aside0.mk (below_step B0.out R.out.1)
      go_wp2_with (first
        | (go_at_call 37; (with_reducible refine (bytes_all _ _ _ _ _ _ _ R7.out).mono ?_); rintro e w7 ⟨b', c', rfl, ho, hb⟩; have B8 := Aside0.mk (below_step B7.out hb); have s1 := ST.out _ _ c' (own_reads' ho); have s2 := ST.out _ _ c (HL.out.below B8.out); clear ho hb))
      go_ret
      exact ⟨rfl, B8.out⟩
    · have hik' : i < k := by omega
      obtain ⟨g1, g2, _⟩ := cycs_good T l pc false HP.out i
      obtain ⟨e1, e2, e3, e4, e5⟩ := cycs_good T l pc false HP.out (i + 1)
      have G1 := Aside0.mk g1
      have G2 := Aside0.mk g2
      have CY := Aside0.mk (pcycle w0 wr L T [] l q _ false _ _ R.out g1 g2)
      rw [show cycF T [] l (cycs T l pc false i).1 false (cycs T l pc false i).2.1 (cycs T l pc false i).2.2 = cycs T l pc false (i + 1) from rfl] at CY
      have HI := Aside0.mk hik'
      generalize hX : cycs T l pc false (i + 1) = X at *
      have HX := Aside0.mk hX
      obtain ⟨p, bs, f⟩ := X
      simp only at e1 e2 e3 e4 e5 CY
      clear hX e1 e2 g1 g2
      have q1 : ¬ (16 : Int) < bs.length := by omega
      have q2 : ¬ (i : Int) + 1 < bs.length := by omega
      have q3 : (bs.length : Int) % 4294967296 = bs.length := by omega
      have q4 : ((pc + (bs.length : Int)) % 4294967296) = p := e5.symm
      have i1 : (i : Int) < k := by omega
      have i2 : (0 : Int) ≤ i := by omega
      have i3 : (i : Int) ≤ 100 := by omega
      clear e3 e4 e5 hik hik'
      go_wp2_with (first
        | (go_at_call 23; (with_reducible refine (CY.out).mono ?_); rintro e w7 ⟨rfl, hf⟩; have F7 := Aside0.mk hf; clear hf)
        | (go_at_call 26; (with_reducible refine (plen _ _ _ _ _ _ _ _ _ _ _ F7.out).mono ?_); rintro e w8 ⟨rfl, rfl⟩)
        | (go_at_call 27; (with_reducible refine (pnext _ _ _ _ _ _ _ _ _ _ _ F7.out).mono ?_); rintro e w8 ⟨rfl, rfl⟩)
        | (go_at_call 33; (with_reducible refine (pbuf _ _ _ _ _ _ _ _ _ _ F7.out).mono ?_); rintro e w9 ⟨A9, c9, rfl, hf⟩; have F9 := Aside0.mk hf; clear hf))
      go_roundw
      case rel => exact ⟨i + 1, HI.out, by go_num, ⟨by rw [HX.out]; exact F9.out⟩⟩
      case measure => have := HI.out; simp [intOf]; omega
theorem u32_r {x : Int} (h : (Lit.int .u32 x).wf = true) : R32 x := by
  obtain ⟨n, rfl, hn⟩ := u32_nat h
  unfold R32; omega
theorem FetchRoom_walk (a0 : Option Addr) (len0 cap0 : Nat) (z0 : List Int) (t1 t2 t3 t4 t5 pc k : Int) (w : World) (w0 : IsRow .u8 w a0 len0 cap0 z0) (_ : len0 * 1 ≤ 140737488351232)
    (h1 : (Lit.int .u32 t1).wf = true) (h2 : (Lit.int .u32 t2).wf = true) (h3 : (Lit.int .u32 t3).wf = true) (h4 : (Lit.int .u32 t4).wf = true) (h5 : (Lit.int .u32 t5).wf = true) (hp : (Lit.int .u32 pc).wf = true) (_ : (Lit.int .i64 k).wf = true) :
    Calls Try.prog 7 #[.slice a0 len0 cap0, .agg #[.int .u32 t1, .int .u32 t2, .int .u32 t3, .int .u32 t4, .int .u32 t5], .int .u32 pc, .int .i64 k] w fun e w' => e = .returned (.bool true) ∧ Below w.heap.size w w' := by
  obtain ⟨l, rfl, hr, hm, hw, hc⟩ := ReadsInt.ofRowC w0
  by_cases h : 8192 < l.length ∨ k < 0 ∨ 100 < k
  · exact room_off a0 _ cap0 ⟨t1, t2, t3, t4, t5⟩ pc k w h
  · obtain ⟨n, rfl⟩ : ∃ n : Nat, k = n := ⟨k.toNat, by omega⟩
    exact room_ok a0 cap0 l ⟨t1, t2, t3, t4, t5⟩ pc n w (by omega) (by omega) hr (fun x hx => by obtain ⟨j, rfl, hj⟩ := u8_nat (hw x hx); omega) ⟨u32_r h1, u32_r h2, u32_r h3, u32_r h4, u32_r h5⟩ (u32_r hp)
end Go.Proofs.Ytiogbgjeimdgmaa.MmuWalk
