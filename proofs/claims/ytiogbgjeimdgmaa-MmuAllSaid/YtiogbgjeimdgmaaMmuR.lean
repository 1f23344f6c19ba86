/- The MMU: its calls over one state; alive. -/
import Derived.Test.YtiogbgjeimdgmaaMmuQ
namespace Go.Proofs.Ytiogbgjeimdgmaa.MmuWalk
open Go.RowKit Go.Proofs.Ytiogbgjeimdgmaa.Aid Go.Proofs.YtiogbgjeimdgmaaW.PrintWords Go.Proofs.YtiogbgjeimdgmaaW.PrintLast Go.Proofs.YtiogbgjeimdgmaaW.PrintMore
open Go.Proofs.Ytiogbgjeimdgmaa.RamWalk (RamAt Bytes leN new_nat put_i load_n zeros_bytes putL putL_bytes putL_length)
open Go.Proofs.Ytiogbgjeimdgmaa.TlbWalk (TlbAt Kept2 putP dropP posP posP_page entP nil2 own_some own_val own_then)
attribute [local go_sem] max2_int min2_int max_two min_two max_three min_three max_four min_four   -- for this text's walks alone
set_option linter.unusedVariables false
set_option linter.unusedSimpArgs false
theorem foot_ge1 {W : World} {base : Nat} {L : Loc} {v : Value} {T : Tabs} {ps : List (Int × Int)} {l : List Int} (h : MmuAt W base L v T ps l) (i : Nat) (k : foot L v i) : base ≤ i := by
  rcases k with k | k | k | k
  · rw [k]; exact h.ge
  · rw [k]; exact h.tlb.2.1
  · rw [k]; exact own_base h.ram.2.2.1 _ rfl
  · exact own_base h.tlb.2.2.1 _ k.symm
/-- An MMU made behind w0. -/
def M1 (w0 W : World) (L : Loc) (T : Tabs) (ps : List (Int × Int)) (l : List Int) : Prop := Below w0.heap.size w0 W ∧ ∃ v, MmuAt W w0.heap.size L v T ps l
theorem M1.step {w0 W W' : World} {L : Loc} {v : Value} {T T' : Tabs} {ps ps' : List (Int × Int)} {l l' : List Int} (b : Below w0.heap.size w0 W) (h : MmuAt W w0.heap.size L v T ps l) (s : MStep W W' w0.heap.size L v T' ps' l') : M1 w0 W' L T' ps' l' := by
  obtain ⟨⟨v', m, _⟩, c⟩ := s
  exact ⟨c.below b (fun i hi => foot_ge1 h i hi), v', m⟩
theorem M1.then {w0 W W' : World} {L : Loc} {T : Tabs} {ps : List (Int × Int)} {l : List Int} (h : M1 w0 W L T ps l) (k : Below W.heap.size W W') : M1 w0 W' L T ps l := by
  obtain ⟨b, v, m⟩ := h
  exact ⟨below_step b k, v, m.then k⟩
theorem qnew (w0 W : World) (gr b c n : Nat) (l : List Int) (hn : l.length = n) (bW : Below w0.heap.size w0 W) (h : RamAt W w0.heap.size gr (.slice (some ⟨b, 0, none⟩) n c) l) (hb : Bytes l) :
    Calls Try.prog 18 #[.pointer (some ⟨gr, 0, none⟩)] W fun e w' => ∃ L : Loc, e = .returned (.pointer (some ⟨L.m, 0, none⟩)) ∧ L.r = gr ∧ M1 w0 w' L noT [] l := by
  subst hn
  refine (mnew_call W _ gr b c l h hb).mono ?_
  rintro e w' ⟨m, t, rfl, k, hb', _, _⟩
  exact ⟨_, rfl, rfl, below_step bW hb', _, k⟩
theorem qset (w0 W : World) (L : Loc) (T T' : Tabs) (ps : List (Int × Int)) (l : List Int) (h : M1 w0 W L T ps l) (hT : T'.ok) :
    Calls Try.prog 20 #[.pointer (some ⟨L.m, 0, none⟩), .agg #[.int .u32 T'.p0b, .int .u32 T'.p0l, .int .u32 T'.sb, .int .u32 T'.sl, .int .u32 T'.men]] W fun e w' => e = .returned (.tuple #[]) ∧ M1 w0 w' L T' [] l := by
  obtain ⟨b, v, m⟩ := h
  refine (mset_call W _ L v T T' ps l m hT).mono ?_
  rintro e w' ⟨rfl, s⟩
  exact ⟨rfl, M1.step b m s⟩
theorem qget (w0 W : World) (L : Loc) (T : Tabs) (ps : List (Int × Int)) (l : List Int) (va n : Int) (u : Bool) (hv : R32 va) (h : M1 w0 W L T ps l) :
    Calls Try.prog 29 #[.pointer (some ⟨L.m, 0, none⟩), .int .u32 va, .int .i64 n, .bool u] W fun e w' => ∃ xs fk fv fi ps', Pcs T l u false true ps va (szI n) xs (fk, fv, fi) ps' ∧ e = .returned (.tuple #[.int .u32 (leN (loadL l xs)), .agg #[.int .i64 fk, .int .u32 fv, .int .u32 fi]]) ∧ M1 w0 w' L T ps' l := by
  obtain ⟨b, v, m⟩ := h
  refine (mget_call W _ L v T ps l va n u hv m).mono ?_
  rintro e w' ⟨xs, fk, fv, fi, ps', hp, rfl, s⟩
  exact ⟨xs, fk, fv, fi, ps', hp, rfl, M1.step b m s⟩
theorem qprobe (w0 W : World) (L : Loc) (T : Tabs) (ps : List (Int × Int)) (l : List Int) (va n : Int) (u wt : Bool) (hv : R32 va) (hn : n ≤ 65536) (hn0 : -9223372036854775808 ≤ n) (h : M1 w0 W L T ps l) :
    Calls Try.prog 35 #[.pointer (some ⟨L.m, 0, none⟩), .int .u32 va, .int .i64 n, .bool u, .bool wt] W fun e w' => ∃ xs f ps', Pcs T l u wt true ps va n xs f ps' ∧ e = .returned (fltV f) ∧ M1 w0 w' L T ps' l := by
  obtain ⟨b, v, m⟩ := h
  refine (probe_call W _ L v T ps l va n u wt hv hn hn0 m).mono ?_
  rintro e w' ⟨xs, f, ps', hp, rfl, s⟩
  exact ⟨xs, f, ps', hp, rfl, M1.step b m s⟩
/-! What the document tells. -/
def lA : List Int := putL (putL (List.replicate 1024 0) 512 2550136832 4) 3 77 1
def tA : Tabs := ⟨512, 1, 0, 0, 1⟩
theorem lA_len : lA.length = 1024 := by unfold lA; rw [putL_length, putL_length, List.length_replicate]
theorem lA_bytes : Bytes lA := putL_bytes _ (putL_bytes _ (zeros_bytes _) _ _ _) _ _ _
theorem tA_ok : tA.ok := by unfold tA Tabs.ok; decide
theorem fA1 : findF tA [] lA 3 1 true false = (3, 0, 0, 0) := by decide +kernel
theorem pA1 : leN (loadL lA [(3, 3, 1)]) = 77 := by decide +kernel
theorem qA1 : findP tA [] lA 3 true false true = [(0, 2550136832)] := by decide +kernel
theorem fA2 : findF tA [(0, 2550136832)] lA 512 1 false true = (0, 2, 512, 5) := by decide +kernel
theorem pcsA1 {k : Bool} {xs : List Pc} {f : Flt} {ps' : List (Int × Int)} (hk : k = true) (h : Pcs tA lA true false k [] 3 (szI 1) xs f ps') : xs = [(3, 3, 1)] ∧ f = (0, 0, 0) ∧ ps' = [(0, 2550136832)] := by
  subst hk
  have e : szI 1 = 1 := by decide
  have s : stepN 3 1 = 1 := by decide
  rw [e] at h
  have d := Pcs.more (T := tA) (l := lA) (u := true) (wr := false) (keep := true) (ps := []) (va := 3) (n := 1) (by decide) (by rw [s, fA1]) (Pcs.done (by rw [s]; decide))
  rw [s, fA1, qA1] at d
  obtain ⟨rfl, rfl, rfl⟩ := d.det h
  exact ⟨rfl, rfl, rfl⟩
theorem pcsA2 {xs : List Pc} {f : Flt} {ps' : List (Int × Int)} (h : Pcs tA lA false true true [(0, 2550136832)] 512 1 xs f ps') : f = (2, 512, 5) := by
  have s : stepN 512 1 = 1 := by decide
  have d := Pcs.stop (T := tA) (l := lA) (u := false) (wr := true) (keep := true) (ps := [(0, 2550136832)]) (va := 512) (n := 1) (by decide) (by rw [s, fA2]; decide)
  rw [s, fA2] at d
  exact (d.det h).2.1
end Go.Proofs.Ytiogbgjeimdgmaa.MmuWalk
