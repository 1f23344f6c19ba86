/- The MMU's find: its contract. -/
import Derived.Test.YtiogbgjeimdgmaaMmuF
namespace Go.Proofs.Ytiogbgjeimdgmaa.MmuWalk
open Go.RowKit Go.Proofs.Ytiogbgjeimdgmaa.Aid Go.Proofs.YtiogbgjeimdgmaaW.PrintWords Go.Proofs.YtiogbgjeimdgmaaW.PrintLast Go.Proofs.YtiogbgjeimdgmaaW.PrintMore
open Go.Proofs.Ytiogbgjeimdgmaa.RamWalk (RamAt Bytes leN leN_bounds get_i get_bus_i size_n)
open Go.Proofs.Ytiogbgjeimdgmaa.TlbWalk (TlbAt Kept2 putP dropP posP entP nil2)
set_option linter.unusedVariables false
set_option linter.unusedSimpArgs false
theorem find_call (w : World) (base : Nat) (L : Loc) (v : Value) (T : Tabs) (ps : List (Int × Int)) (l : List Int) (va : Int) (n : Nat) (u wr keep : Bool) (hv : R32 va) (hn : n < 4294967296) (h : MmuAt w base L v T ps l) :
    Calls Try.prog 66 #[.pointer (some ⟨L.m, 0, none⟩), accV va u wr, .int .i64 n, .bool keep] w fun e w' => e = .returned (.tuple #[.int .u32 (findF T ps l va n u wr).1, fltV (findF T ps l va n u wr).2]) ∧ MStep w w' base L v T (findP T ps l va u wr keep) l := by
  have F := Aside0.mk (fun W => fault_call W va u wr 1 0 (.inl rfl))
  have hm2 : l.length ≤ 16777216 := h.ram.2.2.2.2
  have SZ : Aside0 (∀ W v' ps', MmuAt W base L v' T ps' l → Calls Try.prog 82 #[.pointer (some ⟨L.r, 0, none⟩)] W fun e w' => e = .returned (.int .i64 (l.length : Nat)) ∧ W = w') := ⟨fun W v' ps' k => size_n W base L.r L.b l.length L.c l k.ram⟩
  unfold findF findP accV
  by_cases hm : T.men = 0
  · rw [if_pos hm, if_pos hm]
    by_cases hl : va + n ≤ l.length
    · rw [if_pos hl]
      exact find_m0_ok w base L v T ps l va 0 n u wr keep h hv hn l.length hm hl hm2 SZ
    · rw [if_neg hl]
      exact find_m0_bus w base L v T ps l va _ n u wr keep h hv hn l.length hm hl hm2 SZ F
  · have hm' : (T.men == 0) = false := beq_eq_false_iff_ne.mpr hm
    rw [if_neg hm, if_neg hm]
    have EN := Aside0.mk (fun W (hW : Below w.heap.size w W) => entry_call W base L v T ps l va u wr keep hv (h.then hW))
    have hx := entryF_r h va u wr
    have hk : (entryF T ps l va u wr).2.1 = 0 → (entryF T ps l va u wr).2 = noF := by
      unfold entryF
      split
      · intro c; rename_i c'; exact absurd c c'
      · split
        · intro c; cases (show (2 : Int) = 0 from c)
        · split
          · intro c; cases (show (3 : Int) = 0 from c)
          · intro _; rfl
    unfold accV at EN
    generalize entryP T ps l va u wr keep = ps' at *
    generalize entryF T ps l va u wr = r at *
    obtain ⟨x, fk, fv, fi⟩ := r
    by_cases hf : fk = 0
    · have := hk hf
      simp only [noF, Prod.mk.injEq] at this
      obtain ⟨rfl, rfl, rfl⟩ := this
      rw [if_neg (by simp)]
      have PP := Aside0.mk (fun W => pplace_call W x va hx hv)
      have hp := placeE_r x va
      show Calls _ _ _ _ fun e w' => e = .returned (.tuple #[.int .u32 (if placeE x va + n ≤ l.length then (placeE x va, noF) else (0, flt 1 va 0 wr)).1, _]) ∧ _
      generalize placeE x va = pa at *
      by_cases hl : pa + n ≤ l.length
      · rw [if_pos hl]
        exact find_m1_ok w base L v T ps l va 0 n u wr keep h hv hn l.length x ps' hm' hm2 pa EN PP hp.1 hp.2 hl SZ
      · rw [if_neg hl]
        exact find_m1_bus w base L v T ps l va _ n u wr keep h hv hn l.length x ps' hm' hm2 pa EN PP hp.1 hp.2 hl SZ F
    · rw [if_pos hf]
      refine (find_m1_flt w base L v T ps l va 0 n u wr keep h hv hn l.length x ps' hm' hm2 fk fv fi (beq_eq_false_iff_ne.mpr hf) ?_)
      exact EN
end Go.Proofs.Ytiogbgjeimdgmaa.MmuWalk
