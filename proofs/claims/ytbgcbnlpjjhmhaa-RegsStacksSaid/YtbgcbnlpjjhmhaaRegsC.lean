/- The registers' functions of layer 7, walked: Load, Save, Steps, Forget. -/
import Derived.Test.YtbgcbnlpjjhmhaaRegsA
import Derived.BigRegion
namespace Go.Proofs.Ytbgcbnlpjjhmhaa.RegsWalk
open Go.RowKit Go.Proofs.Ytbgcbnlpjjhmhaa.Aid Go.Proofs.YtbgcbnlpjjhmhaaW.PrintWords Go.Proofs.YtbgcbnlpjjhmhaaW.PrintLast Go.Proofs.YtbgcbnlpjjhmhaaW.PrintMore
set_option linter.unusedVariables false
set_option linter.unusedSimpArgs false
theorem steps_call (w : World) (g : Nat) (r : Nat → Int) (s p k u : Int) (A : Option Addr) (n c : Nat) (h : FileAt w g r s p k u (.slice A n c)) :
    Calls Try.prog 20 #[.pointer (some ⟨g, 0, none⟩)] w fun e w' => e = .returned (.int .i64 n) ∧ w = w' := by
  have c19 : w.cell? ⟨g, 19, none⟩ = some (.slice A n c) := h.cell 19
  clear h
  go_enter Try.func20, Try.ntmps20
  go_wp2
  go_ret
  exact ⟨rfl, rfl⟩
theorem forget_call (w : World) (g : Nat) (r : Nat → Int) (s p k u : Int) (v : Value) (h : FileAt w g r s p k u v) :
    Calls Try.prog 17 #[.pointer (some ⟨g, 0, none⟩)] w fun e w' => e = .returned (.tuple #[]) ∧ KeptG w w' g ∧ FileAt w' g r s p k u (.slice none 0 0) := by
  have f19 := h.free 19
  have c19 : w.cell? ⟨g, 19, none⟩ = some v := h.cell 19
  have H := Aside0.mk h
  clear h
  go_enter Try.func17, Try.ntmps17
  go_wp2
  first | go_end0 | refine bodyPost_ret (results_none rfl _ _ _) rfl ?_
  exact ⟨rfl, (KeptG.refl _ _).set _ _, H.out.set_steps _⟩
theorem load_end1 {w : World} {g : Nat} (o : Obj) (cs : Array Value) : KeptG w ((w.alloc o).setRow g cs) g :=
  ⟨rfl, rfl, rfl, by simp [World.setRow], fun k hk hn => (setRow_other (w.alloc o) g k cs hn).trans ((below_alloc (Below.refl w.heap.size w) o).block k hk)⟩
theorem infoF : (Try.prog.info? 78).map (·.size) = some 20 := by kernel_rfl
set_option maxHeartbeats 4000000 in
theorem load_call (w : World) (g : Nat) (r r' : Nat → Int) (s p k u s' p' k' u' t0 t1 t2 t3 t4 sc hh : Int) (v : Value) (h : FileAt w g r s p k u v) :
    Calls Try.prog 15 #[.pointer (some ⟨g, 0, none⟩), .agg (stCells r' s' p' k' u' t0 t1 t2 t3 t4 sc hh)] w fun e w' => e = .returned (.tuple #[]) ∧ KeptG w w' g ∧ FileAt w' g r' s' p' k' u' (.slice none 0 0) := by
  have H := Aside0.mk h
  have hg := h.lt
  have h1 := Aside0.mk (fun o => h.then (below_alloc (Below.refl w.heap.size w) o))
  have HL := Aside0.mk hg
  clear h hg
  unfold stCells
  go_enter Try.func15, Try.ntmps15
  go_wp2_with (first
    | (refine wpList_store_row rfl 78 (.tmp 16) (.tmp 15) rfl g (fileCells r' s' p' k' u' (.slice none 0 0)) rfl rfl _ _ (h1.out _) infoF rfl (by kernel_rfl) ?_))
  first | go_end0 | refine bodyPost_ret (results_none rfl _ _ _) rfl ?_
  exact ⟨rfl, load_end1 _ _, setRow_heap _ g _ _ 78 _ (h1.out _)⟩
end Go.Proofs.Ytbgcbnlpjjhmhaa.RegsWalk
