/- The registers' functions of layer 7, walked: Put, Load, Save. -/
import Derived.Test.YtbgcbnlpjjhmhaaRegsA
import Derived.BigRegion
namespace Go.Proofs.Ytbgcbnlpjjhmhaa.RegsWalk
open Go.RowKit Go.Proofs.Ytbgcbnlpjjhmhaa.Aid Go.Proofs.YtbgcbnlpjjhmhaaW.PrintWords Go.Proofs.YtbgcbnlpjjhmhaaW.PrintLast Go.Proofs.YtbgcbnlpjjhmhaaW.PrintMore
set_option linter.unusedVariables false
set_option linter.unusedSimpArgs false
theorem put_end1 {w : World} {g : Nat} {r : Nat → Int} {s p k u : Int} {v : Value} (h : FileAt w g r s p k u v) (x : Int) :
    KeptG w (((w.setCell ⟨g, 18, none⟩ (.int .u32 s)).setCell ⟨g, 14, none⟩ (.int .u32 k)).setCell ⟨g, 16, none⟩ (.int .u32 x)).drew.drew g ∧ FileAt (((w.setCell ⟨g, 18, none⟩ (.int .u32 s)).setCell ⟨g, 14, none⟩ (.int .u32 k)).setCell ⟨g, 16, none⟩ (.int .u32 x)).drew.drew g r k x k s v :=
  ⟨((((KeptG.refl _ _).set _ _).set _ _).set _ _).drew.drew, ((h.set_usp _).set_s14 _).set_psl _⟩
theorem put_end2 {w : World} {g : Nat} {r : Nat → Int} {s p k u : Int} {v : Value} (h : FileAt w g r s p k u v) (x : Int) :
    KeptG w (((w.setCell ⟨g, 17, none⟩ (.int .u32 s)).setCell ⟨g, 14, none⟩ (.int .u32 u)).setCell ⟨g, 16, none⟩ (.int .u32 x)).drew.drew g ∧ FileAt (((w.setCell ⟨g, 17, none⟩ (.int .u32 s)).setCell ⟨g, 14, none⟩ (.int .u32 u)).setCell ⟨g, 16, none⟩ (.int .u32 x)).drew.drew g r u x s u v :=
  ⟨((((KeptG.refl _ _).set _ _).set _ _).set _ _).drew.drew, ((h.set_ksp _).set_s14 _).set_psl _⟩
theorem put_end0 {w : World} {g : Nat} {r : Nat → Int} {s p k u : Int} {v : Value} (h : FileAt w g r s p k u v) (x : Int) :
    KeptG w (w.setCell ⟨g, 16, none⟩ (.int .u32 x)).drew g ∧ FileAt (w.setCell ⟨g, 16, none⟩ (.int .u32 x)).drew g r s x k u v :=
  ⟨((KeptG.refl _ _).set _ _).drew, h.set_psl _⟩
set_option maxHeartbeats 4000000 in
theorem put_false_false (w : World) (g : Nat) (r : Nat → Int) (s p k u : Int) (v : Value) (x : Int) (h : FileAt w g r s p k u v) (hd : usr x = false) (hb : usr p = false) :
    Calls Try.prog 29 #[.pointer (some ⟨g, 0, none⟩), .int .u32 x] w fun e w' => e = .returned (.tuple #[]) ∧ KeptG w w' g ∧ FileAt w' g r s x k u v := by
  have c14 : w.cell? ⟨g, 14, none⟩ = some (.int .u32 s) := h.cell 14
  have c16 : w.cell? ⟨g, 16, none⟩ = some (.int .u32 p) := h.cell 16
  have c17 : w.cell? ⟨g, 17, none⟩ = some (.int .u32 k) := h.cell 17
  have c18 : w.cell? ⟨g, 18, none⟩ = some (.int .u32 u) := h.cell 18
  have f14 := h.free 14
  have f16 := h.free 16
  have f17 := h.free 17
  have f18 := h.free 18
  have A := Aside0.mk (fun W => usr_call W p)
  have B := Aside0.mk (fun W => usr_call W x)
  rw [hb] at A
  rw [hd] at B
  have H := Aside0.mk h
  clear h hd hb
  go_enter Try.func29, Try.ntmps29
  go_wp2
  go_region_with (first
    | (go_at_call 40; (first | (with_reducible refine (B.out _).mono ?_) | (with_reducible refine (A.out _).mono ?_)); rintro e w1 ⟨rfl, rfl⟩))
  all_goals (
    go_wp2_with (first
      | (go_at_call 40; (with_reducible refine (B.out _).mono ?_); rintro e w1 ⟨rfl, rfl⟩)))
  all_goals (first | go_end0 | refine bodyPost_ret (results_none rfl _ _ _) rfl ?_)
  all_goals (exact ⟨rfl, put_end0 H.out x⟩)
set_option maxHeartbeats 4000000 in
theorem put_true_true (w : World) (g : Nat) (r : Nat → Int) (s p k u : Int) (v : Value) (x : Int) (h : FileAt w g r s p k u v) (hd : usr x = true) (hb : usr p = true) :
    Calls Try.prog 29 #[.pointer (some ⟨g, 0, none⟩), .int .u32 x] w fun e w' => e = .returned (.tuple #[]) ∧ KeptG w w' g ∧ FileAt w' g r s x k u v := by
  have c14 : w.cell? ⟨g, 14, none⟩ = some (.int .u32 s) := h.cell 14
  have c16 : w.cell? ⟨g, 16, none⟩ = some (.int .u32 p) := h.cell 16
  have c17 : w.cell? ⟨g, 17, none⟩ = some (.int .u32 k) := h.cell 17
  have c18 : w.cell? ⟨g, 18, none⟩ = some (.int .u32 u) := h.cell 18
  have f14 := h.free 14
  have f16 := h.free 16
  have f17 := h.free 17
  have f18 := h.free 18
  have A := Aside0.mk (fun W => usr_call W p)
  have B := Aside0.mk (fun W => usr_call W x)
  rw [hb] at A
  rw [hd] at B
  have H := Aside0.mk h
  clear h hd hb
  go_enter Try.func29, Try.ntmps29
  go_wp2
  go_region_with (first
    | (go_at_call 40; (first | (with_reducible refine (B.out _).mono ?_) | (with_reducible refine (A.out _).mono ?_)); rintro e w1 ⟨rfl, rfl⟩))
  all_goals (
    go_wp2_with (first
      | (go_at_call 40; (with_reducible refine (B.out _).mono ?_); rintro e w1 ⟨rfl, rfl⟩)))
  all_goals (first | go_end0 | refine bodyPost_ret (results_none rfl _ _ _) rfl ?_)
  all_goals (exact ⟨rfl, put_end0 H.out x⟩)
set_option maxHeartbeats 4000000 in
theorem put_false_true (w : World) (g : Nat) (r : Nat → Int) (s p k u : Int) (v : Value) (x : Int) (h : FileAt w g r s p k u v) (hd : usr x = false) (hb : usr p = true) :
    Calls Try.prog 29 #[.pointer (some ⟨g, 0, none⟩), .int .u32 x] w fun e w' => e = .returned (.tuple #[]) ∧ KeptG w w' g ∧ FileAt w' g r k x k s v := by
  have c14 : w.cell? ⟨g, 14, none⟩ = some (.int .u32 s) := h.cell 14
  have c16 : w.cell? ⟨g, 16, none⟩ = some (.int .u32 p) := h.cell 16
  have c17 : w.cell? ⟨g, 17, none⟩ = some (.int .u32 k) := h.cell 17
  have c18 : w.cell? ⟨g, 18, none⟩ = some (.int .u32 u) := h.cell 18
  have f14 := h.free 14
  have f16 := h.free 16
  have f17 := h.free 17
  have f18 := h.free 18
  have A := Aside0.mk (fun W => usr_call W p)
  have B := Aside0.mk (fun W => usr_call W x)
  rw [hb] at A
  rw [hd] at B
  have H := Aside0.mk h
  clear h hd hb
  go_enter Try.func29, Try.ntmps29
  go_wp2
  go_region_with (first
    | (go_at_call 40; (first | (with_reducible refine (B.out _).mono ?_) | (with_reducible refine (A.out _).mono ?_)); rintro e w1 ⟨rfl, rfl⟩))
  all_goals (
    go_wp2_with (first
      | (go_at_call 40; (with_reducible refine (B.out _).mono ?_); rintro e w1 ⟨rfl, rfl⟩)))
  all_goals go_region
  all_goals go_wp2
  all_goals (first | go_end0 | refine bodyPost_ret (results_none rfl _ _ _) rfl ?_)
  all_goals (exact ⟨rfl, put_end1 H.out x⟩)
set_option maxHeartbeats 4000000 in
theorem put_true_false (w : World) (g : Nat) (r : Nat → Int) (s p k u : Int) (v : Value) (x : Int) (h : FileAt w g r s p k u v) (hd : usr x = true) (hb : usr p = false) :
    Calls Try.prog 29 #[.pointer (some ⟨g, 0, none⟩), .int .u32 x] w fun e w' => e = .returned (.tuple #[]) ∧ KeptG w w' g ∧ FileAt w' g r u x s u v := by
  have c14 : w.cell? ⟨g, 14, none⟩ = some (.int .u32 s) := h.cell 14
  have c16 : w.cell? ⟨g, 16, none⟩ = some (.int .u32 p) := h.cell 16
  have c17 : w.cell? ⟨g, 17, none⟩ = some (.int .u32 k) := h.cell 17
  have c18 : w.cell? ⟨g, 18, none⟩ = some (.int .u32 u) := h.cell 18
  have f14 := h.free 14
  have f16 := h.free 16
  have f17 := h.free 17
  have f18 := h.free 18
  have A := Aside0.mk (fun W => usr_call W p)
  have B := Aside0.mk (fun W => usr_call W x)
  rw [hb] at A
  rw [hd] at B
  have H := Aside0.mk h
  clear h hd hb
  go_enter Try.func29, Try.ntmps29
  go_wp2
  go_region_with (first
    | (go_at_call 40; (first | (with_reducible refine (B.out _).mono ?_) | (with_reducible refine (A.out _).mono ?_)); rintro e w1 ⟨rfl, rfl⟩))
  all_goals (
    go_wp2_with (first
      | (go_at_call 40; (with_reducible refine (B.out _).mono ?_); rintro e w1 ⟨rfl, rfl⟩)))
  all_goals go_region
  all_goals go_wp2
  all_goals (first | go_end0 | refine bodyPost_ret (results_none rfl _ _ _) rfl ?_)
  all_goals (exact ⟨rfl, put_end2 H.out x⟩)
theorem put_call (w : World) (g : Nat) (r : Nat → Int) (s p k u : Int) (v : Value) (x : Int) (h : FileAt w g r s p k u v) :
    Calls Try.prog 29 #[.pointer (some ⟨g, 0, none⟩), .int .u32 x] w fun e w' => e = .returned (.tuple #[]) ∧ KeptG w w' g ∧
      FileAt w' g r (if usr x = usr p then s else if usr x = true then u else k) x (if usr x = usr p then k else if usr x = true then s else k) (if usr x = usr p then u else if usr x = true then u else s) v := by
  cases hd : usr x <;> cases hb : usr p
  · exact put_false_false w g r s p k u v x h hd hb
  · exact put_false_true w g r s p k u v x h hd hb
  · exact put_true_false w g r s p k u v x h hd hb
  · exact put_true_true w g r s p k u v x h hd hb
end Go.Proofs.Ytbgcbnlpjjhmhaa.RegsWalk
