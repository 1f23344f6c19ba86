/- The words' functions of layer 14, walked: Set; the document's Names, At, Set. -/
import Derived.Test.YtpjgklpppiongaaDoorUwG
import Derived.Laws.Rows
namespace Go.Proofs.YtpjgklpppiongaaDoor.UwWalk
open Go.RowKit Go.Proofs.YtpjgklpppiongaaDoor.Aid Go.Proofs.YtpjgklpppiongaaDoorW.PrintWords Go.Proofs.YtpjgklpppiongaaDoorW.PrintLast Go.Proofs.YtpjgklpppiongaaDoorW.PrintMore
set_option linter.unusedVariables false
set_option linter.unusedSimpArgs false
theorem results_cell_tmp {P : Program} {fn : Func} {p q : Tmp} {ty : TypeId} (h : fn.results = #[.cell p ty, .tmp q]) (tmps : Array Value) (w : World) (g : Nat) (t : TypeId) (cs : Array Value) (fr : Nat × Nat) (d : TypeDesc)
    (hp : tmps.getD p undef = .pointer (some ⟨g, 0, none⟩)) (hg : w.heap[g]? = some (.cells cs t fr))
    (hu : P.underlying ty = some d) (hd : (match d with | .struct _ | .array _ _ => true | _ => false) = true) (hi : (P.info? ty).map (·.size) = some cs.size) :
    (results fn tmps).run P w = .ok (.tuple #[.agg cs, tmps.getD q undef]) w := by
  have hp' : tmps[p]?.getD undef = .pointer (some ⟨g, 0, none⟩) := by simpa using hp
  simp [results, h, hp', asAddr, run_loadVar_row w g t ty cs fr d hg hu hd hi]
/-- What Set answers. -/
def setE (s : ByteArray) (x : Int) : Int := if idxN s 12 = -1 then 5 else if fitsV x (fb (idxN s 12).toNat) = true then 0 else 1
def setW (a : Nat → Int) (s : ByteArray) (x : Int) : Nat → Int := if setE s x = 0 then updF a (idxN s 12).toNat x else a
theorem set_none (w : World) (a : Nat → Int) (s : ByteArray) (x : Int) (h : idxN s 12 = -1) (hF : FieldsAt w) :
    Calls Tryd.prog 18 #[.agg (wcells a), .string s, .int .i64 x] w fun e w' => e = .returned (.tuple #[.agg (wcells a), .int .i64 5]) ∧ Below w.heap.size w w' := by
  have B0 := Aside0.mk (below_alloc (below_alloc (Below.refl w.heap.size w) (.cells (wcells a) 23 (0, 0))) (.cells #[.int .i64 0, .int .i64 0, .int .i64 0, .int .i64 0, .int .i64 0, .int .i64 0, .int .i64 0, .int .i64 0, .int .i64 0, .int .i64 0, .int .i64 0, .int .i64 0] 23 (0, 0)))
  have I := Aside0.mk (index_no ((w.alloc (.cells (wcells a) 23 (0, 0))).alloc (.cells #[.int .i64 0, .int .i64 0, .int .i64 0, .int .i64 0, .int .i64 0, .int .i64 0, .int .i64 0, .int .i64 0, .int .i64 0, .int .i64 0, .int .i64 0, .int .i64 0] 23 (0, 0))) s h ((hF.then (below_alloc (Below.refl _ _) _)).then (below_alloc (Below.refl _ _) _)))
  have W0 := Aside0.mk (show WordAt ((w.alloc (.cells (wcells a) 23 (0, 0))).alloc (.cells #[.int .i64 0, .int .i64 0, .int .i64 0, .int .i64 0, .int .i64 0, .int .i64 0, .int .i64 0, .int .i64 0, .int .i64 0, .int .i64 0, .int .i64 0, .int .i64 0] 23 (0, 0))) w.heap.size a from (show WordAt (w.alloc (.cells (wcells a) 23 (0, 0))) w.heap.size a from blk_new _ _).then (below_alloc (Below.refl _ _) _))
  have Z0 := Aside0.mk (show WordAt ((w.alloc (.cells (wcells a) 23 (0, 0))).alloc (.cells #[.int .i64 0, .int .i64 0, .int .i64 0, .int .i64 0, .int .i64 0, .int .i64 0, .int .i64 0, .int .i64 0, .int .i64 0, .int .i64 0, .int .i64 0, .int .i64 0] 23 (0, 0))) (w.heap.size + 1) (unpTo 0 0) from blk_new2 _ _ _)
  clear h hF
  go_enter Tryd.func18, Tryd.ntmps18
  go_wp2_with (first
    | (go_at_call 29; (with_reducible refine (I.out).mono ?_); rintro e w1 ⟨rfl, hb⟩; have B := Aside0.mk (below_step B0.out hb); have W1 := Aside0.mk (W0.out.then hb); have Z1 := Aside0.mk (Z0.out.then hb); clear hb)
    | (refine wpList_load_row rfl 23 (.tmp 3) rfl w.heap.size rfl _ _ _ _ W1.out Tryd.underlying23 rfl infoW ?_)
    | (refine wpList_store_row rfl 23 (.tmp 6) (.tmp 14) rfl (w.heap.size + 1) (wcells a) rfl rfl _ _ Z1.out infoW rfl (by kernel_rfl) ?_))
  refine bodyPost_ret (results_cell_tmp rfl _ _ (w.heap.size + 1) 23 (wcells a) (0, 0) _ rfl (setRow_heap _ (w.heap.size + 1) _ _ 23 _ Z1.out) Tryd.underlying23 rfl infoW) rfl ⟨rfl, below_setRow B.out (Nat.le_succ _) _⟩
theorem set_bad (w : World) (a : Nat → Int) (s : ByteArray) (x : Int) (k : Nat) (hk : k < 12) (h : idxN s 12 = (k : Int)) (hf : fitsV x (fb k) = false) (hF : FieldsAt w) :
    Calls Tryd.prog 18 #[.agg (wcells a), .string s, .int .i64 x] w fun e w' => e = .returned (.tuple #[.agg (wcells a), .int .i64 1]) ∧ Below w.heap.size w w' := by
  have B0 := Aside0.mk (below_alloc (below_alloc (Below.refl w.heap.size w) (.cells (wcells a) 23 (0, 0))) (.cells #[.int .i64 0, .int .i64 0, .int .i64 0, .int .i64 0, .int .i64 0, .int .i64 0, .int .i64 0, .int .i64 0, .int .i64 0, .int .i64 0, .int .i64 0, .int .i64 0] 23 (0, 0)))
  have F0 := (hF.then (below_alloc (Below.refl _ _) (.cells (wcells a) 23 (0, 0)))).then (below_alloc (Below.refl _ _) (.cells #[.int .i64 0, .int .i64 0, .int .i64 0, .int .i64 0, .int .i64 0, .int .i64 0, .int .i64 0, .int .i64 0, .int .i64 0, .int .i64 0, .int .i64 0, .int .i64 0] 23 (0, 0)))
  have I := Aside0.mk (index_yes ((w.alloc (.cells (wcells a) 23 (0, 0))).alloc (.cells #[.int .i64 0, .int .i64 0, .int .i64 0, .int .i64 0, .int .i64 0, .int .i64 0, .int .i64 0, .int .i64 0, .int .i64 0, .int .i64 0, .int .i64 0, .int .i64 0] 23 (0, 0))) s k h F0)
  have FA := Aside0.mk F0
  have W0 := Aside0.mk (show WordAt ((w.alloc (.cells (wcells a) 23 (0, 0))).alloc (.cells #[.int .i64 0, .int .i64 0, .int .i64 0, .int .i64 0, .int .i64 0, .int .i64 0, .int .i64 0, .int .i64 0, .int .i64 0, .int .i64 0, .int .i64 0, .int .i64 0] 23 (0, 0))) w.heap.size a from (show WordAt (w.alloc (.cells (wcells a) 23 (0, 0))) w.heap.size a from blk_new _ _).then (below_alloc (Below.refl _ _) _))
  have Z0 := Aside0.mk (show WordAt ((w.alloc (.cells (wcells a) 23 (0, 0))).alloc (.cells #[.int .i64 0, .int .i64 0, .int .i64 0, .int .i64 0, .int .i64 0, .int .i64 0, .int .i64 0, .int .i64 0, .int .i64 0, .int .i64 0, .int .i64 0, .int .i64 0] 23 (0, 0))) (w.heap.size + 1) (unpTo 0 0) from blk_new2 _ _ _)
  have FC := fun w => fits_call w x (fb k) (fb_le k)
  rw [hf] at FC
  have FC := Aside0.mk FC
  have hk'' : (k : Int) < 12 := by omega
  have hk0 : (0 : Int) ≤ k := by omega
  clear h hF F0 hf
  go_enter Tryd.func18, Tryd.ntmps18
  go_wp2_with (first
    | (go_at_call 29; (with_reducible refine (I.out).mono ?_); rintro e w1 ⟨rfl, hb⟩; have B := Aside0.mk (below_step B0.out hb); have W1 := Aside0.mk (W0.out.then hb); have Z1 := Aside0.mk (Z0.out.then hb); have c1 := (FA.out.then hb).bits k hk; clear hb)
    | (go_at_call 27; (with_reducible refine (FC.out _).mono ?_); rintro e w2 ⟨rfl, rfl⟩)
    | (refine wpList_load_row rfl 23 (.tmp 3) rfl w.heap.size rfl _ _ _ _ W1.out Tryd.underlying23 rfl infoW ?_)
    | (refine wpList_store_row rfl 23 (.tmp 6) (.tmp 23) rfl (w.heap.size + 1) (wcells a) rfl rfl _ _ Z1.out infoW rfl (by kernel_rfl) ?_))
  refine bodyPost_ret (results_cell_tmp rfl _ _ (w.heap.size + 1) 23 (wcells a) (0, 0) _ rfl (setRow_heap _ (w.heap.size + 1) _ _ 23 _ Z1.out) Tryd.underlying23 rfl infoW) rfl ⟨rfl, below_setRow B.out (Nat.le_succ _) _⟩
theorem set_ok (w : World) (a : Nat → Int) (s : ByteArray) (x : Int) (k : Nat) (hk : k < 12) (h : idxN s 12 = (k : Int)) (hf : fitsV x (fb k) = true) (hF : FieldsAt w) :
    Calls Tryd.prog 18 #[.agg (wcells a), .string s, .int .i64 x] w fun e w' => e = .returned (.tuple #[.agg (wcells (updF a k x)), .int .i64 0]) ∧ Below w.heap.size w w' := by
  have B0 := Aside0.mk (below_alloc (below_alloc (Below.refl w.heap.size w) (.cells (wcells a) 23 (0, 0))) (.cells #[.int .i64 0, .int .i64 0, .int .i64 0, .int .i64 0, .int .i64 0, .int .i64 0, .int .i64 0, .int .i64 0, .int .i64 0, .int .i64 0, .int .i64 0, .int .i64 0] 23 (0, 0)))
  have F0 := (hF.then (below_alloc (Below.refl _ _) (.cells (wcells a) 23 (0, 0)))).then (below_alloc (Below.refl _ _) (.cells #[.int .i64 0, .int .i64 0, .int .i64 0, .int .i64 0, .int .i64 0, .int .i64 0, .int .i64 0, .int .i64 0, .int .i64 0, .int .i64 0, .int .i64 0, .int .i64 0] 23 (0, 0)))
  have I := Aside0.mk (index_yes ((w.alloc (.cells (wcells a) 23 (0, 0))).alloc (.cells #[.int .i64 0, .int .i64 0, .int .i64 0, .int .i64 0, .int .i64 0, .int .i64 0, .int .i64 0, .int .i64 0, .int .i64 0, .int .i64 0, .int .i64 0, .int .i64 0] 23 (0, 0))) s k h F0)
  have FA := Aside0.mk F0
  have W0 := Aside0.mk (show WordAt ((w.alloc (.cells (wcells a) 23 (0, 0))).alloc (.cells #[.int .i64 0, .int .i64 0, .int .i64 0, .int .i64 0, .int .i64 0, .int .i64 0, .int .i64 0, .int .i64 0, .int .i64 0, .int .i64 0, .int .i64 0, .int .i64 0] 23 (0, 0))) w.heap.size a from (show WordAt (w.alloc (.cells (wcells a) 23 (0, 0))) w.heap.size a from blk_new _ _).then (below_alloc (Below.refl _ _) _))
  have Z0 := Aside0.mk (show WordAt ((w.alloc (.cells (wcells a) 23 (0, 0))).alloc (.cells #[.int .i64 0, .int .i64 0, .int .i64 0, .int .i64 0, .int .i64 0, .int .i64 0, .int .i64 0, .int .i64 0, .int .i64 0, .int .i64 0, .int .i64 0, .int .i64 0] 23 (0, 0))) (w.heap.size + 1) (unpTo 0 0) from blk_new2 _ _ _)
  have FC := fun w => fits_call w x (fb k) (fb_le k)
  rw [hf] at FC
  have FC := Aside0.mk FC
  have PC := Aside0.mk places_call
  have hk'' : (k : Int) < 12 := by omega
  have hk0 : (0 : Int) ≤ k := by omega
  clear h hF F0 hf
  go_enter Tryd.func18, Tryd.ntmps18
  go_wp2_with (first
    | (go_at_call 29; (with_reducible refine (I.out).mono ?_); rintro e w1 ⟨rfl, hb⟩; have B := Aside0.mk (below_step B0.out hb); have W1 := Aside0.mk (W0.out.then hb); have Z1 := Aside0.mk (Z0.out.then hb); have c1 := (FA.out.then hb).bits k hk; clear hb)
    | (go_at_call 27; (with_reducible refine (FC.out _).mono ?_); rintro e w2 ⟨rfl, rfl⟩)
    | (go_at_call 26; (with_reducible refine (PC.out _ _).mono ?_); rintro e w3 ⟨q, rfl, hp, hb, hq⟩; have B3 := Aside0.mk (below_step B.out hb); have c3 := hp.cell k hk; have c4 := (W1.out.then hb).cell k hk; have f4 := (W1.out.then hb).free k; have W3 := Aside0.mk ((W1.out.then hb).set k hk x); have Z3 := Aside0.mk (Z1.out.then hb); clear hb hp hq)
    | (refine wpList_load_row rfl 23 (.tmp 3) rfl w.heap.size rfl _ _ _ _ W3.out Tryd.underlying23 rfl infoW ?_)
    | (refine wpList_store_row rfl 23 (.tmp 6) (.tmp 30) rfl (w.heap.size + 1) (wcells (updF a k x)) rfl rfl _ _ ((Below.heap_setCell w3 ⟨w.heap.size, k, none⟩ _ (w.heap.size + 1) (by simp)).trans Z3.out) infoW rfl (by kernel_rfl) ?_))
  refine bodyPost_ret (results_cell_tmp rfl _ _ (w.heap.size + 1) 23 (wcells (updF a k x)) (0, 0) _ rfl (setRow_heap _ (w.heap.size + 1) _ _ 23 _ ((Below.heap_setCell w3 ⟨w.heap.size, k, none⟩ _ (w.heap.size + 1) (by simp)).trans Z3.out)) Tryd.underlying23 rfl infoW) rfl ⟨rfl, below_setRow (B3.out.setCell (Nat.le_refl _) _) (Nat.le_succ _) _⟩
theorem set_call (w : World) (a : Nat → Int) (s : ByteArray) (x : Int) (hF : FieldsAt w) :
    Calls Tryd.prog 18 #[.agg (wcells a), .string s, .int .i64 x] w fun e w' => e = .returned (.tuple #[.agg (wcells (setW a s x)), .int .i64 (setE s x)]) ∧ Below w.heap.size w w' := by
  rcases idx_cases s 12 with h | ⟨k, hk, h, _⟩
  · have e1 : setE s x = 5 := by unfold setE; rw [if_pos h]
    have e2 : setW a s x = a := by unfold setW; rw [e1, if_neg (by decide)]
    rw [e1, e2]; exact set_none w a s x h hF
  · by_cases hf : fitsV x (fb k) = true
    · have e1 : setE s x = 0 := by unfold setE; rw [h, if_neg (by omega), Int.toNat_natCast, if_pos hf]
      have e2 : setW a s x = updF a k x := by unfold setW; rw [e1, if_pos rfl, h, Int.toNat_natCast]
      rw [e1, e2]; exact set_ok w a s x k hk h hf hF
    · have e1 : setE s x = 1 := by unfold setE; rw [h, if_neg (by omega), Int.toNat_natCast, if_neg hf]
      have e2 : setW a s x = a := by unfold setW; rw [e1, if_neg (by decide)]
      rw [e1, e2]; exact set_bad w a s x k hk h (Bool.eq_false_iff.2 hf) hF
end Go.Proofs.YtpjgklpppiongaaDoor.UwWalk
