/- The registers' contracts over one state: what the statements of layer 7 walk by; alive. -/
import Derived.Test.YtbgcbnlpjjhmhaaRegsH
import Derived.Test.YtbgcbnlpjjhmhaaRegsB
namespace Go.Proofs.Ytbgcbnlpjjhmhaa.RegsWalk
open Go.RowKit Go.Proofs.Ytbgcbnlpjjhmhaa.Aid Go.Proofs.YtbgcbnlpjjhmhaaW.PrintWords Go.Proofs.YtbgcbnlpjjhmhaaW.PrintLast Go.Proofs.YtbgcbnlpjjhmhaaW.PrintMore
open Go.Proofs.Ytbgcbnlpjjhmhaa.LinesWalk (Kept2 NewRow own_then own_some own_pre own_row)
set_option linter.unusedVariables false
set_option linter.unusedSimpArgs false
/-- A file that was made behind w0, and nothing of w0 turned. -/
def GP (w0 W : World) (g : Nat) (R : Nat → Int) (p k u : Int) (xs : List (Nat × Int)) : Prop := Below w0.heap.size w0 W ∧ ∃ v, GAt W w0.heap.size g R p k u v xs
theorem GP.below {w0 W : World} {g : Nat} {R : Nat → Int} {p k u : Int} {xs : List (Nat × Int)} (h : GP w0 W g R p k u xs) : Below w0.heap.size w0 W := h.1
theorem GP.of_file {w0 W : World} {g : Nat} {R : Nat → Int} {p k u : Int} (b : Below w0.heap.size w0 W) (hg : w0.heap.size ≤ g) (h : FileAt W g R (R 14) p k u (.slice none 0 0)) : GP w0 W g R p k u [] :=
  ⟨b, _, h, hg, World.ownsRow_nil _ _ _ _⟩
theorem GAt.fileonly {W W' : World} {base g : Nat} {R R' : Nat → Int} {p k u p' k' u' : Int} {v : Value} {xs : List (Nat × Int)} (h : GAt W base g R p k u v xs) (kk : KeptG W W' g) (hf : FileAt W' g R' (R' 14) p' k' u' v) : GAt W' base g R' p' k' u' v xs :=
  ⟨hf, h.ge, h.row.kept (row := some g) ⟨kk.os, kk.tape, kk.output, kk.size, fun i hi h1 => kk.block i hi (fun e => h1 (by rw [e]))⟩ (.inr h.ne)⟩
theorem GP.kept {w0 W W' : World} {g : Nat} {R R' : Nat → Int} {p k u p' k' u' : Int} {v : Value} {xs : List (Nat × Int)} (b : Below w0.heap.size w0 W) (h : GAt W w0.heap.size g R p k u v xs) (kk : KeptG W W' g) (hf : FileAt W' g R' (R' 14) p' k' u' v) : GP w0 W' g R' p' k' u' xs :=
  ⟨kk.below b h.ge, v, h.fileonly kk hf⟩
theorem GP.kept2 {w0 W W' : World} {g : Nat} {R R' : Nat → Int} {p k u p' k' u' : Int} {v v' : Value} {xs xs' : List (Nat × Int)} (b : Below w0.heap.size w0 W) (h : GAt W w0.heap.size g R p k u v xs) (kk : Kept2 W W' g v.ownBlock) (hf : GAt W' w0.heap.size g R' p' k' u' v' xs') : GP w0 W' g R' p' k' u' xs' :=
  ⟨kk.below b h.ge (fun i hi => (own_row h.row i hi).1), v', hf⟩
/-- No block that holds a state turned. -/
def KeepSt (W W' : World) : Prop := ∀ (b : Nat) (cs : Array Value) (fr : Nat × Nat), W.heap[b]? = some (.cells cs 27 fr) → W'.heap[b]? = some (.cells cs 27 fr)
theorem KeepSt.of_below {W W' : World} (h : Below W.heap.size W W') : KeepSt W W' := fun b cs fr hb => (h.block b (Array.getElem?_eq_some_iff.1 hb).1).trans hb
theorem KeepSt.trans {a b c : World} (h : KeepSt a b) (k : KeepSt b c) : KeepSt a c := fun i cs fr hi => k i cs fr (h i cs fr hi)
theorem KeepSt.of_g {W W' : World} {g : Nat} {r : Nat → Int} {s p k u : Int} {v : Value} (h : FileAt W g r s p k u v) (kk : KeptG W W' g) : KeepSt W W' := fun b cs fr hb => (kk.block b (Array.getElem?_eq_some_iff.1 hb).1 (fun e => by subst e; unfold FileAt at h; rw [h] at hb; simp at hb)).trans hb
theorem KeepSt.of_2 {W W' : World} {base g : Nat} {R : Nat → Int} {p k u : Int} {v : Value} {xs : List (Nat × Int)} (h : GAt W base g R p k u v xs) (kk : Kept2 W W' g v.ownBlock) : KeepSt W W' := fun b cs fr hb =>
  (kk.block b (Array.getElem?_eq_some_iff.1 hb).1 (fun e => by subst e; have := h.file; unfold FileAt at this; rw [this] at hb; simp at hb) (fun e => by
    rcases h.row.2 with ⟨rfl, _⟩ | ⟨b', c, cur, rfl, _, hh, _⟩
    · simp [Value.ownBlock] at e
    · simp only [Value.ownBlock, Option.some.injEq] at e
      subst e
      rw [hh] at hb
      simp at hb)).trans hb
def GK (w0 W W' : World) (g : Nat) (R : Nat → Int) (p k u : Int) (xs : List (Nat × Int)) : Prop := GP w0 W' g R p k u xs ∧ KeepSt W W'
theorem GK.kept {w0 W W' : World} {g : Nat} {R R' : Nat → Int} {p k u p' k' u' : Int} {v : Value} {xs : List (Nat × Int)} (b : Below w0.heap.size w0 W) (h : GAt W w0.heap.size g R p k u v xs) (kk : KeptG W W' g) (hf : FileAt W' g R' (R' 14) p' k' u' v) : GK w0 W W' g R' p' k' u' xs :=
  ⟨GP.kept b h kk hf, KeepSt.of_g h.file kk⟩
theorem GK.kept2 {w0 W W' : World} {g : Nat} {R R' : Nat → Int} {p k u p' k' u' : Int} {v v' : Value} {xs xs' : List (Nat × Int)} (b : Below w0.heap.size w0 W) (h : GAt W w0.heap.size g R p k u v xs) (kk : Kept2 W W' g v.ownBlock) (hf : GAt W' w0.heap.size g R' p' k' u' v' xs') : GK w0 W W' g R' p' k' u' xs' :=
  ⟨GP.kept2 b h kk hf, KeepSt.of_2 h kk⟩
theorem GP.then {w0 W W' : World} {g : Nat} {R : Nat → Int} {p k u : Int} {xs : List (Nat × Int)} (h : GP w0 W g R p k u xs) (b : Below W.heap.size W W') : GP w0 W' g R p k u xs := by
  obtain ⟨b0, v, h⟩ := h
  exact ⟨below_step b0 b, v, h.then b⟩
theorem updI_14 {W : World} {g : Nat} {R : Nat → Int} {x p k u : Int} {v : Value} (h : FileAt W g R x p k u v) : FileAt W g (updI R 14 x) (updI R 14 x 14) p k u v := h
theorem gnew (w : World) : Calls Try.prog 14 #[] w fun e w' => ∃ g, e = .returned (.pointer (some ⟨g, 0, none⟩)) ∧ GP w w' g (fun _ => 0) 0 0 0 [] := by
  refine (rnew_call w).mono ?_
  rintro e w' ⟨g, rfl, hf, hb, hg⟩
  exact ⟨g, rfl, GP.of_file hb hg hf⟩
theorem gget (w0 W : World) (g : Nat) (R : Nat → Int) (p k u : Int) (xs : List (Nat × Int)) (n : Nat) (x : Int) (hx : R n = x) (h : GP w0 W g R p k u xs) (hn : n < 16) :
    Calls Try.prog 36 #[.pointer (some ⟨g, 0, none⟩), .int .i64 n] W fun e w' => e = .returned (.int .u32 x) ∧ GK w0 W w' g R p k u xs := by
  obtain ⟨b, v, h⟩ := h
  refine (get_call W _ g R p k u v xs n h hn).mono ?_
  rintro e w' ⟨rfl, rfl⟩
  exact ⟨by rw [hx], ⟨b, v, h⟩, KeepSt.of_below (Below.refl _ _)⟩
theorem gsteps (w0 W : World) (g : Nat) (R : Nat → Int) (p k u : Int) (xs : List (Nat × Int)) (n : Nat) (hl : xs.length = n) (h : GP w0 W g R p k u xs) :
    Calls Try.prog 20 #[.pointer (some ⟨g, 0, none⟩)] W fun e w' => e = .returned (.int .i64 n) ∧ GK w0 W w' g R p k u xs := by
  obtain ⟨b, v, h⟩ := h
  obtain ⟨A, c, rfl⟩ := own_val1 h.row
  refine (steps_call W g R _ p k u A _ c h.file).mono ?_
  rintro e w' ⟨rfl, rfl⟩
  exact ⟨by rw [hl], ⟨b, _, h⟩, KeepSt.of_below (Below.refl _ _)⟩
theorem gstep (w0 W : World) (g : Nat) (R : Nat → Int) (p k u : Int) (xs : List (Nat × Int)) (n : Nat) (d : Int) (h : GP w0 W g R p k u xs) (hn : n < 16) (hl : xs.length < 4096) :
    Calls Try.prog 16 #[.pointer (some ⟨g, 0, none⟩), .int .i64 n, .int .u32 d] W fun e w' => e = .returned (.int .i64 0) ∧ GK w0 W w' g (updI R n ((R n + d) % 4294967296)) p k u (xs ++ [(n, d)]) := by
  obtain ⟨b, v, h⟩ := h
  refine (step_call W _ g R p k u v xs n d _ rfl h hn hl).mono ?_
  rintro e w' ⟨rfl, v', h1, h2, h3⟩
  exact ⟨rfl, GK.kept2 b h h2 h1⟩
theorem gundo (w0 W : World) (g : Nat) (R : Nat → Int) (p k u : Int) (xs : List (Nat × Int)) (h : GP w0 W g R p k u xs) (hx : ∀ e ∈ xs, e.1 < 16) (hl : xs.length ≤ 4096) :
    Calls Try.prog 19 #[.pointer (some ⟨g, 0, none⟩)] W fun e w' => e = .returned (.tuple #[]) ∧ GK w0 W w' g (backR R xs) p k u [] := by
  obtain ⟨b, v, h⟩ := h
  refine (undo_call W _ g R p k u v xs h hx hl).mono ?_
  rintro e w' ⟨rfl, ⟨v', h1, _⟩, h2⟩
  exact ⟨rfl, GK.kept2 b h h2 h1⟩
theorem gforget (w0 W : World) (g : Nat) (R : Nat → Int) (p k u : Int) (xs : List (Nat × Int)) (h : GP w0 W g R p k u xs) :
    Calls Try.prog 17 #[.pointer (some ⟨g, 0, none⟩)] W fun e w' => e = .returned (.tuple #[]) ∧ GK w0 W w' g R p k u [] := by
  obtain ⟨b, v, h⟩ := h
  refine (forget_call W g R _ p k u v h.file).mono ?_
  rintro e w' ⟨rfl, h1, h2⟩
  exact ⟨rfl, GP.of_file (h1.below b h.ge) h.ge h2, KeepSt.of_g h.file h1⟩
theorem gload (w0 W : World) (g : Nat) (R R' : Nat → Int) (p k u p' k' u' t0 t1 t2 t3 t4 sc hh : Int) (xs : List (Nat × Int)) (h : GP w0 W g R p k u xs) :
    Calls Try.prog 15 #[.pointer (some ⟨g, 0, none⟩), .agg (stCells R' (R' 14) p' k' u' t0 t1 t2 t3 t4 sc hh)] W fun e w' => e = .returned (.tuple #[]) ∧ GK w0 W w' g R' p' k' u' [] := by
  obtain ⟨b, v, h⟩ := h
  refine (load_call W g R R' _ p k u _ p' k' u' t0 t1 t2 t3 t4 sc hh v h.file).mono ?_
  rintro e w' ⟨rfl, h1, h2⟩
  exact ⟨rfl, GP.of_file (h1.below b h.ge) h.ge h2, KeepSt.of_g h.file h1⟩
theorem gsave (w0 W : World) (g : Nat) (R r' : Nat → Int) (p k u s' p' k' u' t0 t1 t2 t3 t4 sc hh : Int) (xs : List (Nat × Int)) (h : GP w0 W g R p k u xs) :
    Calls Try.prog 18 #[.pointer (some ⟨g, 0, none⟩), .agg (stCells r' s' p' k' u' t0 t1 t2 t3 t4 sc hh)] W fun e w' => e = .returned (.agg (stCells R (R 14) p k u t0 t1 t2 t3 t4 sc hh)) ∧ GK w0 W w' g R p k u xs := by
  obtain ⟨b, v, h⟩ := h
  refine (save_call W g R r' _ p k u s' p' k' u' t0 t1 t2 t3 t4 sc hh v h.file).mono ?_
  rintro e w' ⟨rfl, hb⟩
  exact ⟨rfl, ⟨below_step b hb, v, h.then hb⟩, KeepSt.of_below hb⟩
theorem gstack (w0 W : World) (g : Nat) (R : Nat → Int) (p k u : Int) (xs : List (Nat × Int)) (user : Bool) (h : GP w0 W g R p k u xs) :
    Calls Try.prog 30 #[.pointer (some ⟨g, 0, none⟩), .bool user] W fun e w' => e = .returned (.int .u32 (stackV user (R 14) p k u)) ∧ GK w0 W w' g R p k u xs := by
  obtain ⟨b, v, h⟩ := h
  refine (stack_call W g R _ p k u v user h.file).mono ?_
  rintro e w' ⟨rfl, rfl⟩
  exact ⟨rfl, ⟨b, v, h⟩, KeepSt.of_below (Below.refl _ _)⟩
theorem gsetstack (w0 W : World) (g : Nat) (R : Nat → Int) (p k u : Int) (xs : List (Nat × Int)) (user : Bool) (x : Int) (h : GP w0 W g R p k u xs) :
    Calls Try.prog 28 #[.pointer (some ⟨g, 0, none⟩), .bool user, .int .u32 x] W fun e w' => e = .returned (.tuple #[]) ∧
      GK w0 W w' g (updI R 14 (if user = usr p then x else R 14)) p (if user = usr p then k else if user = true then k else x) (if user = usr p then u else if user = true then x else u) xs := by
  obtain ⟨b, v, h⟩ := h
  refine (setstack_call W g R _ p k u v user x h.file).mono ?_
  rintro e w' ⟨rfl, h1, h2⟩
  exact ⟨rfl, GK.kept b h h1 (updI_14 h2)⟩
theorem gput (w0 W : World) (g : Nat) (R : Nat → Int) (p k u : Int) (xs : List (Nat × Int)) (x : Int) (h : GP w0 W g R p k u xs) :
    Calls Try.prog 29 #[.pointer (some ⟨g, 0, none⟩), .int .u32 x] W fun e w' => e = .returned (.tuple #[]) ∧
      GK w0 W w' g (updI R 14 (if usr x = usr p then R 14 else if usr x = true then u else k)) x (if usr x = usr p then k else if usr x = true then R 14 else k) (if usr x = usr p then u else if usr x = true then u else R 14) xs := by
  obtain ⟨b, v, h⟩ := h
  refine (put_call W g R _ p k u v x h.file).mono ?_
  rintro e w' ⟨rfl, h1, h2⟩
  exact ⟨rfl, GK.kept b h h1 (updI_14 h2)⟩
theorem gset (w0 W : World) (g : Nat) (b : Below w0.heap.size w0 W) (hg : w0.heap.size ≤ g) (h : FileAt W g (fun _ => 0) 0 0 0 0 (.slice none 0 0)) :
    Calls Try.prog 35 #[.pointer (some ⟨g, 0, none⟩), .int .i64 3, .int .u32 9, .int .i64 4] W fun e w' => e = .returned (.int .i64 0) ∧ GK w0 W w' g (updI (fun _ => 0) 3 9) 0 0 0 [] := by
  refine (set_call W g h).mono ?_
  rintro e w' ⟨rfl, h1, h2⟩
  exact ⟨rfl, GP.of_file (h1.below b hg) hg h2, KeepSt.of_g h h1⟩
theorem gget_i (w0 W : World) (g : Nat) (R : Nat → Int) (p k u : Int) (xs : List (Nat × Int)) (n : Nat) (m x : Int) (hm : (n : Int) = m) (hx : R n = x) (h : GP w0 W g R p k u xs) (hn : n < 16) :
    Calls Try.prog 36 #[.pointer (some ⟨g, 0, none⟩), .int .i64 m] W fun e w' => e = .returned (.int .u32 x) ∧ GK w0 W w' g R p k u xs := by
  subst hm; exact gget w0 W g R p k u xs n x hx h hn
theorem gstep_i (w0 W : World) (g : Nat) (R R' : Nat → Int) (p k u : Int) (xs : List (Nat × Int)) (n : Nat) (m d : Int) (hm : (n : Int) = m) (hR : updI R n ((R n + d) % 4294967296) = R') (h : GP w0 W g R p k u xs) (hn : n < 16) (hl : xs.length < 4096) :
    Calls Try.prog 16 #[.pointer (some ⟨g, 0, none⟩), .int .i64 m, .int .u32 d] W fun e w' => e = .returned (.int .i64 0) ∧ GK w0 W w' g R' p k u (xs ++ [(n, d)]) := by
  subst hm; subst hR; exact gstep w0 W g R p k u xs n d h hn hl
theorem gsteps_i (w0 W : World) (g : Nat) (R : Nat → Int) (p k u : Int) (xs : List (Nat × Int)) (n : Int) (hl : (xs.length : Int) = n) (h : GP w0 W g R p k u xs) :
    Calls Try.prog 20 #[.pointer (some ⟨g, 0, none⟩)] W fun e w' => e = .returned (.int .i64 n) ∧ GK w0 W w' g R p k u xs := by
  subst hl; exact gsteps w0 W g R p k u xs _ rfl h
theorem gundo_i (w0 W : World) (g : Nat) (R R' : Nat → Int) (p k u : Int) (xs : List (Nat × Int)) (hR : backR R xs = R') (h : GP w0 W g R p k u xs) (hx : ∀ e ∈ xs, e.1 < 16) (hl : xs.length ≤ 4096) :
    Calls Try.prog 19 #[.pointer (some ⟨g, 0, none⟩)] W fun e w' => e = .returned (.tuple #[]) ∧ GK w0 W w' g R' p k u [] := by
  subst hR; exact gundo w0 W g R p k u xs h hx hl
theorem upd_up (R : Nat → Int) (n : Nat) (x y : Int) : updI (updI R n x) n y = updI R n y := by
  funext i; unfold updI; split <;> rfl
theorem back0 : backR (updI (fun _ => 0) 3 13) ([] ++ [(3, 4)]) = updI (fun _ => 0) 3 9 := by
  show updI (updI (fun _ => 0) 3 13) 3 ((13 - 4) % 4294967296) = _
  rw [upd_up]; rfl
set_option maxHeartbeats 1000000 in
theorem ralive_call (w : World) : Calls Try.prog 13 #[] w fun e w' => e = .returned (.bool true) ∧ Below w.heap.size w w' := by
  have S3 := Aside0.mk (fun W g h => gstep_i w W g (updI (fun _ => 0) 3 9) (updI (fun _ => 0) 3 13) 0 0 0 [] 3 3 4 rfl (upd_up _ _ _ _) h (by decide) (by decide))
  have G3 := Aside0.mk (fun W g h => gget_i w W g (updI (fun _ => 0) 3 13) 0 0 0 ([] ++ [(3, 4)]) 3 3 13 rfl rfl h (by decide))
  have U3 := Aside0.mk (fun W g h => gundo_i w W g (updI (fun _ => 0) 3 13) (updI (fun _ => 0) 3 9) 0 0 0 ([] ++ [(3, 4)]) back0 h (by decide) (by decide))
  have G4 := Aside0.mk (fun W g h => gget_i w W g (updI (fun _ => 0) 3 9) 0 0 0 [] 3 3 9 rfl rfl h (by decide))
  have T4 := Aside0.mk (fun W g h => gsteps_i w W g (updI (fun _ => 0) 3 9) 0 0 0 [] 0 rfl h)
  go_enter Try.func13, Try.ntmps13
  go_wp2_with (first
    | (go_at_call 14; (with_reducible refine (rnew_call _).mono ?_); rintro e w1 ⟨g, rfl, hf, hb, hg⟩; have F1 := Aside0.mk (And.intro hb (And.intro hg hf)); clear hf hb hg)
    | (go_at_call 35; (with_reducible refine (gset _ _ _ F1.out.1 F1.out.2.1 F1.out.2.2).mono ?_); rintro e w2 ⟨rfl, h⟩; have H2 := Aside0.mk h.1; clear h)
    | (go_at_call 16; (with_reducible refine (S3.out _ _ H2.out).mono ?_); rintro e w3 ⟨rfl, h⟩; have H3 := Aside0.mk h.1; clear h)
    | (go_at_call 19; (with_reducible refine (U3.out _ _ H4.out).mono ?_); rintro e w5 ⟨rfl, h⟩; have H5 := Aside0.mk h.1; clear h)
    | (go_at_call 36; (with_reducible refine (G4.out _ _ H5.out).mono ?_); rintro e w6 ⟨rfl, h⟩; have H6 := Aside0.mk h.1; clear h)
    | (go_at_call 36; (with_reducible refine (G3.out _ _ H3.out).mono ?_); rintro e w4 ⟨rfl, h⟩; have H4 := Aside0.mk h.1; clear h)
    | (go_at_call 20; (with_reducible refine (T4.out _ _ H6.out).mono ?_); rintro e w7 ⟨rfl, h⟩; have H7 := Aside0.mk h.1; clear h))
  go_ret
  exact ⟨rfl, H7.out.below⟩
end Go.Proofs.Ytbgcbnlpjjhmhaa.RegsWalk
