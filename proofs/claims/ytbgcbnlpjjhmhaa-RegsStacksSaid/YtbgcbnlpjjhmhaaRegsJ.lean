/- The registers: steps one behind the other, and what Undo makes of them (plain); the file's row of arrays held against itself. -/
import Derived.Test.YtbgcbnlpjjhmhaaRegsI
import Derived.Laws.StructEq
import Derived.ChangeKeysEq
namespace Go.Proofs.Ytbgcbnlpjjhmhaa.RegsWalk
open Go.RowKit Go.Proofs.Ytbgcbnlpjjhmhaa.Aid Go.Proofs.YtbgcbnlpjjhmhaaW.PrintWords Go.Proofs.YtbgcbnlpjjhmhaaW.PrintLast Go.Proofs.YtbgcbnlpjjhmhaaW.PrintMore
set_option linter.unusedVariables false
set_option linter.unusedSimpArgs false
def isReg (n : Int) : Bool := decide (0 ≤ n) && decide (n < 16)
def step1 (d : Int) (R : Nat → Int) (n : Int) : Nat → Int := if isReg n = true then updI R n.toNat ((R n.toNat + d) % 4294967296) else R
def entr (d : Int) (n : Int) : List (Nat × Int) := if isReg n = true then [(n.toNat, d)] else []
def stepAll (d : Int) (R : Nat → Int) (l : List Int) : Nat → Int := l.foldl (step1 d) R
def entrs (d : Int) (l : List Int) : List (Nat × Int) := l.flatMap (entr d)
def Rng (R : Nat → Int) : Prop := ∀ i, 0 ≤ R i ∧ R i < 4294967296
theorem rng_step {d : Int} {R : Nat → Int} (h : Rng R) (n : Int) : Rng (step1 d R n) := by
  intro i
  unfold step1
  split
  · unfold updI
    split
    · exact ⟨Int.emod_nonneg _ (by decide), Int.emod_lt_of_pos _ (by decide)⟩
    · exact h i
  · exact h i
theorem rng_all {d : Int} : ∀ (l : List Int) {R : Nat → Int}, Rng R → Rng (stepAll d R l)
  | [], _, h => h
  | n :: l, R, h => rng_all l (rng_step h n)
theorem back_all (d : Int) : ∀ (l : List Int) (R : Nat → Int), Rng R → backR (stepAll d R l) (entrs d l) = R
  | [], R, _ => rfl
  | n :: l, R, h => by
    have ih := back_all d l (step1 d R n) (rng_step h n)
    show backR (stepAll d (step1 d R n) l) (entr d n ++ entrs d l) = R
    unfold backR at ih ⊢
    rw [List.foldr_append, ih]
    unfold entr step1
    by_cases hn : isReg n = true
    · rw [if_pos hn, if_pos hn]
      show back1 (n.toNat, d) (updI R n.toNat ((R n.toNat + d) % 4294967296)) = R
      funext i
      unfold back1 updI
      by_cases hi : i = n.toNat
      · subst hi
        rw [if_pos rfl, if_pos rfl]
        have := h n.toNat
        show ((R n.toNat + d) % 4294967296 - d) % 4294967296 = R n.toNat
        omega
      · rw [if_neg (show ¬ i = (n.toNat, d).1 from hi), if_neg hi]
    · rw [if_neg hn, if_neg hn]
      rfl
theorem stepAll_next (d : Int) (R : Nat → Int) (l : List Int) (k : Nat) (hk : k < l.length) : stepAll d R (l.take (k + 1)) = step1 d (stepAll d R (l.take k)) (l.getD k 0) := by
  unfold stepAll
  rw [List.take_add_one, List.getElem?_eq_getElem hk, List.foldl_append, List.getD_eq_getElem?_getD, List.getElem?_eq_getElem hk]
  rfl
theorem entrs_next (d : Int) (l : List Int) (k : Nat) (hk : k < l.length) : entrs d (l.take (k + 1)) = entrs d (l.take k) ++ entr d (l.getD k 0) := by
  unfold entrs
  rw [List.take_add_one, List.getElem?_eq_getElem hk, List.flatMap_append, List.getD_eq_getElem?_getD, List.getElem?_eq_getElem hk]
  simp
theorem entrs_length (d : Int) : ∀ l : List Int, (entrs d l).length ≤ l.length
  | [] => Nat.le_refl _
  | n :: l => by
    have := entrs_length d l
    show (entr d n ++ entrs d l).length ≤ l.length + 1
    rw [List.length_append]
    have : (entr d n).length ≤ 1 := by unfold entr; split <;> simp
    omega
theorem entrs_low (d : Int) (l : List Int) : ∀ e ∈ entrs d l, e.1 < 16 := by
  intro e he
  unfold entrs at he
  obtain ⟨n, _, he⟩ := List.mem_flatMap.1 he
  unfold entr at he
  split at he
  · rename_i hn
    simp only [List.mem_cons, List.not_mem_nil, or_false] at he
    subst he
    unfold isReg at hn
    simp at hn
    show n.toNat < 16
    omega
  · cases he
theorem gstep_any (w0 W : World) (g : Nat) (R : Nat → Int) (p k u : Int) (xs : List (Nat × Int)) (n d : Int) (h : GP w0 W g R p k u xs) (hl : xs.length < 4096) :
    Calls Try.prog 16 #[.pointer (some ⟨g, 0, none⟩), .int .i64 n, .int .u32 d] W fun e w' => (∃ x, e = .returned (.int .i64 x)) ∧ GK w0 W w' g (step1 d R n) p k u (xs ++ entr d n) := by
  unfold step1 entr
  by_cases h0 : n < 0
  · have hn : ¬ isReg n = true := by unfold isReg; simp; omega
    rw [if_neg hn, if_neg hn, List.append_nil]
    refine (step_low W g n d h0).mono ?_
    rintro e w' ⟨rfl, rfl⟩
    exact ⟨⟨_, rfl⟩, h, KeepSt.of_below (Below.refl _ _)⟩
  · by_cases h1 : 15 < n
    · have hn : ¬ isReg n = true := by unfold isReg; simp; omega
      rw [if_neg hn, if_neg hn, List.append_nil]
      refine (step_high W g n d h1).mono ?_
      rintro e w' ⟨rfl, rfl⟩
      exact ⟨⟨_, rfl⟩, h, KeepSt.of_below (Below.refl _ _)⟩
    · have hn : isReg n = true := by unfold isReg; simp; omega
      rw [if_pos hn, if_pos hn]
      obtain ⟨m, rfl⟩ : ∃ m : Nat, n = m := ⟨n.toNat, by omega⟩
      rw [Int.toNat_natCast]
      refine (gstep w0 W g R p k u xs m d h (by omega) hl).mono ?_
      rintro e w' ⟨rfl, h'⟩
      exact ⟨⟨_, rfl⟩, h'⟩
/-- Sixteen registers of a row of numbers. -/
def vec (c0 c1 c2 c3 c4 c5 c6 c7 c8 c9 c10 c11 c12 c13 c14 c15 : Int) (i : Nat) : Int :=
  if i = 0 then c0 else if i = 1 then c1 else if i = 2 then c2 else if i = 3 then c3 else if i = 4 then c4 else if i = 5 then c5 else if i = 6 then c6 else if i = 7 then c7 else
  if i = 8 then c8 else if i = 9 then c9 else if i = 10 then c10 else if i = 11 then c11 else if i = 12 then c12 else if i = 13 then c13 else if i = 14 then c14 else if i = 15 then c15 else 0
theorem infoU : (Try.prog.info? 22).map (·.size) = some 1 := by kernel_rfl
theorem eqItems_same (d : Nat) (xs : Array Value) (is : List Nat) (w : World) (h : ∀ j ∈ is, ∃ c, xs[j * 1]? = some (.int .u32 c)) : (Op.eqItems (d + 1) 22 1 xs xs is).run Try.prog w = .ok true w := by
  induction is with
  | nil => simp [Op.eqItems]
  | cons j is ih =>
    obtain ⟨c, hc⟩ := h j (by simp)
    have hp : (part 22 xs (j * 1)).run Try.prog w = .ok (.int .u32 c) w := run_part_plain w (by kernel_rfl) hc
    simp only [Op.eqItems, Sem.run_bind, hp, Result.andThen_ok, run_equalIn_int w d 22 .u32 .u32 c c Try.underlying22]
    simp [ih (fun j hj => h j (by simp [hj]))]
theorem eqArr (w : World) (d : Nat) (c0 c1 c2 c3 c4 c5 c6 c7 c8 c9 c10 c11 c12 c13 c14 c15 : Int) :
    (Op.equalIn (d + 2) 23 (.agg #[.int .u32 c0, .int .u32 c1, .int .u32 c2, .int .u32 c3, .int .u32 c4, .int .u32 c5, .int .u32 c6, .int .u32 c7, .int .u32 c8, .int .u32 c9, .int .u32 c10, .int .u32 c11, .int .u32 c12, .int .u32 c13, .int .u32 c14, .int .u32 c15])
      (.agg #[.int .u32 c0, .int .u32 c1, .int .u32 c2, .int .u32 c3, .int .u32 c4, .int .u32 c5, .int .u32 c6, .int .u32 c7, .int .u32 c8, .int .u32 c9, .int .u32 c10, .int .u32 c11, .int .u32 c12, .int .u32 c13, .int .u32 c14, .int .u32 c15])).run Try.prog w = .ok true w := by
  obtain ⟨i, hi⟩ : ∃ i, Try.prog.info? 22 = some i := by
    have := infoU
    cases h : Try.prog.info? 22 with
    | none => rw [h] at this; simp at this
    | some i => exact ⟨i, rfl⟩
  rw [run_equalIn_array w (d + 1) _ _ Try.underlying23 hi]
  have hc : Try.prog.cellsOf 22 = 1 := by kernel_rfl
  rw [hc]
  refine eqItems_same d _ _ w fun j hj => ?_
  have hj : j < 16 := List.mem_range.1 hj
  match j, hj with
  | 0, _ | 1, _ | 2, _ | 3, _ | 4, _ | 5, _ | 6, _ | 7, _ | 8, _ | 9, _ | 10, _ | 11, _ | 12, _ | 13, _ | 14, _ | 15, _ => exact ⟨_, rfl⟩
  | j + 16, h => omega
theorem eqF_step (w : World) (d : Nat) (xs : Array Value) (f : Field) (fs : List Field) (a : Value) (hn : (f.name ≠ "_") = True) (hp : (part f.type xs f.offset).run Try.prog w = .ok a w) (he : (Op.equalIn d f.type a a).run Try.prog w = .ok true w) :
    (Op.eqFields d xs xs (f :: fs)).run Try.prog w = (Op.eqFields d xs xs fs).run Try.prog w := by
  simp only [Op.eqFields, Sem.run_ite, hn, if_true, Sem.run_bind, hp, he, Result.andThen_ok, Bool.not_true, Bool.false_eq_true, if_false]
theorem eqI (w : World) (d : Nat) (c : Int) : (Op.equalIn (d + 1) 22 (.int .u32 c) (.int .u32 c)).run Try.prog w = .ok true w := by
  rw [run_equalIn_int w d 22 .u32 .u32 c c Try.underlying22]; simp
theorem eqI3 (w : World) (d : Nat) (c : Int) : (Op.equalIn (d + 1) 3 (.int .i64 c) (.int .i64 c)).run Try.prog w = .ok true w := by
  rw [run_equalIn_int w d 3 .i64 .i64 c c Try.underlying3]; simp
theorem eqTb (w : World) (d : Nat) (t0 t1 t2 t3 t4 : Int) : (Op.equalIn (d + 2) 25 (.agg #[.int .u32 t0, .int .u32 t1, .int .u32 t2, .int .u32 t3, .int .u32 t4]) (.agg #[.int .u32 t0, .int .u32 t1, .int .u32 t2, .int .u32 t3, .int .u32 t4])).run Try.prog w = .ok true w := by
  have hT : Try.prog.stoodInHeld 25 = false := by kernel_rfl
  rw [run_equalIn_agg w _ _ _ _ (by simp [Program.fieldsOf, Try.underlying25]) hT]
  simp only [Program.fieldsOf, Try.underlying25]
  refine (eqF_step w _ _ _ _ (.int .u32 t0) (by simp) ?_ ?_).trans ?_
  · exact run_part_plain w (by kernel_rfl) rfl
  · exact eqI w d t0
  refine (eqF_step w _ _ _ _ (.int .u32 t1) (by simp) ?_ ?_).trans ?_
  · exact run_part_plain w (by kernel_rfl) rfl
  · exact eqI w d t1
  refine (eqF_step w _ _ _ _ (.int .u32 t2) (by simp) ?_ ?_).trans ?_
  · exact run_part_plain w (by kernel_rfl) rfl
  · exact eqI w d t2
  refine (eqF_step w _ _ _ _ (.int .u32 t3) (by simp) ?_ ?_).trans ?_
  · exact run_part_plain w (by kernel_rfl) rfl
  · exact eqI w d t3
  refine (eqF_step w _ _ _ _ (.int .u32 t4) (by simp) ?_ ?_).trans ?_
  · exact run_part_plain w (by kernel_rfl) rfl
  · exact eqI w d t4
  rfl
theorem partR (w : World) (r : Nat → Int) (s p k u t0 t1 t2 t3 t4 sc hh : Int) : (part 23 (stCells r s p k u t0 t1 t2 t3 t4 sc hh) 0).run Try.prog w = .ok (.agg #[.int .u32 (r 0), .int .u32 (r 1), .int .u32 (r 2), .int .u32 (r 3), .int .u32 (r 4), .int .u32 (r 5), .int .u32 (r 6), .int .u32 (r 7), .int .u32 (r 8), .int .u32 (r 9), .int .u32 (r 10), .int .u32 (r 11), .int .u32 (r 12), .int .u32 (r 13), .int .u32 s, .int .u32 (r 15)]) w := by kernel_rfl
theorem partT (w : World) (r : Nat → Int) (s p k u t0 t1 t2 t3 t4 sc hh : Int) : (part 25 (stCells r s p k u t0 t1 t2 t3 t4 sc hh) 19).run Try.prog w = .ok (.agg #[.int .u32 t0, .int .u32 t1, .int .u32 t2, .int .u32 t3, .int .u32 t4]) w := by kernel_rfl
theorem eqSt (w : World) (r : Nat → Int) (s p k u t0 t1 t2 t3 t4 sc hh : Int) : (binOp .eql 27 (.agg (stCells r s p k u t0 t1 t2 t3 t4 sc hh)) (.agg (stCells r s p k u t0 t1 t2 t3 t4 sc hh))).run Try.prog w = .ok (.bool true) w := by
  have EA := fun W => eqArr W 9997 (r 0) (r 1) (r 2) (r 3) (r 4) (r 5) (r 6) (r 7) (r 8) (r 9) (r 10) (r 11) (r 12) (r 13) s (r 15)
  have h27 : Try.prog.stoodInHeld 27 = false := by kernel_rfl
  have P1 := partR w r s p k u t0 t1 t2 t3 t4 sc hh
  have P2 := partT w r s p k u t0 t1 t2 t3 t4 sc hh
  rw [run_eql_struct, run_equalIn_agg w _ _ _ _ (by simp [Program.fieldsOf, Try.underlying27]) h27]
  suffices H : (Op.eqFields 9999 (stCells r s p k u t0 t1 t2 t3 t4 sc hh) (stCells r s p k u t0 t1 t2 t3 t4 sc hh) (Try.prog.fieldsOf 27).toList).run Try.prog w = .ok true w by rw [H]; rfl
  simp only [Program.fieldsOf, Try.underlying27]
  refine (eqF_step w _ _ _ _ (.agg #[.int .u32 (r 0), .int .u32 (r 1), .int .u32 (r 2), .int .u32 (r 3), .int .u32 (r 4), .int .u32 (r 5), .int .u32 (r 6), .int .u32 (r 7), .int .u32 (r 8), .int .u32 (r 9), .int .u32 (r 10), .int .u32 (r 11), .int .u32 (r 12), .int .u32 (r 13), .int .u32 s, .int .u32 (r 15)]) (by simp) ?_ ?_).trans ?_
  · exact P1
  · exact EA w
  refine (eqF_step w _ _ _ _ (.int .u32 p) (by simp) ?_ ?_).trans ?_
  · exact run_part_plain w (by kernel_rfl) rfl
  · exact eqI w 9998 p
  refine (eqF_step w _ _ _ _ (.int .u32 k) (by simp) ?_ ?_).trans ?_
  · exact run_part_plain w (by kernel_rfl) rfl
  · exact eqI w 9998 k
  refine (eqF_step w _ _ _ _ (.int .u32 u) (by simp) ?_ ?_).trans ?_
  · exact run_part_plain w (by kernel_rfl) rfl
  · exact eqI w 9998 u
  refine (eqF_step w _ _ _ _ (.agg #[.int .u32 t0, .int .u32 t1, .int .u32 t2, .int .u32 t3, .int .u32 t4]) (by simp) ?_ ?_).trans ?_
  · exact P2
  · exact eqTb w 9997 t0 t1 t2 t3 t4
  refine (eqF_step w _ _ _ _ (.int .u32 sc) (by simp) ?_ ?_).trans ?_
  · exact run_part_plain w (by kernel_rfl) rfl
  · exact eqI w 9998 sc
  refine (eqF_step w _ _ _ _ (.int .i64 hh) (by simp) ?_ ?_).trans ?_
  · exact run_part_plain w (by kernel_rfl) rfl
  · exact eqI3 w 9998 hh
  rfl
end Go.Proofs.Ytbgcbnlpjjhmhaa.RegsWalk
