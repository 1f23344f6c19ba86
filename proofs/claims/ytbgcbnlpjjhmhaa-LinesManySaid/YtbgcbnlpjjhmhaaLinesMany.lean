/- As many changes as may wait are taken, one more is not; made, they make room: the walk of LinesMany. -/
import Derived.Test.YtbgcbnlpjjhmhaaLinesJ
namespace Go.Proofs.Ytbgcbnlpjjhmhaa.LinesWalk
open Go.RowKit Go.Proofs.Ytbgcbnlpjjhmhaa.Aid Go.Proofs.YtbgcbnlpjjhmhaaW.PrintWords Go.Proofs.YtbgcbnlpjjhmhaaW.PrintLast Go.Proofs.YtbgcbnlpjjhmhaaW.PrintMore Go.Proofs.Ytbgcbnlpjjhmhaa.HeapLaw
attribute [local go_sem] max2_int min2_int max_two min_two max_three min_three max_four min_four   -- for this text's walks alone
set_option linter.unusedVariables false
set_option linter.unusedSimpArgs false
def manyS : Nat → St
  | 0 => St.new
  | k + 1 => addS (manyS k) ((k : Int) % 7) (1 + (k : Int) % 31) ((k : Int) % 2 == 0)
theorem manyS_spec : ∀ k, (manyS k).now = 0 ∧ (manyS k).xs.length = min k 4096 ∧ (manyS k).nums ≤ k ∧ ∀ e ∈ (manyS k).xs, e.cy ≤ 6
  | 0 => ⟨rfl, rfl, Int.le_refl _, fun e h => by cases h⟩
  | k + 1 => by
    obtain ⟨h1, h2, h3, h4⟩ := manyS_spec k
    unfold manyS addS
    rw [if_neg (by omega), if_neg (by omega)]
    by_cases hk : (manyS k).xs.length = 4096
    · rw [if_pos hk]
      exact ⟨h1, by omega, by omega, h4⟩
    · rw [if_neg hk]
      refine ⟨h1, ?_, ?_, fun e he => ?_⟩
      · show ((manyS k).xs ++ [_]).length = _
        rw [List.length_append, List.length_singleton]; omega
      · show (manyS k).nums + 1 ≤ _; omega
      · rcases List.mem_append.1 he with he | he
        · exact h4 e he
        · rw [List.mem_singleton] at he
          subst he
          show (k : Int) % 7 ≤ 6; omega
theorem manyS_err (k : Nat) : addE (manyS k) ((k : Int) % 7) (1 + (k : Int) % 31) = if k < 4096 then 0 else 3 := by
  obtain ⟨h1, h2, h3, h4⟩ := manyS_spec k
  unfold addE
  rw [if_neg (by omega), if_neg (by omega)]
  by_cases hk : k < 4096
  · rw [if_pos hk, if_neg (by omega)]
  · rw [if_neg hk, if_pos (by omega)]
theorem many_end (n : Nat) (hg : GoodS (manyS n)) : (atS (manyS n) 6).xs = [] ∧ (atS (manyS n) 6).now = 6 ∧ (atS (manyS n) 6).nums ≤ n := by
  obtain ⟨h1, h2, h3, h4⟩ := manyS_spec n
  have hn : nowS (manyS n) 6 = 6 := by unfold nowS; rw [h1]; rfl
  have r := popF_sorted (manyS n).xs.length 6 (sortE (manyS n).xs) (manyS n).xs (manyS n).on (Nat.le_refl _) (sortE_perm _).symm (sortE_sorted _) hg.inc
  have hd : (sortE (manyS n).xs).dropWhile (fun e => decide (e.cy ≤ 6)) = [] := by
    rw [List.eq_nil_iff_forall_not_mem]
    intro e he
    have := (dropWhile_due _ 6 (sortE_sorted _) e).1 he
    have := h4 e ((sortE_perm _).mem_iff.1 this.1)
    omega
  rw [hd] at r
  unfold atS
  rw [hn]
  exact ⟨r.2.1.eq_nil, rfl, h3⟩
theorem many_off (w : World) (m : Int) (h : m < -2 ∨ 2 < m) :
    Calls Try.prog 6 #[.int .i64 m] w fun e w' => e = .returned (.bool true) ∧ Below w.heap.size w w' := by
  have A := Aside0.mk alive_call
  by_cases h1 : m < -2
  · clear h
    go_enter Try.func6, Try.ntmps6
    go_wp2_with (first | (go_at_call 21; (with_reducible refine (A.out _).mono ?_); rintro e w1 ⟨rfl, hb⟩))
    go_ret
    exact ⟨rfl, hb⟩
  · have h2 : 2 < m := by omega
    clear h
    go_enter Try.func6, Try.ntmps6
    go_wp2_with (first | (go_at_call 21; (with_reducible refine (A.out _).mono ?_); rintro e w1 ⟨rfl, hb⟩))
    go_ret
    exact ⟨rfl, hb⟩
set_option maxRecDepth 100000 in
set_option maxHeartbeats 2000000 in
theorem many_on (w : World) (m : Int) (h1 : -2 ≤ m) (h2 : m ≤ 2) :
    Calls Try.prog 6 #[.int .i64 m] w fun e w' => e = .returned (.bool true) ∧ Below w.heap.size w w' := by
  have A := Aside0.mk alive_call
  obtain ⟨n, hn⟩ : ∃ n : Nat, (n : Int) = 4096 + m := ⟨(4096 + m).toNat, by omega⟩
  have HN := Aside0.mk hn
  have hn1 : 4094 ≤ n := by omega
  have hn2 : n ≤ 4098 := by omega
  clear hn
  go_enter Try.func6, Try.ntmps6
  go_wp2_with (first
    | (go_at_call 21; (with_reducible refine (A.out _).mono ?_); rintro e w1 ⟨rfl, hb⟩; have B1 := Aside0.mk hb; clear hb)
    | (go_at_call 22; (with_reducible refine (lnew_call _).mono ?_); rintro e w2 ⟨g, rfl, hr, hb⟩; have R2 := Aside0.mk hr; have B2 := Aside0.mk hb; clear hr hb))
  go_loopw [4] (fun iv wr => ∃ k : Nat, k ≤ n ∧ iv = .int .i64 k ∧ Aside0 (Below w1.heap.size w1 wr ∧ ∃ v, LAt wr w1.heap.size g v (manyS k))) (fun iv _ => n - (intOf iv).toNat)
  case atStart => exact ⟨0, Nat.zero_le _, rfl, ⟨B2.out, _, R2.out⟩⟩
  case round =>
    obtain ⟨k, hk, rfl, R⟩ := hrel
    have hsp := manyS_spec k
    by_cases hkn : k = n
    · obtain ⟨hb, v, hl⟩ := R.out
      obtain ⟨m1, m2, m3⟩ := many_end k hl.good
      have e0 : addE (atS (manyS k) 6) 6 1 = 0 := by unfold addE; rw [if_neg (by omega), m2, if_neg (by omega), m1]; rfl
      have e1 : addE (addS (atS (manyS k) 6) 6 1 false) 5 1 = 7 := by
        have : (addS (atS (manyS k) 6) 6 1 false).now = 6 := by
          unfold addS
          rw [if_neg (by omega), if_neg (by omega), m1, if_neg (by decide)]
          exact m2
        unfold addE; rw [if_neg (by omega), this, if_pos (by omega)]
      have n1 : (atS (manyS k) 6).nums < 1000000 := by omega
      have n2 : (addS (atS (manyS k) 6) 6 1 false).nums < 1000000 := by have := nums_add (atS (manyS k) 6) 6 1 false; omega
      have m1' : (atS (manyS k) 6).xs.length = 0 := by rw [m1]; rfl
      have E := Aside0.mk (And.intro e0 (And.intro e1 (And.intro n1 (And.intro n2 m1'))))
      have L := Aside0.mk hl
      have HB := Aside0.mk hb
      have hkx : ¬ (k : Int) < 4096 + m := by have := HN.out; omega
      clear hsp e0 e1 n1 n2 m1 m2 m3 m1' hl hb hkn
      generalize (k : Int) = x at *
      go_wp2_with (first
        | (go_at_call 25; (with_reducible refine (lat_call _ _ _ _ _ 6 L.out).mono ?_); rintro e w3 ⟨rfl, hp⟩; have B3 := Aside0.mk (hp.below L.out HB.out); obtain ⟨v3, hr, _⟩ := hp; have R3 := Aside0.mk hr; clear hr)
        | (go_at_call 27; (with_reducible refine (waits_call _ _ _ _ _ R3.out).mono ?_); rintro e w4 ⟨rfl, rfl⟩; rw [E.out.2.2.2.2])
        | (go_at_call 23; (with_reducible refine (ladd_call _ _ _ _ _ 6 1 false R3.out E.out.2.2.1).mono ?_); rintro e w5 ⟨rfl, hp⟩; have B5 := Aside0.mk (hp.below R3.out B3.out); obtain ⟨v5, hr, _⟩ := hp; have R5 := Aside0.mk hr; clear hr; rw [E.out.1])
        | (go_at_call 23; (with_reducible refine (ladd_call _ _ _ _ _ 5 1 false R5.out E.out.2.2.2.1).mono ?_); rintro e w6 ⟨rfl, hp⟩; have B6 := Aside0.mk (hp.below R5.out B5.out); clear hp; rw [E.out.2.1]))
      go_ret
      exact ⟨rfl, below_step B1.out B6.out⟩
    · have hkn' : k < n := by omega
      have hx1 : (k : Int) < 4096 + m := by have := HN.out; omega
      have hx0 : (0 : Int) ≤ k := by omega
      have hx2 : (k : Int) ≤ 5000 := by omega
      obtain ⟨hb, v, hl⟩ := R.out
      have LC := ladd_call wr w1.heap.size g v (manyS k) ((k : Int) % 7) (1 + (k : Int) % 31) ((k : Int) % 2 == 0) hl (by omega)
      rw [manyS_err k, show addS (manyS k) ((k : Int) % 7) (1 + (k : Int) % 31) ((k : Int) % 2 == 0) = manyS (k + 1) from rfl] at LC
      have FIN : Aside0 (∀ w', LPost wr w' w1.heap.size g v (manyS (k + 1)) → Below w1.heap.size w1 w' ∧ ∃ v, LAt w' w1.heap.size g v (manyS (k + 1))) := ⟨fun w' hp => ⟨hp.below hl hb, by obtain ⟨v', h, _⟩ := hp; exact ⟨v', h⟩⟩⟩
      have HK := Aside0.mk hkn'
      by_cases hk4 : k < 4096
      · rw [if_pos hk4] at LC
        have hx4 : (k : Int) < 4096 := by omega
        clear hk4 hsp hkn hkn' hl hb
        generalize hx : (k : Int) = x at *
        have HX := Aside0.mk hx
        clear hx
        have LC := Aside0.mk LC
        go_wp2_with (first
          | (go_at_call 23; (with_reducible refine (LC.out).mono ?_); rintro e w3 ⟨rfl, hp⟩; have F := Aside0.mk (FIN.out _ hp); clear hp))
        go_roundw
        case rel => exact ⟨k + 1, HK.out, by rw [← HX.out]; go_num, F⟩
        case measure => have := HX.out; have := HK.out; simp [intOf]; omega
      · rw [if_neg hk4] at LC
        have hx4 : (4096 : Int) ≤ k := by omega
        clear hk4 hsp hkn hkn' hl hb
        generalize hx : (k : Int) = x at *
        have HX := Aside0.mk hx
        clear hx
        have LC := Aside0.mk LC
        go_wp2_with (first
          | (go_at_call 23; (with_reducible refine (LC.out).mono ?_); rintro e w3 ⟨rfl, hp⟩; have F := Aside0.mk (FIN.out _ hp); clear hp))
        go_roundw
        case rel => exact ⟨k + 1, HK.out, by rw [← HX.out]; go_num, F⟩
        case measure => have := HX.out; have := HK.out; simp [intOf]; omega
theorem LinesMany_walk (m : Int) (w : World) (hm : (Lit.int .i64 m).wf = true) :
    Calls Try.prog 6 #[.int .i64 m] w fun e w' => e = .returned (.bool true) ∧ Below w.heap.size w w' := by
  by_cases h : m < -2 ∨ 2 < m
  · exact many_off w m h
  · exact many_on w m (by omega) (by omega)
end Go.Proofs.Ytbgcbnlpjjhmhaa.LinesWalk
