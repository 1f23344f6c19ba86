/- Each line is as its last change up to the cycle tells: the walk of LinesHold. -/
import Derived.Test.YtbgcbnlpjjhmhaaLinesJ
import Derived.Test.YtbgcbnlpjjhmhaaLinesR
namespace Go.Proofs.Ytbgcbnlpjjhmhaa.LinesWalk
open Go.RowKit Go.Proofs.Ytbgcbnlpjjhmhaa.Aid Go.Proofs.YtbgcbnlpjjhmhaaW.PrintWords Go.Proofs.YtbgcbnlpjjhmhaaW.PrintLast Go.Proofs.YtbgcbnlpjjhmhaaW.PrintMore Go.Proofs.Ytbgcbnlpjjhmhaa.HeapLaw
attribute [local go_sem] max2_int min2_int max_two min_two max_three min_three max_four min_four   -- for this text's walks alone
set_option linter.unusedVariables false
set_option linter.unusedSimpArgs false
def ev0 : Int × Int × Bool := (0, 0, false)
def stW (es : List (Int × Int × Bool)) (i c : Int) (k : Nat) : Bool × Int := (es.take k).foldl (stepW i c) (false, -1)
theorem stW_next (es : List (Int × Int × Bool)) (i c : Int) (k : Nat) (hk : k < es.length) : stW es i c (k + 1) = stepW i c (stW es i c k) (es.getD k (0, 0, false)) := by
  unfold stW
  rw [List.take_add_one, List.getElem?_eq_getElem hk, List.getD_eq_getElem?_getD, List.getElem?_eq_getElem hk, List.foldl_append]
  rfl
theorem stW_ge (es : List (Int × Int × Bool)) (i c : Int) : ∀ k, k ≤ es.length → -1 ≤ (stW es i c k).2
  | 0, _ => by show (-1 : Int) ≤ -1; omega
  | k + 1, h => by
    rw [stW_next es i c k (by omega)]
    unfold stepW
    split
    · rename_i hc; show -1 ≤ _; have := hc.2.1; simp only; omega
    · exact stW_ge es i c k (by omega)
/-- Which lines are on, at a cycle. -/
def lnW (es : List (Int × Int × Bool)) (c : Int) : Nat → Bool := fun i => decide (1 ≤ i) && (stW es i c es.length).1
/-- The lines after the cycles 0, 3, .., 3k. -/
def holdS (es : List (Int × Int × Bool)) : Nat → St
  | 0 => atS (addAll St.new es) 0
  | k + 1 => atS (holdS es k) (3 * ((k + 1 : Nat) : Int))
theorem hold_from (es : List (Int × Int × Bool)) (hl : es.length ≤ 60) : ∀ k, From (sortE (accF es 0)) (holdS es k) (3 * (k : Int)) ∧ (holdS es k).now = 3 * (k : Int)
  | 0 => by
    obtain ⟨n, hn⟩ := addAll_new es St.new rfl (by show 0 + es.length ≤ _; omega)
    have hpos : ∀ e ∈ sortE (accF es 0), 0 ≤ e.cy := fun e he => (accF_pos es 0 e ((sortE_perm _).mem_iff.1 he)).1
    have ht := takeWhile_none _ hpos (-1) (by decide)
    have f0 : From (sortE (accF es 0)) (addAll St.new es) (-1) := by
      rw [hn]
      refine ⟨?_, ?_, ?_, by show (-1 : Int) ≤ 0; omega⟩
      · rw [ht.2]
        show ([] ++ accF es 0).Perm _
        rw [List.nil_append]; exact (sortE_perm _).symm
      · rw [ht.1]; rfl
      · show Inc ([] ++ accF es 0)
        rw [List.nil_append]; exact (accF_inc es 0).1
    have hw : nowS (addAll St.new es) 0 = 0 := by rw [hn]; rfl
    have r := f0.at (sortE_sorted _) 0
    rw [hw] at r
    exact ⟨r, hw⟩
  | k + 1 => by
    obtain ⟨h1, h2⟩ := hold_from es hl k
    have hw : nowS (holdS es k) (3 * ((k + 1 : Nat) : Int)) = 3 * ((k + 1 : Nat) : Int) := by
      unfold nowS; rw [h2, if_pos (by omega)]
    have r := h1.at (sortE_sorted _) (3 * ((k + 1 : Nat) : Int))
    rw [hw] at r
    exact ⟨r, hw⟩
theorem hold_on (es : List (Int × Int × Bool)) (hl : es.length ≤ 60) (k : Nat) : onN (holdS es k).on 32 = onN (lnW es (3 * (k : Int))) 32 := by
  refine onN_congr _ _ 32 fun i hi => ?_
  rw [(hold_from es hl k).1.on, hold es _ i hi]
  unfold lnW stW
  rw [List.take_length]
def preS (es : List (Int × Int × Bool)) : Nat → St
  | 0 => addAll St.new es
  | j + 1 => holdS es j
theorem preS_at (es : List (Int × Int × Bool)) : ∀ j : Nat, atS (preS es j) (3 * (j : Int)) = holdS es j
  | 0 => rfl
  | j + 1 => rfl
def PAt (w0 W : World) (g : Nat) (s : St) : Prop := Below w0.heap.size w0 W ∧ ∃ v, LAt W w0.heap.size g v s
theorem PAt.then {w0 W W' : World} {g : Nat} {s : St} (h : PAt w0 W g s) (b : Below W.heap.size W W') : PAt w0 W' g s := ⟨below_step h.1 b, by obtain ⟨v, hl⟩ := h.2; exact ⟨v, hl.then b⟩⟩
theorem pat_at (w0 W : World) (g : Nat) (s : St) (c : Int) (h : PAt w0 W g s) :
    Calls Try.prog 25 #[.pointer (some ⟨g, 0, none⟩), .int .i64 c] W fun e w' => e = .returned (.int .u32 (onN (atS s c).on 32 : Nat)) ∧ PAt w0 w' g (atS s c) := by
  obtain ⟨hb, v, hl⟩ := h
  exact (lat_call W _ g v s c hl).mono fun e w' ⟨he, hp⟩ => ⟨he, hp.below hl hb, by obtain ⟨v', h', _⟩ := hp; exact ⟨v', h'⟩⟩
theorem or_up (on : Nat → Bool) (L : Nat) (hL : L < 32) : Go.bits .or .u32 ((onN on L : Nat) : Int) ((2 : Int) ^ L % 4294967296) = ((onN on L + 2 ^ L : Nat) : Int) := by
  have h1 := onN_lt on L
  have h2 : 2 ^ L < 4294967296 := Nat.lt_of_lt_of_le (Nat.pow_lt_pow_right (by decide) hL) (by decide)
  have e : ((2 : Int) ^ L % 4294967296) = ((2 ^ L : Nat) : Int) := by
    rw [show ((2 : Int) ^ L) = ((2 ^ L : Nat) : Int) from by simp]
    generalize 2 ^ L = p at *
    omega
  rw [e, u32_or_nat _ _ (by omega) h2]
  congr 1
  rw [Nat.or_comm, Nat.add_comm]
  have := Nat.two_pow_add_eq_or_of_lt h1 1
  rw [Nat.mul_one] at this
  exact this.symm
theorem or_up' (on : Nat → Bool) (L want : Nat) (h : onN on L = want) (hL : L < 32) : Go.bits .or .u32 (want : Int) ((2 : Int) ^ L % 4294967296) = ((want + 2 ^ L : Nat) : Int) := by
  subst h; exact or_up on L hL
theorem hold_long (A0 : Option Addr) (n c0 : Nat) (w : World) (h : 60 < n) :
    Calls Try.prog 7 #[.slice A0 n c0] w fun e w' => e = .returned (.bool true) ∧ Below w.heap.size w w' := by
  have A := Aside0.mk alive_call
  go_enter Try.func7, Try.ntmps7
  go_wp2_with (first | (go_at_call 21; (with_reducible refine (A.out _).mono ?_); rintro e w1 ⟨rfl, hb⟩))
  go_ret
  exact ⟨rfl, hb⟩
set_option maxRecDepth 100000 in
set_option maxHeartbeats 8000000 in
theorem hold_ok (A0 : Option Addr) (n c0 : Nat) (w : World) (hn : n ≤ 60) (es : List (Int × Int × Bool)) (he : es.length = n) (r0 : EvRow w A0 es) :
    Calls Try.prog 7 #[.slice A0 n c0] w fun e w' => e = .returned (.bool true) ∧ Below w.heap.size w w' := by
  have A := Aside0.mk alive_call
  have R0 := Aside0.mk r0
  have HE := Aside0.mk he
  have HO := Aside0.mk (fun k => hold_on es (by omega) k)
  clear r0 he
  go_enter Try.func7, Try.ntmps7
  go_wp2_with (first
    | (go_at_call 21; (with_reducible refine (A.out w).mono ?_); rintro e w0 ⟨rfl, hb⟩; have B0 := Aside0.mk hb; clear hb)
    | (go_at_call 22; (with_reducible refine (lnew_call w0).mono ?_); rintro e w1 ⟨g, rfl, hr, hb⟩; have L1 := Aside0.mk hr; have B1 := Aside0.mk hb; clear hr hb))
  have E0 := Aside0.mk (R0.out.then B0.out)
  clear R0
  go_loopw [21] (fun iv wr => ∃ k : Nat, k ≤ n ∧ iv = .int .i64 k ∧ Aside0 (Below w0.heap.size w0 wr ∧ ∃ v, LAt wr w0.heap.size g v (addK St.new es k))) (fun iv _ => n - (intOf iv).toNat)
  case atStart => exact ⟨0, Nat.zero_le _, rfl, ⟨B1.out, _, L1.out⟩⟩
  case round =>
    obtain ⟨k, hk, rfl, T⟩ := hrel
    clear L1 B1
    by_cases hkn : k = n
    · subst hkn
      have S0 : Aside0 (addK St.new es k = addAll St.new es) := ⟨by unfold addK; rw [← HE.out, List.take_length]⟩
      go_wp2_with fail
      go_loopw [6] (fun cv wq => ∃ j : Nat, j ≤ 34 ∧ cv = .int .i64 (3 * (j : Int)) ∧ Aside0 (PAt w0 wq g (preS es j))) (fun cv _ => 200 - (intOf cv).toNat)
      case atStart => exact ⟨0, by omega, rfl, ⟨T.out.1, by obtain ⟨v, hv⟩ := T.out.2; rw [S0.out] at hv; exact ⟨v, hv⟩⟩⟩
      case round =>
        obtain ⟨j, hj, rfl, P⟩ := hrel
        clear T S0
        obtain ⟨wc, rfl⟩ : ∃ wc : World, wc = wr := ⟨_, rfl⟩
        by_cases hj34 : j = 34
        · subst hj34
          go_wp2
          go_ret
          exact ⟨rfl, below_step B0.out P.out.1⟩
        · have hc1 : 3 * (j : Int) ≤ 99 := by omega
          have hc0 : 0 ≤ 3 * (j : Int) := by omega
          have AC := pat_at w0
          have PA := preS_at es j
          have HOj := HO.out j
          have hnx : 3 * ((j + 1 : Nat) : Int) = 3 * (j : Int) + 3 := by omega
          have hj1 : j < 34 := by omega
          have J := Aside0.mk (And.intro hnx hj1)
          clear hj hj34 hnx hj1
          generalize 3 * (j : Int) = c at *
          have PA := Aside0.mk PA
          have HOj := Aside0.mk HOj
          have AC := Aside0.mk AC
          go_wp2_with fail
          go_loopw [7, 8] (fun wv lv wq => ∃ L : Nat, 1 ≤ L ∧ L ≤ 32 ∧ lv = .int .i64 L ∧ wv = .int .u32 (onN (lnW es c) L : Nat) ∧ Aside0 (PAt w0 wq g (preS es j))) (fun _ lv _ => 40 - (intOf lv).toNat)
          case atStart => exact ⟨1, by omega, by omega, rfl, rfl, P⟩
          case round =>
            obtain ⟨L, hL1, hL2, rfl, rfl, P2⟩ := hrel
            clear P
            by_cases hL32 : L = 32
            · subst hL32
              have HQ : Aside0 ((onN (atS (preS es j) c).on 32 : Nat) = onN (lnW es c) 32) := ⟨by rw [PA.out, HOj.out]⟩
              generalize hq : onN (lnW es c) 32 = q at *
              go_wp2_with (first
                | (go_at_call 25; (with_reducible refine (AC.out _ g _ c P2.out).mono ?_); rintro e w4 ⟨rfl, hp⟩; rw [HQ.out]; rw [PA.out] at hp; have P4 := Aside0.mk hp; clear hp))
              go_roundw
              case rel => exact ⟨j + 1, by have := J.out.2; omega, by rw [J.out.1], P4⟩
              case measure => simp [intOf]; omega
            · have hL3 : L < 32 := by omega
              have hy1 : (1 : Int) ≤ L := by omega
              have hy2 : (L : Int) ≤ 31 := by omega
              clear hL32
              obtain ⟨wd, rfl⟩ : ∃ wd : World, wd = wr := ⟨_, rfl⟩
              generalize hwant : onN (lnW es c) L = want at *
              have HW := Aside0.mk hwant
              clear hwant
              have HLL := Aside0.mk (And.intro hL1 (And.intro hL2 hL3))
              clear hL1 hL2 hL3
              generalize hyy : (L : Int) = y at *
              have HY := Aside0.mk hyy
              clear hyy
              go_wp2_with fail
              go_loopw [9, 10, 39] (fun ov hv iv wq => ∃ i : Nat, i ≤ k ∧ iv = .int .i64 i ∧ ov = .bool (stW es y c i).1 ∧ hv = .int .i64 (stW es y c i).2 ∧ Aside0 (PAt w0 wq g (preS es j))) (fun _ _ iv _ => k - (intOf iv).toNat)
              case atStart => exact ⟨0, Nat.zero_le _, rfl, rfl, rfl, P2⟩
              case round =>
                obtain ⟨i, hi, rfl, rfl, rfl, P3⟩ := hrel
                clear P2
                by_cases hik : i = k
                · subst hik
                  have hln : onN (lnW es c) (L + 1) = want + (if (stW es y c i).1 = true then 2 ^ L else 0) := by
                    show onN (lnW es c) L + _ = _
                    rw [HW.out]
                    have : lnW es c L = (stW es y c i).1 := by
                      unfold lnW
                      rw [decide_eq_true HLL.out.1, Bool.true_and, HE.out, HY.out]
                    rw [this]
                  generalize (stW es y c i).2 = s2 at *
                  generalize (stW es y c i).1 = s1 at *
                  cases s1 with
                  | true =>
                    rw [if_pos rfl] at hln
                    have HLN := Aside0.mk hln
                    clear hln
                    go_wp2
                    go_roundw
                    case rel => exact ⟨L + 1, by omega, by have := HLL.out.2.2; omega, by rw [← HY.out]; go_num, by rw [HLN.out, ← or_up' _ L want HW.out HLL.out.2.2, ← HY.out]; rfl, P3⟩
                    case measure => have := HY.out; have := HLL.out; simp [intOf]; omega
                  | false =>
                    rw [if_neg (by decide), Nat.add_zero] at hln
                    have HLN := Aside0.mk hln
                    clear hln
                    go_wp2
                    go_roundw
                    case rel => exact ⟨L + 1, by omega, by have := HLL.out.2.2; omega, by rw [← HY.out]; go_num, by rw [HLN.out]; rfl, P3⟩
                    case measure => have := HY.out; have := HLL.out; simp [intOf]; omega
                · have hi' : i < k := by omega
                  obtain ⟨b, off, rfl, hbl, hc⟩ := E0.out (by have := HE.out; omega)
                  obtain ⟨z0, z1, z2⟩ := hc i (by have := HE.out; omega)
                  have NX := stW_next es y c i (by have := HE.out; omega)
                  have d0 := (P3.out.1.cell (p := ⟨b, off + i * 3, none⟩) hbl).trans z0
                  have d1 := (P3.out.1.cell (p := ⟨b, off + i * 3 + 1, none⟩) hbl).trans z1
                  have d2 := (P3.out.1.cell (p := ⟨b, off + i * 3 + 2, none⟩) hbl).trans z2
                  have P4 : Aside0 (∀ o, PAt w0 (wr.alloc o) g (preS es j)) := ⟨fun o => P3.out.then (below_alloc (Below.refl _ _) o)⟩
                  unfold stepW at NX
                  clear hc z0 z1 z2 P3
                  generalize (es.getD i (0, 0, false)).1 = y0 at *
                  generalize (es.getD i (0, 0, false)).2.1 = y1 at *
                  generalize (es.getD i (0, 0, false)).2.2 = y2 at *
                  generalize hs1 : (stW es y c i).1 = s1 at *
                  generalize hs2 : (stW es y c i).2 = s2 at *
                  have HS := Aside0.mk (And.intro hs1 hs2)
                  clear hs1 hs2
                  by_cases hh : y1 = y ∧ 0 ≤ y0 ∧ y0 ≤ c ∧ s2 ≤ y0
                  · rw [if_pos hh] at NX
                    have NX := Aside0.mk NX
                    obtain ⟨g0, g2, g3, g4⟩ := hh
                    have e1 : (y1 == y) = true := beq_iff_eq.2 g0
                    clear g0
                    go_wp2
                    go_quiet (fail)
                    go_wp2
                    go_roundw
                    case rel => exact ⟨i + 1, hi', by go_num, by rw [NX.out], by rw [NX.out], ⟨(P4.out _).then (pw_below_drewN (Below.refl _ _) _)⟩⟩
                    case measure => simp [intOf]; omega
                  · rw [if_neg hh] at NX
                    have NX := Aside0.mk NX
                    have hr : ((y1 == y) = false) ∨ (((y1 == y) = true) ∧ y0 < 0) ∨ (((y1 == y) = true) ∧ 0 ≤ y0 ∧ c < y0) ∨ (((y1 == y) = true) ∧ 0 ≤ y0 ∧ y0 ≤ c ∧ y0 < s2) := by
                      rw [beq_eq_false_iff_ne, beq_iff_eq]; omega
                    clear hh
                    rcases hr with g0 | ⟨g0, g1⟩ | ⟨g0, g1, g2⟩ | ⟨g0, g1, g2, g3⟩
                    all_goals
                      go_wp2
                      go_roundw
                      case rel => first | exact ⟨i + 1, hi', by go_num, by rw [NX.out, HS.out.1], by rw [NX.out, HS.out.2], ⟨P4.out _⟩⟩ | exact ⟨_, _, _, _, ⟨i + 1, hi', rfl, rfl, rfl, ⟨P4.out _⟩⟩, by rw [NX.out, HS.out.1], by rw [NX.out, HS.out.2], rfl, by go_num⟩
                      case measure => simp [intOf]; omega
    · have hk' : k < n := by omega
      obtain ⟨b, off, rfl, hbl, hc⟩ := E0.out (by have := HE.out; omega)
      obtain ⟨z0, z1, z2⟩ := hc k (by have := HE.out; omega)
      have NX := Aside0.mk (addK_next St.new es k (by have := HE.out; omega))
      have NN : Aside0 ((addK St.new es k).nums < 1000000) := ⟨by have := addK_nums St.new es k (by have := HE.out; omega); have e : St.new.nums = 0 := rfl; omega⟩
      have d0 := (T.out.1.cell (p := ⟨b, off + k * 3, none⟩) hbl).trans z0
      have d1 := (T.out.1.cell (p := ⟨b, off + k * 3 + 1, none⟩) hbl).trans z1
      have d2 := (T.out.1.cell (p := ⟨b, off + k * 3 + 2, none⟩) hbl).trans z2
      clear hc z0 z1 z2
      obtain ⟨hb, v, hl⟩ := T.out
      have LC := fun o => ladd_call (wr.alloc o) w0.heap.size g v (addK St.new es k) (es.getD k (0, 0, false)).1 (es.getD k (0, 0, false)).2.1 (es.getD k (0, 0, false)).2.2 (hl.then (below_alloc (Below.refl _ _) o)) NN.out
      have FIN : Aside0 (∀ o w', LPost (wr.alloc o) w' w0.heap.size g v (addK St.new es (k + 1)) → Below w0.heap.size w0 w' ∧ ∃ v, LAt w' w0.heap.size g v (addK St.new es (k + 1))) := ⟨fun o w' hp => ⟨hp.below (hl.then (below_alloc (Below.refl _ _) o)) (below_alloc hb o), by obtain ⟨v', h, _⟩ := hp; exact ⟨v', h⟩⟩⟩
      rw [← NX.out] at LC
      clear hb hl
      generalize (es.getD k (0, 0, false)).1 = y0 at *
      generalize (es.getD k (0, 0, false)).2.1 = y1 at *
      generalize (es.getD k (0, 0, false)).2.2 = y2 at *
      have LC := Aside0.mk LC
      go_wp2_with (first
        | (go_at_call 23; (with_reducible refine (LC.out _).mono ?_); rintro e w4 ⟨rfl, hp⟩; have F := Aside0.mk (FIN.out _ _ hp); clear hp))
      go_roundw
      case rel => exact ⟨k + 1, hk', by go_num, F⟩
      case measure => simp [intOf]; omega
theorem LinesHold_walk (a0 : Option Addr) (len0 cap0 : Nat) (w : World) (w0 : IsRow3 (IntV .i64) (IntV .i64) BoolV w a0 len0 cap0) :
    Calls Try.prog 7 #[.slice a0 len0 cap0] w fun e w' => e = .returned (.bool true) ∧ Below w.heap.size w w' := by
  by_cases h : 60 < len0
  · exact hold_long a0 len0 cap0 w h
  · obtain ⟨es, he, r0⟩ := evRow w0
    exact hold_ok a0 len0 cap0 w (by omega) es he r0
end Go.Proofs.Ytbgcbnlpjjhmhaa.LinesWalk
