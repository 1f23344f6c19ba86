/- Lines know nothing of others; asked of a cycle twice they answer the same: the walk of LinesApart. -/
import Derived.Test.YtbgcbnlpjjhmhaaLinesJ
namespace Go.Proofs.Ytbgcbnlpjjhmhaa.LinesWalk
open Go.RowKit Go.Proofs.Ytbgcbnlpjjhmhaa.Aid Go.Proofs.YtbgcbnlpjjhmhaaW.PrintWords Go.Proofs.YtbgcbnlpjjhmhaaW.PrintLast Go.Proofs.YtbgcbnlpjjhmhaaW.PrintMore Go.Proofs.Ytbgcbnlpjjhmhaa.HeapLaw
attribute [local go_sem] max2_int min2_int max_two min_two max_three min_three max_four min_four   -- for this text's walks alone
set_option linter.unusedVariables false
set_option linter.unusedSimpArgs false
/-- Asked twice they answer the same. -/
theorem at_at (s : St) (c : Int) : atS (atS s c) c = atS s c := by
  have hn : nowS (atS s c) c = nowS s c := by
    show (if nowS s c < c then c else nowS s c) = nowS s c
    unfold nowS
    by_cases h : s.now < c
    · rw [if_pos h, if_neg (by omega)]
    · rw [if_neg h, if_neg h]
  have hno : ∀ f (now : Int) (xs : List Ent) (on : Nat → Bool), xs.length ≤ f → nextF now (popF f now xs on).1 (popF f now xs on).1.length = -1 := by
    intro f
    induction f with
    | zero =>
      intro now xs on hf
      obtain rfl := List.eq_nil_of_length_eq_zero (Nat.le_zero.1 hf)
      rfl
    | succ f ih =>
      intro now xs on hf
      rcases nextF_spec now xs xs.length (Nat.le_refl _) with ⟨h1, _⟩ | ⟨i, h1, h2, _⟩
      · rw [popF_none (by omega)]; exact h1
      · rw [popF_some h1]
        exact ih now _ _ (by rw [List.length_eraseIdx_of_lt h2]; omega)
  have h0 := hno s.xs.length (nowS s c) s.xs s.on (Nat.le_refl _)
  have hp : popF (atS s c).xs.length (nowS s c) (atS s c).xs (atS s c).on = ((atS s c).xs, (atS s c).on) := popF_none (by show nextF (nowS s c) (popF s.xs.length (nowS s c) s.xs s.on).1 (popF s.xs.length (nowS s c) s.xs s.on).1.length < 0; rw [h0]; decide)
  have e : atS (atS s c) c = ⟨(popF (atS s c).xs.length (nowS (atS s c) c) (atS s c).xs (atS s c).on).1, nowS (atS s c) c, (popF (atS s c).xs.length (nowS (atS s c) c) (atS s c).xs (atS s c).on).2, s.nums⟩ := rfl
  rw [e, hn, hp]
  rfl
theorem apart_long (A0 A1 : Option Addr) (n m c0 c1 : Nat) (c : Int) (w : World) (h : 60 < n ∨ 60 < m) :
    Calls Try.prog 8 #[.slice A0 n c0, .slice A1 m c1, .int .i64 c] w fun e w' => e = .returned (.bool true) ∧ Below w.heap.size w w' := by
  have A := Aside0.mk alive_call
  by_cases h1 : 60 < n
  · clear h
    go_enter Try.func8, Try.ntmps8
    go_wp2_with (first | (go_at_call 21; (with_reducible refine (A.out _).mono ?_); rintro e w1 ⟨rfl, hb⟩))
    go_ret
    exact ⟨rfl, hb⟩
  · have h2 : 60 < m := by omega
    clear h
    go_enter Try.func8, Try.ntmps8
    go_wp2_with (first | (go_at_call 21; (with_reducible refine (A.out _).mono ?_); rintro e w1 ⟨rfl, hb⟩))
    go_ret
    exact ⟨rfl, hb⟩
theorem tri_new (w w1 w2 w3 : World) (g1 g2 g3 : Nat) (h1 : LAt w1 w.heap.size g1 (.slice none 0 0) St.new) (b1 : Below w.heap.size w w1) (h2 : LAt w2 w1.heap.size g2 (.slice none 0 0) St.new) (b2 : Below w1.heap.size w1 w2) (h3 : LAt w3 w2.heap.size g3 (.slice none 0 0) St.new) (b3 : Below w2.heap.size w2 w3) :
    Tri w w3 g1 g2 g3 St.new St.new St.new := by
  have lo : ∀ {W : World} {b b' g : Nat} {v : Value} {s : St}, LAt W b g v s → b' ≤ b → LAt W b' g v s := fun h hb => by
    obtain ⟨q, k1, k2⟩ := h
    exact ⟨q, ⟨k1.blk, Nat.le_trans hb k1.ge, own_less k1.row hb, k1.len⟩, k2⟩
  have l1 := h1.lt
  have l2 := h2.lt
  have k2 := h2.ge
  have k3 := h3.ge
  refine ⟨below_step (below_step b1 b2) b3, by omega, by have := b2.size; omega, by omega, _, _, _, (h1.then b2).then b3, lo (h2.then b3) b1.size, lo h3 (Nat.le_trans b1.size b2.size), ne_nil _, ne_nil _, ne_nil _⟩
set_option maxRecDepth 100000 in
set_option maxHeartbeats 4000000 in
theorem apart_ok (A0 A1 : Option Addr) (n m c0 c1 : Nat) (c : Int) (w : World) (hn : n ≤ 60) (hm : m ≤ 60) (es fs : List (Int × Int × Bool)) (he : es.length = n) (hf : fs.length = m) (r0 : EvRow w A0 es) (r1 : EvRow w A1 fs) :
    Calls Try.prog 8 #[.slice A0 n c0, .slice A1 m c1, .int .i64 c] w fun e w' => e = .returned (.bool true) ∧ Below w.heap.size w w' := by
  have A := Aside0.mk alive_call
  have R0 := Aside0.mk r0
  have R1 := Aside0.mk r1
  have HE := Aside0.mk he
  have HF := Aside0.mk hf
  have AA := Aside0.mk at_at
  clear r0 r1 he hf
  go_enter Try.func8, Try.ntmps8
  go_wp2_with (first
    | (go_at_call 21; (with_reducible refine (A.out w).mono ?_); rintro e w0 ⟨rfl, hb⟩; have B0 := Aside0.mk hb; clear hb)
    | (go_at_call 22; (with_reducible refine (lnew_call w0).mono ?_); rintro e w1 ⟨g1, rfl, hr, hb⟩; have L1 := Aside0.mk hr; have B1 := Aside0.mk hb; clear hr hb)
    | (go_at_call 22; (with_reducible refine (lnew_call w1).mono ?_); rintro e w2 ⟨g2, rfl, hr, hb⟩; have L2 := Aside0.mk hr; have B2 := Aside0.mk hb; clear hr hb)
    | (go_at_call 22; (with_reducible refine (lnew_call w2).mono ?_); rintro e w3 ⟨g3, rfl, hr, hb⟩; have T3 := Aside0.mk (tri_new _ _ _ _ _ _ _ L1.out B1.out L2.out B2.out hr hb); clear hr hb))
  have E0 := Aside0.mk (R0.out.then B0.out)
  have E1 := Aside0.mk (R1.out.then B0.out)
  clear L1 L2 B1 B2 R0 R1
  go_loopw [28] (fun iv wr => ∃ k : Nat, k ≤ n ∧ iv = .int .i64 k ∧ Aside0 (Tri w0 wr g1 g2 g3 (addK St.new es k) (addK St.new es k) St.new)) (fun iv _ => n - (intOf iv).toNat)
  case atStart => exact ⟨0, Nat.zero_le _, rfl, T3⟩
  case round =>
    obtain ⟨k, hk, rfl, T⟩ := hrel
    by_cases hkn : k = n
    · subst hkn
      clear T3
      go_wp2_with fail
      go_loopw [46] (fun iv wq => ∃ j : Nat, j ≤ m ∧ iv = .int .i64 j ∧ Aside0 (Tri w0 wq g1 g2 g3 (addK St.new es k) (addK St.new es k) (addK St.new fs j))) (fun iv _ => m - (intOf iv).toNat)
      case atStart => exact ⟨0, Nat.zero_le _, rfl, T⟩
      case round =>
        obtain ⟨j, hj, rfl, T'⟩ := hrel
        clear T
        by_cases hjm : j = m
        · subst hjm
          generalize addK St.new es k = s at *
          generalize addK St.new fs j = t at *
          go_wp2_with (first
            | (go_at_call 25; (with_reducible refine (tri_at _ _ _ _ _ _ _ _ c T'.out.turn).mono ?_); rintro e w4 ⟨rfl, hp⟩; have T4 := Aside0.mk hp.turn; clear hp)
            | (go_at_call 25; (with_reducible refine (tri_at _ _ _ _ _ _ _ _ c T4.out).mono ?_); rintro e w5 ⟨rfl, hp⟩; have T5 := Aside0.mk hp; clear hp)
            | (go_at_call 25; (with_reducible refine (tri_at _ _ _ _ _ _ _ _ c T5.out.swap).mono ?_); rintro e w6 ⟨rfl, hp⟩; have T6 := Aside0.mk hp.swap; clear hp)
            | (go_at_call 25; (with_reducible refine (tri_at _ _ _ _ _ _ _ _ c T6.out).mono ?_); rintro e w7 ⟨rfl, hp⟩; have T7 := Aside0.mk hp; clear hp; rw [AA.out])
            | (go_at_call 27; (with_reducible refine (tri_waits _ _ _ _ _ _ _ _ T7.out).mono ?_); rintro e w8 ⟨rfl, rfl⟩; rw [AA.out])
            | (go_at_call 27; (with_reducible refine (tri_waits _ _ _ _ _ _ _ _ T7.out.swap).mono ?_); rintro e w8 ⟨rfl, rfl⟩))
          go_ret
          exact ⟨by simp, below_step B0.out T7.out.1⟩
        · have hj' : j < m := by omega
          obtain ⟨b, off, rfl, hbl, hc⟩ := (E1.out.then T'.out.1) (by have := HF.out; omega)
          obtain ⟨d0, d1, d2⟩ := hc j (by have := HF.out; omega)
          have NX := Aside0.mk (addK_next St.new fs j (by have := HF.out; omega))
          have NN : Aside0 ((addK St.new fs j).nums < 1000000) := ⟨by have := addK_nums St.new fs j (by have := HF.out; omega); have e : St.new.nums = 0 := rfl; omega⟩
          clear hc hbl
          generalize (fs.getD j (0, 0, false)).1 = y0 at *
          generalize (fs.getD j (0, 0, false)).2.1 = y1 at *
          generalize (fs.getD j (0, 0, false)).2.2 = y2 at *
          go_wp2_with (first
            | (go_at_call 23; (with_reducible refine (tri_add _ _ _ _ _ _ _ _ y0 y1 y2 T'.out.turn NN.out).mono ?_); rintro e w4 ⟨rfl, hp⟩; have T4 := Aside0.mk hp.turn; clear hp))
          go_roundw
          case rel => exact ⟨j + 1, hj', by go_num, ⟨by rw [NX.out]; exact T4.out⟩⟩
          case measure => simp [intOf]; omega
    · have hk' : k < n := by omega
      obtain ⟨b, off, rfl, hbl, hc⟩ := E0.out (by have := HE.out; omega)
      obtain ⟨z0, z1, z2⟩ := hc k (by have := HE.out; omega)
      have NX := Aside0.mk (addK_next St.new es k (by have := HE.out; omega))
      have NN : Aside0 ((addK St.new es k).nums < 1000000) := ⟨by have := addK_nums St.new es k (by have := HE.out; omega); have e : St.new.nums = 0 := rfl; omega⟩
      clear hc T3
      generalize (es.getD k (0, 0, false)).1 = y0 at *
      generalize (es.getD k (0, 0, false)).2.1 = y1 at *
      generalize (es.getD k (0, 0, false)).2.2 = y2 at *
      have cK : Aside0 (∀ W, Below w0.heap.size w0 W → W.cell? ⟨b, off + k * 3, none⟩ = some (.int .i64 y0) ∧ W.cell? ⟨b, off + k * 3 + 1, none⟩ = some (.int .i64 y1) ∧ W.cell? ⟨b, off + k * 3 + 2, none⟩ = some (.bool y2)) := ⟨fun W h => ⟨(h.cell (p := ⟨b, off + k * 3, none⟩) hbl).trans z0, (h.cell (p := ⟨b, off + k * 3 + 1, none⟩) hbl).trans z1, (h.cell (p := ⟨b, off + k * 3 + 2, none⟩) hbl).trans z2⟩⟩
      clear z0 z1 z2
      obtain ⟨d0, d1, d2⟩ := cK.out _ T.out.1
      go_wp2_with (first
        | (go_at_call 23; (with_reducible refine (tri_add _ _ _ _ _ _ _ _ y0 y1 y2 T.out NN.out).mono ?_); rintro e w4 ⟨rfl, hp⟩; have T4 := Aside0.mk hp; obtain ⟨x0, x1, x2⟩ := cK.out _ hp.1; clear hp)
        | (go_at_call 23; (with_reducible refine (tri_add _ _ _ _ _ _ _ _ y0 y1 y2 T4.out.swap NN.out).mono ?_); rintro e w5 ⟨rfl, hp⟩; have T5 := Aside0.mk hp.swap; clear hp))
      go_roundw
      case rel => exact ⟨k + 1, hk', by go_num, ⟨by rw [NX.out]; exact T5.out⟩⟩
      case measure => simp [intOf]; omega
theorem LinesApart_walk (a0 : Option Addr) (len0 cap0 : Nat) (a1 : Option Addr) (len1 cap1 : Nat) (c : Int) (w : World) (w0 : IsRow3 (IntV .i64) (IntV .i64) BoolV w a0 len0 cap0) (w1 : IsRow3 (IntV .i64) (IntV .i64) BoolV w a1 len1 cap1) (w2 : (Lit.int .i64 c).wf = true) :
    Calls Try.prog 8 #[.slice a0 len0 cap0, .slice a1 len1 cap1, .int .i64 c] w fun e w' => e = .returned (.bool true) ∧ Below w.heap.size w w' := by
  by_cases h : 60 < len0 ∨ 60 < len1
  · exact apart_long a0 a1 len0 len1 cap0 cap1 c w h
  · obtain ⟨es, he, r0⟩ := evRow w0
    obtain ⟨fs, hf, r1⟩ := evRow w1
    exact apart_ok a0 a1 len0 len1 cap0 cap1 c w (by omega) (by omega) es fs he hf r0 r1
end Go.Proofs.Ytbgcbnlpjjhmhaa.LinesWalk
