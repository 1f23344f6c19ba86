/- SpecBack: put walked; Extend and Decode as contracts in plain words. -/
import Derived.Test.YtbgcbnlpjjhmhaaSpecS
namespace Go.Proofs.Ytbgcbnlpjjhmhaa.SpecWalk
open Go.RowKit Go.Proofs.Ytbgcbnlpjjhmhaa.Aid Go.Proofs.Ytbgcbnlpjjhmhaa.Pure Go.Proofs.Ytbgcbnlpjjhmhaa.GSpecSizes Go.Proofs.YtbgcbnlpjjhmhaaW.PrintWords Go.Proofs.YtbgcbnlpjjhmhaaW.PrintLast Go.Proofs.YtbgcbnlpjjhmhaaW.PrintMore
attribute [local go_sem] max2_int min2_int max_two min_two max_three min_three max_four min_four   -- for this text's walks alone
set_option linter.unusedVariables false
set_option linter.unusedSimpArgs false
theorem own_val {W : World} {base e s n : Nat} {v : Value} {xs : List Value} (h : W.ownsRow base e s v n xs) : ∃ A c, v = .slice A n c := by
  rcases h.2 with ⟨rfl, rfl⟩ | ⟨b, c, cur, rfl, _⟩
  · exact ⟨none, 0, rfl⟩
  · exact ⟨_, c, rfl⟩
theorem own_keep {W W' : World} {base e s n : Nat} {v : Value} {xs : List Value} (h : W.ownsRow base e s v n xs) (k : ∀ i, v.ownBlock = some i → W'.heap[i]? = W.heap[i]?) : W'.ownsRow base e s v n xs := by
  refine ⟨h.1, ?_⟩
  rcases h.2 with ⟨rfl, hn⟩ | ⟨b, c, cur, rfl, h0, h1, h2⟩
  · exact .inl ⟨rfl, hn⟩
  · exact .inr ⟨b, c, cur, rfl, h0, (k b rfl).trans h1, h2⟩
theorem own_lt' {W : World} {base e s n : Nat} {v : Value} {xs : List Value} (h : W.ownsRow base e s v n xs) (i : Nat) (hi : v.ownBlock = some i) : i < W.heap.size := by
  rcases h.2 with ⟨rfl, hn⟩ | ⟨b, c, cur, rfl, h0, h1, h2⟩
  · simp [Value.ownBlock] at hi
  · simp [Value.ownBlock] at hi
    subst hi
    exact (Array.getElem?_eq_some_iff.1 h1).1
theorem own_then {W W' : World} {base e s n : Nat} {v : Value} {xs : List Value} (h : W.ownsRow base e s v n xs) (k : Below W.heap.size W W') : W'.ownsRow base e s v n xs :=
  own_keep h (fun i hi => k.block i (own_lt' h i hi))
theorem own_lower {W : World} {base base' e s n : Nat} {v : Value} {xs : List Value} (h : W.ownsRow base e s v n xs) (hb : base' ≤ base) : W.ownsRow base' e s v n xs := by
  refine ⟨h.1, ?_⟩
  rcases h.2 with ⟨rfl, hn⟩ | ⟨b, c, cur, rfl, h0, h1⟩
  · exact .inl ⟨rfl, hn⟩
  · exact .inr ⟨b, c, cur, rfl, Nat.le_trans hb h0, h1⟩
def byL (x : Int) (n : Nat) : List Int := (List.range n).map fun i => x / 2 ^ (8 * i) % 256
theorem byL_length (x : Int) (n : Nat) : (byL x n).length = n := by unfold byL; rw [List.length_map, List.length_range]
theorem byL_next (x : Int) (j : Nat) : byL x (j + 1) = byL x j ++ [x / 2 ^ (8 * j) % 256] := by
  unfold byL; rw [List.range_succ, List.map_append]; rfl
theorem putS_byL : ∀ (n : Nat) (x : Int), putS x n = byL x n
  | 0, x => rfl
  | n + 1, x => by
    unfold byL
    rw [List.range_succ_eq_map, List.map_cons, List.map_map]
    show x % 256 :: putS (x / 256) n = _
    rw [putS_byL n (x / 256)]
    unfold byL
    congr 1
    · show x % 256 = x / 1 % 256
      rw [Int.ediv_one]
    · apply List.map_congr_left
      intro i _
      show x / 256 / 2 ^ (8 * i) % 256 = x / 2 ^ (8 * (i + 1)) % 256
      rw [Int.ediv_ediv_of_nonneg (by decide), show 8 * (i + 1) = 8 + 8 * i from by omega, Int.pow_add]
      rfl
theorem putS_bys (x : Int) (n : Nat) : Bys (putS x n) := fun y hy => putS_byte x n y hy
set_option maxRecDepth 100000 in
set_option maxHeartbeats 4000000 in
theorem put_call (w : World) (x k : Nat) (hx : x < 4294967296) (hk : k ≤ 4) :
    Calls Try.prog 47 #[.int .u32 (x : Int), .int .i64 (k : Int)] w fun e w' => ∃ A c, e = .returned (.slice A k c) ∧ Below w.heap.size w w' ∧ w'.ownsRow w.heap.size 5 1 (.slice A k c) k (nums .u8 (putS x k)) := by
  rw [putS_byL]
  go_enter Try.func47, Try.ntmps47
  go_wp2_with fail
  go_loopw [5, 8] (fun b i wr => ∃ j : Nat, j ≤ k ∧ i = .int .i64 j ∧ Aside0 (Below w.heap.size w wr) ∧ Aside0 (wr.ownsRow w.heap.size 5 1 b (byL x j).length (nums .u8 (byL x j)))) (fun _ i _ => k - (intOf i).toNat)
  case atStart => exact ⟨0, Nat.zero_le _, rfl, ⟨Below.refl _ _⟩, ⟨World.ownsRow_nil _ _ _ _⟩⟩
  case round =>
    obtain ⟨j, hj, rfl, B, O⟩ := hrel
    obtain ⟨A1, c1, rfl⟩ := own_val O.out
    by_cases hjk : j = k
    · subst hjk
      have O2 := O.out
      rw [byL_length] at O2
      have HL := Aside0.mk (byL_length (x : Int) j)
      have O2 := Aside0.mk O2
      go_wp2
      go_ret
      exact ⟨A1, c1, by rw [HL.out]; rfl, B.out, O2.out⟩
    · have hj' : j < k := by omega
      have HJ := Aside0.mk hj'
      have HX := Aside0.mk (byL_next (x : Int) j)
      have hlen : (byL (x : Int) j).length = j := byL_length _ _
      go_wp2_with (first
        | (at_builtin; refine print_append_num (w0 := w) w.heap.size rfl (.tmp 11) (.tmp 17) 62 5 .u8 1 rfl Try.underlying62 info5 (by decide) (.slice A1 (byL x j).length c1) (byL x j) (x / 2 ^ (8 * j) % 256) rfl (by simp [Act.eval]) O.out B.out B.out.size (by rw [hlen]; omega) ?_; intro o1 w1 ho1 hb1 hg1 hat1; have O1 := Aside0.mk ho1; have B1 := Aside0.mk hb1; clear ho1 hb1 hg1 hat1))
      go_roundw
      case rel => exact ⟨j + 1, HJ.out, by go_num, B1, ⟨by rw [HX.out]; exact O1.out⟩⟩
      case measure => have := HJ.out; simp [intOf]; omega
theorem ext_call (w : World) (x n : Nat) (hx : x < 4294967296) (hn : Sz n) :
    Calls Try.prog 46 #[.int .u32 (x : Int), .int .i64 (n : Int)] w fun e w' => e = .returned (.int .u32 ((extD x n : Nat) : Int)) ∧ ∃ nd, w' = w.drewN nd :=
  (bits_Extend.calls (x : Int) (n : Int) _ w ((extend_is _ _).trans (congrArg some (ext_eq x n hx hn)))).mono fun e w' h => ⟨h.1, h.2.out⟩
def v5 (p : T6D) : Value := .agg #[.int .i64 p.1, .int .i64 p.2.1, .int .i64 p.2.2.1, .int .u32 p.2.2.2.1, .int .i64 p.2.2.2.2.1]
theorem dec_call (w : World) (A : Option Addr) (c m : Nat) (l : List Int) (acc : Int) (n : Nat) (hm : l.length = m) (hl : Bys l) (hn : Sz n) (hr : ReadsInt w .u8 A m l) (hc : m ≤ c) :
    Calls Try.prog 32 #[.slice A m c, .agg #[.int .u8 acc, .int .i64 (n : Int)]] w fun e w' => e = .returned (.tuple #[v5 (decD l acc n), .int .i64 (decD l acc n).2.2.2.2.2]) ∧ Below w.heap.size w w' := by
  subst hm
  exact spec_Decode.calls 10 A c l acc (n : Int) _ _ _ _ _ _ w (Kd.C_of_reads (d := (0 : Int)) (h1 := fun _ => rfl) hr) hc ((decode_is 10 (Nat.le_refl _) l hl acc n hn).trans (congrArg some (dec_eq l hl acc n hn)))
end Go.Proofs.Ytbgcbnlpjjhmhaa.SpecWalk
