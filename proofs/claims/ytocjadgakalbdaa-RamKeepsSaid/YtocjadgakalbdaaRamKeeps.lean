/- What is handed in stays, and isn't kept; what is answered is new memory: the walk of RamKeeps. -/
import Derived.Test.YtocjadgakalbdaaRamF
import Derived.Test.YtocjadgakalbdaaWSized
namespace Go.Proofs.YtocjadgakalbdaaW.PrintWords
open Go.RowKit in
def IsRow (k : IntKind) (w : World) (a : Option Addr) (len cap : Nat) (zs : List Int) : Prop :=
  (a = none ∧ len = 0 ∧ cap = 0 ∧ zs = []) ∨
  ∃ x, a = some x ∧ len ≤ cap ∧ cap ≤ maxLen ∧ zs.length = cap ∧ (∀ i, i < zs.length → w.cell? (x.add i) = some (.int k (zs.getD i 0))) ∧ ∀ n ∈ zs, (Lit.int k n).wf = true
end Go.Proofs.YtocjadgakalbdaaW.PrintWords
namespace Go.Proofs.Ytocjadgakalbdaa.RamWalk
open Go.RowKit Go.Proofs.Ytocjadgakalbdaa.Aid Go.Proofs.YtocjadgakalbdaaW.PrintWords Go.Proofs.YtocjadgakalbdaaW.PrintLast Go.Proofs.YtocjadgakalbdaaW.PrintMore
attribute [local go_sem] max2_int min2_int max_two min_two max_three min_three max_four min_four   -- for this text's walks alone
set_option linter.unusedVariables false
set_option linter.unusedSimpArgs false

theorem keeps_long (A : Option Addr) (n cap : Nat) (w : World) (h : 4096 < n) :
    Calls Try.prog 6 #[.slice A n cap] w fun e w' => e = .returned (.bool true) ∧ Below w.heap.size w w' := by
  go_enter Try.func6, Try.ntmps6
  go_wp2_with (first
    | (go_at_call 16; (with_reducible refine (alive_call _).mono ?_); rintro e w0 ⟨rfl, hb0⟩; have B0 := Aside0.mk hb0; clear hb0))
  go_ret
  exact ⟨rfl, B0.out⟩

theorem bytes_all (w : World) (base g b m c : Nat) (l : List Int) (h : RamAt w base g (.slice (some ⟨b, 0, none⟩) m c) l) :
    Calls Try.prog 23 #[.pointer (some ⟨g, 0, none⟩), .int .u32 0, .int .i64 m] w fun e w' => ∃ b' c', e = .returned (.tuple #[.slice (some ⟨b', 0, none⟩) m c', .int .i64 0]) ∧ w'.ownsRow w.heap.size 5 1 (.slice (some ⟨b', 0, none⟩) m c') m (nums .u8 l) ∧ Below w.heap.size w w' := by
  obtain ⟨rfl, -, -⟩ := h.field
  exact bytes_n w base g b l.length c l l 0 l.length (by decide) h (by omega) (by rw [List.drop_zero, List.take_length])
/-- A memory of the bytes ys, and beside it a row of the call's own. -/
def KInv (w0 W : World) (base g b bm cm n : Nat) (ys : List Int) : Prop :=
  Below w0.heap.size w0 W ∧ RamAt W base g (.slice (some ⟨b, 0, none⟩) n n) ys ∧ ∃ basem zs, W.ownsRow basem 5 1 (.slice (some ⟨bm, 0, none⟩) n cm) n (nums .u8 zs)
theorem KInv.step {w0 W : World} {base g b bm cm n : Nat} {ys : List Int} (h : KInv w0 W base g b bm cm n ys) (h0 : w0.heap.size ≤ bm) (h1 : g ≠ bm) (h2 : b ≠ bm) (k : Nat) (y : Int) :
    KInv w0 (W.setCell ⟨bm, k, none⟩ (.int .u8 y)) base g b bm cm n ys := by
  obtain ⟨i1, i2, basem, zs, i3⟩ := h
  have hz : zs.length = n := by have := i3.1; unfold nums at this; rw [List.length_map] at this; omega
  subst hz
  have ho := own_put i3 (k : Int) y
  rw [Int.toNat_natCast, List.length_set] at ho
  exact ⟨i1.setCell h0 _, i2.kept (grown_put (grown_refl W (some bm)) k _) (by simpa using h1) (by simpa [Value.ownBlock] using h2), basem, _, ho⟩
theorem KInv.cell {w0 W : World} {base g b bm cm n : Nat} {ys : List Int} (h : KInv w0 W base g b bm cm n ys) (k : Nat) (hk : k < n) : ∃ z, W.cell? ⟨bm, k, none⟩ = some (.int .u8 z) := by
  obtain ⟨i1, i2, basem, zs, i3⟩ := h
  exact ⟨_, own_cell i3 hk⟩
theorem KInv.free {w0 W : World} {base g b bm cm n : Nat} {ys : List Int} (h : KInv w0 W base g b bm cm n ys) (k : Nat) : W.frozen? ⟨bm, k, none⟩ = false := by
  obtain ⟨i1, i2, basem, zs, i3⟩ := h
  rcases i3.2 with ⟨hv, _⟩ | ⟨g', cap, cur, hv, _, hh, _⟩
  · simp at hv
  · simp only [Value.slice.injEq, Option.some.injEq, Addr.mk.injEq, and_true, true_and] at hv
    obtain ⟨rfl, -⟩ := hv
    exact frozen_of_row W _ k _ _ hh
theorem own_lt' {W : World} {base b n c : Nat} {l : List Value} (h : W.ownsRow base 5 1 (.slice (some ⟨b, 0, none⟩) n c) n l) : base ≤ b ∧ b < W.heap.size := by
  rcases h.2 with ⟨hv, _⟩ | ⟨g', cap, cur, hv, h0, hh, _⟩
  · simp at hv
  · simp only [Value.slice.injEq, Option.some.injEq, Addr.mk.injEq, and_true, true_and] at hv
    obtain ⟨rfl, -⟩ := hv
    exact ⟨h0, (Array.getElem?_eq_some_iff.1 hh).1⟩

set_option maxRecDepth 100000 in
set_option maxHeartbeats 4000000 in
theorem keeps_ok (A : Option Addr) (cap : Nat) (ys : List Int) (w : World) (hn : ys.length ≤ 4096) (hy : ReadsInt w .u8 A ys.length ys) :
    Calls Try.prog 6 #[.slice A ys.length cap] w fun e w' => e = .returned (.bool true) ∧ Below w.heap.size w w' := by
  have HY := Aside0.mk hy
  have HN := Aside0.mk hn
  have NEW := Aside0.mk (fun w => new_nat ys.length w (by omega))
  obtain ⟨S, hS⟩ : ∃ S, S = strOfNums ys := ⟨_, rfl⟩
  have ST := Aside0.mk (fun (w : World) (A : Option Addr) (c : Nat) (h : ReadsInt w .u8 A ys.length ys) => (by rw [hS]; exact string_of_reads (P := Try.prog) Try.underlying41 Try.underlying5 Try.underlying9 h : (convert 41 9 (.slice A ys.length c)).run Try.prog w = .ok (.string S) w))
  clear hy hS
  go_enter Try.func6, Try.ntmps6
  go_wp2_with (first
    | (go_at_call 16; (with_reducible refine (alive_call _).mono ?_); rintro e w0 ⟨rfl, hb0⟩; have B0 := Aside0.mk hb0; clear hb0)
    | (go_at_call 17; (with_reducible refine (NEW.out _).mono ?_); rintro e w1 ⟨g, b, rfl, hr, hbel⟩; have R1 := Aside0.mk hr; have B1 := Aside0.mk (below_step B0.out hbel); have hbase := Aside0.mk (Nat.le_trans B0.out.size hr.baseb); clear hr hbel)
    | (at_builtin; refine print_append_row (w0 := w1) w1.heap.size rfl (.tmp 19) (.tmp 20) 41 5 .u8 1 rfl Try.underlying41 info5 (by decide) _ [] ys A ys.length cap rfl rfl (World.ownsRow_lit (base := w1.heap.size) (e := 5) (size := 1) w1 #[] 0 (Nat.le_refl _) (Nat.zero_le _) rfl) ((HY.out.below B1.out).allocS _) (below_alloc (Below.refl _ _) _) (by simp) (by have := HN.out; simp; omega) ?_; intro v1 w2 ho hb hg hat; rw [List.nil_append] at ho; obtain ⟨bm, hbm⟩ : ∃ b, v1.ownBlock = some b := (by rcases hat with hat | ⟨b, hat, _⟩; exact ⟨w1.heap.size, hat⟩; exact ⟨b, hat⟩); obtain ⟨cm, rfl⟩ := own_shape ho hbm; have R2 := Aside0.mk (R1.out.then hb); have B2 := Aside0.mk (below_step B1.out hb); have M2 := Aside0.mk ho; clear ho hb hg hat hbm)
    | (go_at_call 22; (with_reducible refine (load_n _ _ _ _ _ _ _ ys _ _ R2.out (own_reads' M2.out)).mono ?_); rintro e w3 ⟨rfl, hr3, hg3⟩; have R3 := Aside0.mk hr3; have B3 := Aside0.mk ((B2.out).grown hg3 B2.out.size (fun k hk => by simp at hk; subst hk; exact hbase.out)); have hnb := Aside0.mk (Nat.lt_of_lt_of_le R1.out.blt (own_lt' M2.out).1); have hng := Aside0.mk (Nat.lt_of_lt_of_le R1.out.lt (own_lt' M2.out).1); have M3 := Aside0.mk (M2.out.kept hg3 (.inr (by have := hnb.out; simp [Value.ownBlock]; omega))); have hs1 := ST.out _ _ cm (own_reads' M3.out); have hs2 := ST.out _ _ cap (HY.out.below B3.out); have hbm := Aside0.mk (Nat.le_trans B1.out.size (own_lt' M2.out).1); clear hr3 hg3))
  have K1 := Aside0.mk (show KInv w w3 w0.heap.size g b bm cm ys.length ys from ⟨B3.out, R3.out, _, ys, M3.out⟩)
  have hb1 := Aside0.mk (show g ≠ bm ∧ b ≠ bm from ⟨by have := hng.out; omega, by have := hnb.out; omega⟩)
  clear hs1 hs2 R1 R2 R3 M2 M3 B0 B1 B2 B3 hnb hng
  go_loopw [32] (fun i wr => ∃ k : Nat, k ≤ ys.length ∧ i = .int .i64 k ∧ Aside0 (KInv w wr w0.heap.size g b bm cm ys.length ys)) (fun i _ => ys.length - (intOf i).toNat)
  case atStart => exact ⟨0, Nat.zero_le _, rfl, K1⟩
  case round =>
    obtain ⟨k, hk, rfl, K⟩ := hrel
    clear K1
    by_cases hkn : k = ys.length
    · subst hkn
      have B3 := Aside0.mk K.out.1
      have R3 := Aside0.mk K.out.2.1
      have hs2 := ST.out _ _ cap (HY.out.below B3.out)
      go_wp2_with (first
        | (go_at_call 23; (with_reducible refine (bytes_all _ _ _ _ _ _ _ R3.out).mono ?_); rintro e w4 ⟨bx, cx, rfl, ho, hb4⟩; have R4 := Aside0.mk (R3.out.then hb4); have B4 := Aside0.mk (below_step B3.out hb4); have M4 := Aside0.mk ho; have hnb := Aside0.mk (Nat.lt_of_lt_of_le R3.out.blt (own_lt' M4.out).1); have hng := Aside0.mk (Nat.lt_of_lt_of_le R3.out.lt (own_lt' M4.out).1); have hs3 := ST.out _ _ cx (own_reads' M4.out); have hs4 := ST.out _ _ cap (HY.out.below B4.out); have hbx := Aside0.mk (Nat.le_trans B3.out.size (own_lt' M4.out).1); clear ho hb4))
      have K4 := Aside0.mk (show KInv w w4 w0.heap.size g b bx cx ys.length ys from ⟨B4.out, R4.out, _, ys, M4.out⟩)
      have hb2 := Aside0.mk (show g ≠ bx ∧ b ≠ bx from ⟨by have := hng.out; omega, by have := hnb.out; omega⟩)
      clear hs2 hs3 hs4 R3 R4 M4 B3 B4 hnb hng K
      go_loopw [60] (fun i wr => ∃ k : Nat, k ≤ ys.length ∧ i = .int .i64 k ∧ Aside0 (KInv w wr w0.heap.size g b bx cx ys.length ys)) (fun i _ => ys.length - (intOf i).toNat)
      case atStart => exact ⟨0, Nat.zero_le _, rfl, K4⟩
      case round =>
        obtain ⟨k, hk, rfl, K⟩ := hrel
        clear K4
        by_cases hkn : k = ys.length
        · subst hkn
          have B5 := Aside0.mk K.out.1
          have R5 := Aside0.mk K.out.2.1
          go_wp2_with (first
            | (go_at_call 23; (with_reducible refine (bytes_all _ _ _ _ _ _ _ R5.out).mono ?_); rintro e w6 ⟨by_, cy, rfl, ho, hb6⟩; have B6 := Aside0.mk (below_step B5.out hb6); have M6 := Aside0.mk ho; have hs5 := ST.out _ _ cy (own_reads' M6.out); have hs6 := ST.out _ _ cap (HY.out.below B6.out); clear ho hb6))
          go_ret
          exact ⟨rfl, B6.out⟩
        · obtain ⟨z, hz⟩ := K.out.cell k (by omega)
          have hf := K.out.free k
          go_wp2
          go_roundw
          case rel => exact ⟨k + 1, by omega, rfl, ⟨K.out.step hbx.out hb2.out.1 hb2.out.2 k _⟩⟩
          case measure => simp [intOf]; omega
    · obtain ⟨z, hz⟩ := K.out.cell k (by omega)
      have hf := K.out.free k
      go_wp2
      go_roundw
      case rel => exact ⟨k + 1, by omega, rfl, ⟨K.out.step hbm.out hb1.out.1 hb1.out.2 k _⟩⟩
      case measure => simp [intOf]; omega
theorem RamKeeps_walk (a0 : Option Addr) (len0 cap0 : Nat) (z0 : List Int) (w : World) (w0 : IsRow .u8 w a0 len0 cap0 z0) (_ : len0 * 1 ≤ 140737488351232) :
    Calls Try.prog 6 #[.slice a0 len0 cap0] w fun e w' => e = .returned (.bool true) ∧ Below w.heap.size w w' := by
  obtain ⟨l, rfl, hr, hm, hw, hc⟩ := ReadsInt.ofRowC w0
  by_cases h : 4096 < l.length
  · exact keeps_long a0 l.length cap0 w h
  · exact keeps_ok a0 cap0 l w (by omega) hr
end Go.Proofs.Ytocjadgakalbdaa.RamWalk
