/- Rom: put behind a literal; Encode, walked. -/
import Derived.Test.YtnljnccfpkpgfaaDoorRomH
import Derived.Lib.SlBytesConst
import Derived.Lib.AppendStr
import Derived.ArgAppend
namespace Go.Proofs.YtnljnccfpkpgfaaDoor.RomWalk
open Go.RowKit Go.Proofs.YtnljnccfpkpgfaaDoor.Aid Go.Proofs.YtnljnccfpkpgfaaDoorW.PrintWords Go.Proofs.YtnljnccfpkpgfaaDoorW.PrintLast Go.Proofs.YtnljnccfpkpgfaaDoorW.PrintMore
attribute [local go_sem] max2_int min2_int max_two min_two max_three min_three max_four min_four   -- for this text's walks alone
set_option linter.unusedVariables false
set_option linter.unusedSimpArgs false
theorem info5_parts : ∃ i, Tryd.prog.info? 5 = some i ∧ i.zero = some (.int .u8 0) ∧ i.size = 1 ∧ i.bytes = 1 := by
  obtain ⟨i0, hi, hzz⟩ := Option.map_eq_some_iff.1 info5
  simp only [Prod.mk.injEq] at hzz
  exact ⟨i0, hi, hzz.1, hzz.2.1, hzz.2.2⟩
theorem reads_num {W : World} {k : IntKind} {ad : Addr} {n : Nat} {l : List Int} (h : ReadsInt W k (some ad) n l) : ∀ j u, (nums k l)[j]? = some u → W.cell? (ad.add j) = some u := by
  intro j u hu
  have hl := h.1
  have hj : j < l.length := by
    rcases Nat.lt_or_ge j l.length with h | h
    · exact h
    · simp [nums, List.getElem?_eq_none h] at hu
  obtain ⟨ad', e, hc⟩ := h.2.2 (by omega)
  injection e with e
  subst e
  have := hc j (by omega)
  simp [nums, List.getElem?_eq_getElem hj] at hu
  subst hu
  rw [this]
  simp [List.getD_eq_getElem?_getD, List.getElem?_eq_getElem hj]
theorem cells1 (W : World) (x : Int) : ∀ (j : Nat) (u : Value), [Value.int .u8 x][j]? = some u → (W.alloc (.cells #[.int .u8 x] 5 (0, 0))).cell? ((⟨W.heap.size, 0, none⟩ : Addr).add j) = some u
  | 0, u, hu => (cell_of_row _ _ 0 _ _ _ (heap_alloc_new W (.cells #[.int .u8 x] 5 (0, 0)))).trans hu
  | j + 1, u, hu => by cases (show (none : Option Value) = some u from hu)
set_option maxRecDepth 100000 in
set_option maxHeartbeats 4000000 in
/-- A number's bytes behind a full row of whosever: a new row. -/
theorem put_full (w : World) (ad : Addr) (n : Nat) (l : List Int) (x k : Nat) (hx : x < 18446744073709551616) (hk : k ≤ 8) (hk1 : 1 ≤ k) (hr : ReadsInt w .u8 (some ad) n l) (hn : n ≤ 1000) :
    Calls Tryd.prog 20 #[.slice (some ad) n n, .int .u64 (x : Int), .int .i64 (k : Int)] w fun e w' => ∃ A' m' c', e = .returned (.slice A' m' c') ∧ Aside0 ((l ++ putS x k).length = m') ∧ w'.ownsRow w.heap.size 5 1 (.slice A' m' c') m' (nums .u8 (l ++ putS x k)) ∧ Below w.heap.size w w' := by
  rw [putS_byL]
  have HR := Aside0.mk hr
  have hl := hr.1
  have HK1 := Aside0.mk hk1
  obtain ⟨i0, i1, i2, i3, i4⟩ := info5_parts
  have I1 := Aside0.mk i1
  have I2 := Aside0.mk i2
  have I3 := Aside0.mk i3
  have I4 := Aside0.mk i4
  clear hr i1 i2 i3 i4
  go_enter Tryd.func20, Tryd.ntmps20
  go_wp2_with fail
  go_loopw [0, 9] (fun b i wr => ∃ j : Nat, j ≤ k ∧ i = .int .i64 j ∧ Aside0 (Below w.heap.size w wr) ∧ ((j = 0 ∧ b = .slice (some ad) n n) ∨ (0 < j ∧ Aside0 (wr.ownsRow w.heap.size 5 1 b (l ++ byL x j).length (nums .u8 (l ++ byL x j)))))) (fun _ i _ => k - (intOf i).toNat)
  case atStart => exact ⟨0, Nat.zero_le _, rfl, ⟨Below.refl _ _⟩, .inl ⟨rfl, rfl⟩⟩
  case round =>
    obtain ⟨j, hj, rfl, B, O⟩ := hrel
    have HX := Aside0.mk (byL_next (x : Int) j)
    have hlen : (l ++ byL (x : Int) j).length = l.length + j := by rw [List.length_append, byL_length]
    rcases O with ⟨rfl, rfl⟩ | ⟨hj0, O⟩
    · have hj' : 0 < k := by have := HK1.out; omega
      have hj1 : (0 : Int) < k := by omega
      have HR1 := Aside0.mk (HR.out.below B.out)
      go_wp2_with (first
        | (at_builtin; refine wpList_append_grows (P := Tryd.prog) _ rfl (.tmp 12) (.tmp 18) 28 rfl 5 i0 (.int .u8 0) 1 1 Tryd.underlying28 I1.out I2.out I3.out I4.out rfl (by decide) (some ad) n n (nums .u8 l) rfl (fun q => by cases q) (by simp [nums]; omega) (fun b hb => by cases hb; exact reads_num (HR1.out.allocS _)) ⟨wr.heap.size, 0, none⟩ 1 1 [.int .u8 ((x : Int) % 256)] rfl rfl (cells1 wr _) (by intro u hu; simp at hu; subst hu; rfl) (by omega) (by simp only [maxLen]; omega) (by omega) ?_; intro o1 w1 ho1 hg1; have O1 := Aside0.mk ho1; have B1 := Aside0.mk hg1; clear ho1 hg1))
      have hb1 : byL (x : Int) 1 = [(x : Int) % 256] := by
        rw [show (1 : Nat) = 0 + 1 from rfl, HX.out]
        show [] ++ [(x : Int) / 1 % 256] = _
        rw [Int.ediv_one]
        rfl
      have hb2 := (below_alloc B.out (.cells #[.int .u8 ((x : Int) % 256)] 5 (0, 0))).grown B1.out (below_alloc B.out _).size (fun q hq => by cases hq)
      go_roundw
      case rel =>
        refine ⟨1, HK1.out, rfl, ⟨hb2⟩, .inr ⟨by decide, ⟨?_⟩⟩⟩
        rw [hb1, show (l ++ [(x : Int) % 256]).length = n + 1 from by simp [hl]]
        have := own_lower O1.out (below_alloc B.out (.cells #[.int .u8 ((x : Int) % 256)] 5 (0, 0))).size
        simpa [nums] using this
      case measure => have := HK1.out; simp [intOf]; omega
    · obtain ⟨A1, c1, rfl⟩ := own_val O.out
      by_cases hjk : j = k
      · subst hjk
        go_wp2
        go_ret
        exact ⟨A1, _, c1, rfl, ⟨rfl⟩, O.out, B.out⟩
      · have hj' : j < k := by omega
        have HJ := Aside0.mk hj'
        go_wp2_with (first
          | (at_builtin; refine print_append_num (w0 := w) w.heap.size rfl (.tmp 12) (.tmp 18) 28 5 .u8 1 rfl Tryd.underlying28 info5 (by decide) (.slice A1 (l ++ byL x j).length c1) (l ++ byL x j) (x / 2 ^ (8 * j) % 256) rfl (by simp [Act.eval]) O.out B.out B.out.size (by rw [hlen]; omega) ?_; intro o1 w1 ho1 hb1 hg1 hat1; have O1 := Aside0.mk ho1; have B1 := Aside0.mk hb1; clear ho1 hb1 hg1 hat1))
        go_roundw
        case rel => exact ⟨j + 1, HJ.out, by go_num, B1, .inr ⟨Nat.succ_pos _, ⟨by rw [HX.out, ← List.append_assoc]; exact O1.out⟩⟩⟩
        case measure => have := HJ.out; simp [intOf]; omega
end Go.Proofs.YtnljnccfpkpgfaaDoor.RomWalk
