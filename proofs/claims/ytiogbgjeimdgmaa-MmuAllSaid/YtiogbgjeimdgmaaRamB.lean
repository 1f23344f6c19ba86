/- The memory's functions of layer 2, walked, second part: New, Put. -/
import Derived.Test.YtiogbgjeimdgmaaRamA
namespace Go.Proofs.Ytiogbgjeimdgmaa.RamWalk
open Go.RowKit Go.Proofs.Ytiogbgjeimdgmaa.Aid Go.Proofs.YtiogbgjeimdgmaaW.PrintWords Go.Proofs.YtiogbgjeimdgmaaW.PrintLast Go.Proofs.YtiogbgjeimdgmaaW.PrintMore
attribute [local go_sem] max2_int min2_int max_two min_two max_three min_three max_four min_four   -- for this text's walks alone
set_option linter.unusedVariables false
set_option linter.unusedSimpArgs false

theorem info5 : (Try.prog.info? 5).map (fun i => (i.zero, i.size, i.bytes)) = some (some (.int .u8 0), 1, 1) := by kernel_rfl
theorem made_at (w : World) (k : Nat) (hk : k ≤ 16777216) : RamAt ((w.alloc (.cells (madeCells #[.int .u8 0] k) 5)).alloc (.cells #[.slice (some ⟨w.heap.size, 0, none⟩) k k] 102)) w.heap.size (w.heap.size + 1) (.slice (some ⟨w.heap.size, 0, none⟩) k k) (List.replicate k 0) := by
  have ho := own_made' w w.heap.size 5 .u8 k (Nat.le_refl _) (by omega)
  refine ⟨?_, by omega, own_alloc ho _, ⟨_, k, by rw [List.length_replicate]⟩, by rw [List.length_replicate]; exact hk⟩
  have := blk_new (w.alloc (.cells (madeCells #[.int .u8 0] k) 5)) (.cells #[.slice (some ⟨w.heap.size, 0, none⟩) k k] 102)
  simpa using this
theorem new_call (n : Int) (w : World) (hn : 0 ≤ n) (hn2 : n ≤ 16777216) :
    Calls Try.prog 14 #[.int .i64 n] w fun e w' => ∃ g b, e = .returned (.pointer (some ⟨g, 0, none⟩)) ∧ RamAt w' w.heap.size g (.slice (some ⟨b, 0, none⟩) n.toNat n.toNat) (List.replicate n.toNat 0) ∧ Below w.heap.size w w' := by
  have hmk := print_make_int (P := Try.prog) 22 5 (.int .u8 0) 1 Try.underlying22 info5 rfl (by decide) n hn (by omega)
  go_enter Try.func14, Try.ntmps14
  go_wp2
  go_ret
  refine ⟨w.heap.size + 1, w.heap.size, rfl, ?_, (below_alloc (below_alloc (Below.refl _ _) _) _)⟩
  exact made_at w n.toNat (by omega)

theorem put_call (w : World) (base g b c : Nat) (l : List Int) (at_ n : Nat) (x : Nat) (hx : x < 4294967296) (ha : at_ < 4294967296) (h : RamAt w base g (.slice (some ⟨b, 0, none⟩) l.length c) l) (h1 : at_ + n ≤ l.length) (h4 : n ≤ 4) :
    Calls Try.prog 39 #[.pointer (some ⟨g, 0, none⟩), .int .u32 at_, .int .u32 x, .int .i64 n] w fun e w' => e = .returned (.int .i64 0) ∧ RamAt w' base g (.slice (some ⟨b, 0, none⟩) l.length c) (putL l at_ x n) ∧ w.grownBy w' (some b) := by
  have A := Aside0.mk (in_yes w base g b c l at_ n ha h (by omega) (by omega))
  have hl := h.2.2.2.2
  have HR := Aside0.mk h
  clear h
  go_enter Try.func39, Try.ntmps39
  go_wp2_with (first | (go_at_call 54; ((with_reducible refine (A.out).mono ?_); rintro e w' ⟨rfl, rfl⟩)))
  go_loopw [9, 24] (fun _ i wr => ∃ k : Nat, k ≤ n ∧ i = .int .i64 k ∧ RamAt wr base g (.slice (some ⟨b, 0, none⟩) l.length c) (putL l at_ x k) ∧ w.grownBy wr (some b)) (fun _ i _ => n - (intOf i).toNat)
  case atStart => exact ⟨0, Nat.zero_le _, rfl, HR.out, grown_refl _ _⟩
  case round =>
    obtain ⟨k, hk, rfl, hr, hg⟩ := hrel
    obtain ⟨-, hc, hf⟩ := hr.field
    have hfr := hr.free (at_ + k)
    by_cases hkn : k = n
    · subst hkn
      have HP := Aside0.mk hr
      have HG := Aside0.mk hg
      clear hr hg
      go_wp2
      go_ret
      exact ⟨rfl, HP.out, HG.out⟩
    · have hcb := hr.byte (at_ + k) (by omega)
      go_wp2
      go_region
      all_goals (go_wp2; go_roundw)
      case rel => exact ⟨k + 1, by omega, rfl, (hr.put (at_ + k) _).drew, grown_drew (grown_put hg _ _)⟩
      case measure => simp [intOf]; omega
theorem put_bus (w : World) (base g b c : Nat) (l : List Int) (at_ : Nat) (n x : Int) (ha : at_ < 4294967296) (h : RamAt w base g (.slice (some ⟨b, 0, none⟩) l.length c) l) (h1 : ¬ (0 ≤ n ∧ (at_ : Int) + n ≤ l.length ∧ n ≤ 4)) :
    Calls Try.prog 39 #[.pointer (some ⟨g, 0, none⟩), .int .u32 at_, .int .u32 x, .int .i64 n] w fun e w' => e = .returned (.int .i64 6) ∧ w = w' := by
  by_cases h2 : 0 ≤ n ∧ (at_ : Int) + n ≤ l.length
  · have A := Aside0.mk (in_yes w base g b c l at_ n ha h h2.1 h2.2)
    have h4 : 4 < n := by omega
    clear h1 h2 h
    go_enter Try.func39, Try.ntmps39
    go_wp2_with (first | (go_at_call 54; ((with_reducible refine (A.out).mono ?_); rintro e w' ⟨rfl, rfl⟩)))
    go_ret
    exact ⟨rfl, rfl⟩
  · have A := Aside0.mk (in_no w base g b c l at_ n ha h h2)
    clear h1 h2 h
    go_enter Try.func39, Try.ntmps39
    go_wp2_with (first | (go_at_call 54; ((with_reducible refine (A.out).mono ?_); rintro e w' ⟨rfl, rfl⟩)))
    go_ret
    exact ⟨rfl, rfl⟩

theorem own_shape {w : World} {base : Nat} {e : TypeId} {s n b : Nat} {v : Value} {xs : List Value} (h : w.ownsRow base e s v n xs) (hb : v.ownBlock = some b) : ∃ c, v = .slice (some ⟨b, 0, none⟩) n c := by
  rcases h.2 with ⟨rfl, _⟩ | ⟨g, cap, cur, rfl, _⟩
  · simp [Value.ownBlock] at hb
  · simp only [Value.ownBlock, Option.some.injEq] at hb
    subst hb
    exact ⟨cap, rfl⟩

theorem equalIn_nil (w : World) (d : Nat) (ad : Addr) (l c : Nat) : (Op.equalIn (d + 1) 22 (.slice (some ad) l c) (.slice none 0 0)).run Try.prog w = .ok false w := by
  simp [Op.equalIn, run_underlying Try.underlying22]
theorem equal_nil (w : World) (ad : Addr) (l c : Nat) : (Op.equal 22 (.slice (some ad) l c) (.slice none 0 0)).run Try.prog w = .ok false w := equalIn_nil w 9999 ad l c
theorem eq_nil_run (w : World) (ad : Addr) (n c : Nat) : (binOp .eql 22 (.slice (some ad) n c) (.slice none 0 0)).run Try.prog w = .ok (.bool false) w := by
  simp [binOp, equal_nil w ad n c]
theorem clone_call (w : World) (ad : Addr) (c : Nat) (l : List Int) (h : ReadsInt w .u8 (some ad) l.length l) (hl : l.length ≤ 16777216) :
    Calls Try.prog 64 #[.slice (some ad) l.length c] w fun e w' => ∃ b c', e = .returned (.slice (some ⟨b, 0, none⟩) l.length c') ∧ w'.ownsRow w.heap.size 5 1 (.slice (some ⟨b, 0, none⟩) l.length c') l.length (nums .u8 l) ∧ Below w.heap.size w w' := by
  have HR := Aside0.mk h
  have HL := Aside0.mk hl
  have HO := Aside0.mk (World.ownsRow_lit (base := w.heap.size) (e := 5) (size := 1) w #[] 0 (Nat.le_refl _) (Nat.zero_le _) rfl)
  have heq := eq_nil_run
  clear h hl
  go_enter Try.func64, Try.ntmps64
  go_wp2_with (first | (at_builtin; go_loud (refine print_append_row (w0 := w) w.heap.size rfl (.tmp 5) (.tmp 6) 22 5 .u8 1 rfl Try.underlying22 info5 (by decide) _ [] l (some ad) l.length c rfl rfl (HO.out) (HR.out.allocS _) (below_alloc (Below.refl _ _) _) (by simp) (by have := HL.out; simp; omega) ?_; intro v1 w1 ho hb hg hat)))
  go_ret
  obtain ⟨b, hb'⟩ : ∃ b, v1.ownBlock = some b := by
    rcases hat with hat | ⟨b, hat, _⟩
    · exact ⟨w.heap.size, hat⟩
    · exact ⟨b, hat⟩
  rw [List.nil_append] at ho
  obtain ⟨c', rfl⟩ := own_shape ho hb'
  exact ⟨b, c', rfl, ho, hb⟩

theorem load_bus (w : World) (base g b c : Nat) (l : List Int) (at_ : Nat) (A : Option Addr) (n cap : Nat) (ha : at_ < 4294967296) (h : RamAt w base g (.slice (some ⟨b, 0, none⟩) l.length c) l) (h1 : ¬ (at_ + n ≤ l.length)) :
    Calls Try.prog 16 #[.pointer (some ⟨g, 0, none⟩), .int .u32 at_, .slice A n cap] w fun e w' => e = .returned (.int .i64 6) ∧ w = w' := by
  have A' := Aside0.mk (in_no w base g b c l at_ n ha h (by omega))
  clear h1 h
  go_enter Try.func16, Try.ntmps16
  go_wp2_with (first | (go_at_call 54; ((with_reducible refine (A'.out).mono ?_); rintro e w' ⟨rfl, rfl⟩)))
  go_ret
  exact ⟨rfl, rfl⟩

theorem size5 : (Try.prog.info? 5).map (·.size) = some 1 := by kernel_rfl
theorem load_call (w : World) (base g b c : Nat) (l ys : List Int) (at_ : Nat) (A : Option Addr) (cap : Nat) (ha : at_ < 4294967296) (h : RamAt w base g (.slice (some ⟨b, 0, none⟩) l.length c) l) (hy : ReadsInt w .u8 A ys.length ys) (h1 : at_ + ys.length ≤ l.length) :
    Calls Try.prog 16 #[.pointer (some ⟨g, 0, none⟩), .int .u32 at_, .slice A ys.length cap] w fun e w' => e = .returned (.int .i64 0) ∧ RamAt w' base g (.slice (some ⟨b, 0, none⟩) l.length c) (l.take at_ ++ (ys ++ l.drop (at_ + ys.length))) ∧ w.grownBy w' (some b) := by
  have A' := Aside0.mk (in_yes w base g b c l at_ ys.length ha h (by omega) (by omega))
  obtain ⟨-, hc, hf⟩ := h.field
  have hm := h.2.2.2.2
  by_cases h0 : ys.length = 0
  · have hcp : ∀ (d : Option Addr) (dL dC : Nat), (Builtin.copy_ #[22, 22] 3 #[.slice d dL dC, .slice A ys.length cap]).run Try.prog w = .ok (goInt 0) w := fun d dL dC =>
      run_copy_none w 22 22 3 5 d A dL dC ys.length cap Try.underlying22 size5 (by rw [h0]; exact Nat.zero_min _)
    have e0 : l.take at_ ++ (ys ++ l.drop (at_ + ys.length)) = l := by rw [List.eq_nil_of_length_eq_zero h0, List.nil_append, List.length_nil, Nat.add_zero, List.take_append_drop]
    rw [e0]
    have HR := Aside0.mk h
    clear h e0 h0
    go_enter Try.func16, Try.ntmps16
    go_wp2_with (first | (go_at_call 54; ((with_reducible refine (A'.out).mono ?_); rintro e w' ⟨rfl, rfl⟩)))
    all_goals (go_ret; refine ⟨rfl, ?_, grown_refl _ _⟩; first | exact HR.out | (rw [← (show c = at_ from by assumption)]; exact HR.out))
  · obtain ⟨ad, rfl, hcell⟩ := hy.2.2 (by omega)
    obtain ⟨cur, hh, s1, s2, s3, s4, s5⟩ := h.row
    have hnl : (nums .u8 ys).length = ys.length := by unfold nums; rw [List.length_map]
    have hcp : (Builtin.copy_ #[22, 22] 3 #[.slice (some ⟨b, at_, none⟩) (l.length - at_) (c - at_), .slice (some ad) ys.length cap]).run Try.prog w = .ok (goInt (nums .u8 ys).length) (w.setRow b (cur.toList.take at_ ++ (nums .u8 ys ++ cur.toList.drop (at_ + (nums .u8 ys).length))).toArray) := by
      rw [← List.append_assoc]
      refine run_copy_row Try.prog w 22 22 3 5 b at_ _ _ ad _ _ cur 5 (nums .u8 ys) Try.underlying22 size5 hh ?_ ?_ ?_ ?_
      · rw [hnl]; exact (Nat.min_eq_left (by omega)).symm
      · intro j u hu
        have hj : j < ys.length := by
          have := (List.getElem?_eq_some_iff.1 hu).1
          omega
        rw [hcell j hj]
        unfold nums at hu
        rw [List.getElem?_map, List.getElem?_eq_getElem hj] at hu
        rw [List.getD_eq_getElem?_getD, List.getElem?_eq_getElem hj]
        exact hu
      · rw [hnl]; omega
      · intro u hu
        unfold nums at hu
        obtain ⟨x, _, rfl⟩ := List.mem_map.1 hu
        rfl
    have hne : ¬ c = at_ := by omega
    have HS := Aside0.mk (h.splice (ys := ys) cur hh at_ (by omega))
    have hg := grown_row (W := w) (b := b) (cur.toList.take at_ ++ (nums .u8 ys ++ cur.toList.drop (at_ + (nums .u8 ys).length))).toArray
    generalize (w.setRow b (cur.toList.take at_ ++ (nums .u8 ys ++ cur.toList.drop (at_ + (nums .u8 ys).length))).toArray) = w1 at *
    have HG := Aside0.mk hg
    clear hg h hh s1 s2 s3 s4 s5
    go_enter Try.func16, Try.ntmps16
    go_wp2_with (first | (go_at_call 54; ((with_reducible refine (A'.out).mono ?_); rintro e w' ⟨rfl, rfl⟩)))
    go_ret
    exact ⟨rfl, HS.out, HG.out⟩
end Go.Proofs.Ytiogbgjeimdgmaa.RamWalk
