/- The lines' functions of layer 22, walked: heap's up, down. -/
import Derived.Test.YtbgcbnlpjjhmhaaLinesC
namespace Go.Proofs.Ytbgcbnlpjjhmhaa.LinesWalk
open Go.RowKit Go.Proofs.Ytbgcbnlpjjhmhaa.Aid Go.Proofs.YtbgcbnlpjjhmhaaW.PrintWords Go.Proofs.YtbgcbnlpjjhmhaaW.PrintLast Go.Proofs.YtbgcbnlpjjhmhaaW.PrintMore Go.Proofs.Ytbgcbnlpjjhmhaa.HeapLaw
attribute [local go_sem] max2_int min2_int max_two min_two max_three min_three max_four min_four   -- for this text's walks alone
set_option linter.unusedVariables false
set_option linter.unusedSimpArgs false
section
variable {P : Program} {w : World}
theorem meth_at {k : Nat} {t elem : TypeId} {name : String} {f : FuncId} {p : Bool} (h : ((P.info? t).bind fun i => (i.methods.find? (·.name == name)).map fun m => (m.path, m.func)) = some (#[], some (f, p))) (hu : P.underlying t = some (.pointer elem)) (a : Addr) (v : Value) (hl : p = false → (loadVar elem a).run P w = .ok v w) (hv : p = true → v = .pointer (some a)) :
    (method (k + 1) t (.pointer (some a)) name).run P w = .ok (f, v) w := by
  obtain ⟨i, hi, h⟩ := Option.bind_eq_some_iff.1 h
  obtain ⟨m, hm, h⟩ := Option.map_eq_some_iff.1 h
  simp only [Prod.mk.injEq] at h
  obtain ⟨h1, h2⟩ := h
  cases p with
  | false =>
    have hl := hl rfl
    have hw : ∀ s : String, (Builtin.ssaWrapNilChk_ #[t] t #[.pointer (some a), strVal "", strVal s]).run P w = .ok (.pointer (some a)) w := fun s => rfl
    simp [method, typeInfo, hi, hm, h1, h2, follow, receiverAt, run_underlying hu, Place.get, hw, asAddr, hl]
  | true =>
    rw [hv rfl]
    simp [method, typeInfo, hi, hm, h1, h2, follow, receiverAt, run_underlying hu, Place.get]
end
theorem load_queue (w : World) (g : Nat) (v : Value) (h : w.cell? ⟨g, 0, none⟩ = some v) : (loadVar 82 ⟨g, 0, none⟩).run Try.prog w = .ok v w := by
  go_simp
theorem meth_less (w : World) (g : Nat) (v : Value) (h : w.cell? ⟨g, 0, none⟩ = some v) : (method 224 86 (.pointer (some ⟨g, 0, none⟩)) "Less").run Try.prog w = .ok (74, v) w :=
  meth_at (k := 223) (elem := 82) (p := false) (by kernel_rfl) Try.underlying86 _ _ (fun _ => load_queue w g v h) (by simp)
theorem meth_len (w : World) (g : Nat) (v : Value) (h : w.cell? ⟨g, 0, none⟩ = some v) : (method 224 86 (.pointer (some ⟨g, 0, none⟩)) "Len").run Try.prog w = .ok (73, v) w :=
  meth_at (k := 223) (elem := 82) (p := false) (by kernel_rfl) Try.underlying86 _ _ (fun _ => load_queue w g v h) (by simp)
theorem meth_swap (w : World) (g : Nat) (v : Value) (h : w.cell? ⟨g, 0, none⟩ = some v) : (method 224 86 (.pointer (some ⟨g, 0, none⟩)) "Swap").run Try.prog w = .ok (75, v) w :=
  meth_at (k := 223) (elem := 82) (p := false) (by kernel_rfl) Try.underlying86 _ _ (fun _ => load_queue w g v h) (by simp)
theorem meth_push (w : World) (g : Nat) : (method 224 86 (.pointer (some ⟨g, 0, none⟩)) "Push").run Try.prog w = .ok (77, .pointer (some ⟨g, 0, none⟩)) w :=
  meth_at (k := 223) (elem := 82) (p := true) (by kernel_rfl) Try.underlying86 _ _ (by simp) (fun _ => rfl)
theorem meth_pop (w : World) (g : Nat) : (method 224 86 (.pointer (some ⟨g, 0, none⟩)) "Pop").run Try.prog w = .ok (76, .pointer (some ⟨g, 0, none⟩)) w :=
  meth_at (k := 223) (elem := 82) (p := true) (by kernel_rfl) Try.underlying86 _ _ (by simp) (fun _ => rfl)
theorem QAt.then {W W' : World} {base g : Nat} {v : Value} {q : List Ent} {rest : List Value} (h : QAt W base g v q rest) (k : Below W.heap.size W W') : QAt W' base g v q rest :=
  ⟨(k.block g h.lt).trans h.blk, h.ge, own_then h.row k, h.len⟩
theorem QAt.shape {W : World} {base g n : Nat} {v : Value} {q : List Ent} {rest : List Value} (h : QAt W base g v q rest) (hq : q.length = n) (hn : 0 < n) : ∃ b c, v = .slice (some ⟨b, 0, none⟩) n c := by
  have := h.row
  unfold QRow at this
  obtain ⟨m, rfl⟩ : ∃ m, n = m + 1 := ⟨n - 1, by omega⟩
  rw [hq] at this
  exact own_some this
theorem QAt.swap {w w' : World} {base g b n c : Nat} {q q' : List Ent} {rest : List Value} (h : QAt w base g (.slice (some ⟨b, 0, none⟩) n c) q rest) (hr : QRow w' base (.slice (some ⟨b, 0, none⟩) n c) q') (hl : q'.length = q.length) (k : w.grownBy w' (some b)) : QAt w' base g (.slice (some ⟨b, 0, none⟩) n c) q' rest := by
  have hne : g ≠ b := fun e => h.ne (by simp [Value.ownBlock, e])
  exact ⟨(k.block g h.lt (by simp; exact hne)).trans h.blk, h.ge, hr, by rw [hl]; exact h.len⟩
theorem upL_yes {f k : Nat} {q : List Ent} (h0 : k ≠ 0) (h : ltE (gE q k) (gE q ((k - 1) / 2)) = true) : upL (f + 1) q k = upL f (swapL q ((k - 1) / 2) k) ((k - 1) / 2) := by
  conv => lhs; unfold upL
  rw [if_neg h0, if_pos h]
theorem upL_no {f k : Nat} {q : List Ent} (h0 : k ≠ 0) (h : ltE (gE q k) (gE q ((k - 1) / 2)) = false) : upL (f + 1) q k = q := by
  unfold upL
  rw [if_neg h0, if_neg (by rw [h]; decide)]
set_option maxRecDepth 100000 in
theorem up_call (w : World) (base g n : Nat) (v : Value) (q : List Ent) (rest : List Value) (j : Nat) (h : QAt w base g v q rest) (hq : q.length = n) (hj : j < n) :
    Calls Try.prog 50 #[.iface 86 (.pointer (some ⟨g, 0, none⟩)), .int .i64 j] w fun e' w' => e' = .returned (.tuple #[]) ∧ QPost w w' base g v (upL j q j) rest := by
  obtain ⟨b, c, rfl⟩ := h.shape hq (by omega)
  have H := Aside0.mk h
  have hl := h.len
  clear h
  go_enter Try.func50, Try.ntmps50
  go_wp2
  go_loopw [1] (fun jv wr => ∃ (k f : Nat) (qk : List Ent), k ≤ f ∧ k < n ∧ jv = .int .i64 k ∧ qk.length = n ∧ Aside0 (upL j q j = upL f qk k ∧ QAt wr base g (.slice (some ⟨b, 0, none⟩) n c) qk rest ∧ Kept2 w wr g (some b))) (fun jv _ => (intOf jv).toNat)
  case atStart => exact ⟨j, j, q, Nat.le_refl _, hj, rfl, hq, ⟨rfl, H.out, Kept2.of_below (Below.refl _ _) _ _⟩⟩
  case round =>
    obtain ⟨k, f, qk, hkf, hk, rfl, hqk, HR⟩ := hrel
    have hf' := HR.out.2.1.field
    by_cases hk0 : k = 0
    · subst hk0
      have R := Aside0.mk (show QPost w wr base g (.slice (some ⟨b, 0, none⟩) n c) (upL j q j) rest by
        have : upL f qk 0 = qk := by cases f <;> simp [upL]
        rw [HR.out.1, this]; exact ⟨_, HR.out.2.1, HR.out.2.2, .inl rfl⟩)
      go_wp2
      go_end0
      exact ⟨rfl, R.out⟩
    · have hk1 : 1 ≤ k := by omega
      obtain ⟨f', rfl⟩ : ∃ f', f = f' + 1 := ⟨f - 1, by omega⟩
      have K := Aside0.mk (show (1 ≤ k ∧ k < n ∧ k ≤ f' + 1 ∧ k ≠ 0) from ⟨hk1, hk, hkf, hk0⟩)
      have hx1 : (1 : Int) ≤ k := by omega
      have hx2 : (k : Int) ≤ 4096 := by omega
      have ei : (((k - 1) / 2 : Nat) : Int) = ((k : Int) - 1) / 2 := by omega
      have LC := less_call wr base b n c k ((k - 1) / 2) qk hqk HR.out.2.1.row hk (by omega)
      have SC := fun w1 (hr : QRow w1 base (.slice (some ⟨b, 0, none⟩) n c) qk) => swap_call w1 base b n c ((k - 1) / 2) k qk hqk hr (by omega) hk (by omega)
      rw [ei] at LC SC
      have EI := Aside0.mk ei
      clear hkf hk hk0 hk1 ei
      have HQ := Aside0.mk hqk
      generalize hbl : ltE (gE qk k) (gE qk ((k - 1) / 2)) = bl at *
      have HB := Aside0.mk hbl
      generalize hx : (k : Int) = x at *
      clear hx hbl hqk
      have LC := Aside0.mk LC
      have SC := Aside0.mk SC
      have e1 : ((x - 1) / 2 == x) = false := by rw [beq_eq_false_iff_ne]; omega
      have m1 := meth_less wr g _ hf'
      cases bl with
      | false =>
        go_wp2_with (first
          | (go_at_call 74; (with_reducible refine (LC.out).mono ?_); rintro e w1 ⟨rfl, hb⟩; have B1 := Aside0.mk hb; clear hb))
        go_end0
        refine ⟨rfl, _, ?_, HR.out.2.2.trans (Kept2.of_below B1.out g none) (.inr (fun k hk => by simp at hk)), .inl rfl⟩
        rw [HR.out.1, upL_no K.out.2.2.2 HB.out]
        exact HR.out.2.1.then B1.out
      | true =>
        go_wp2_with (first
          | (go_at_call 74; (with_reducible refine (LC.out).mono ?_); rintro e w1 ⟨rfl, hb⟩; have Q1 := Aside0.mk (HR.out.2.1.then hb); have K1 := Aside0.mk (HR.out.2.2.trans (Kept2.of_below hb g none) (.inr (fun k hk => by simp at hk))); have m2 := meth_swap w1 g _ Q1.out.field; clear hb m1)
          | (go_at_call 75; (with_reducible refine (SC.out _ Q1.out.row).mono ?_); rintro e w2 ⟨rfl, hr, hg⟩; have Q2 := Aside0.mk (Q1.out.swap hr (swapL_length _ _ _) hg); have K2 := Aside0.mk (K1.out.grown hg (.inl rfl)); clear hr hg m2))
        go_roundw
        case rel => exact ⟨(k - 1) / 2, f', swapL qk ((k - 1) / 2) k, by have := K.out; omega, by have := K.out; omega, by rw [EI.out], by rw [swapL_length]; exact HQ.out, ⟨by rw [HR.out.1]; exact upL_yes K.out.2.2.2 HB.out, Q2.out, K2.out⟩⟩
        case measure => simp [intOf]; omega
end Go.Proofs.Ytbgcbnlpjjhmhaa.LinesWalk
