/- What is answered is new memory; two buffers know nothing of one another: the walk of TlbKeeps. -/
import Derived.Test.YtocjadgakalbdaaTlbF
import Derived.Test.YtocjadgakalbdaaWSized
namespace Go.Proofs.YtocjadgakalbdaaW.PrintWords
open Go.RowKit in
def IsRow (k : IntKind) (w : World) (a : Option Addr) (len cap : Nat) (zs : List Int) : Prop :=
  (a = none ∧ len = 0 ∧ cap = 0 ∧ zs = []) ∨
  ∃ x, a = some x ∧ len ≤ cap ∧ cap ≤ maxLen ∧ zs.length = cap ∧ (∀ i, i < zs.length → w.cell? (x.add i) = some (.int k (zs.getD i 0))) ∧ ∀ n ∈ zs, (Lit.int k n).wf = true
end Go.Proofs.YtocjadgakalbdaaW.PrintWords
namespace Go.Proofs.Ytocjadgakalbdaa.TlbWalk
open Go.RowKit Go.Proofs.Ytocjadgakalbdaa.Aid Go.Proofs.YtocjadgakalbdaaW.PrintWords Go.Proofs.YtocjadgakalbdaaW.PrintLast Go.Proofs.YtocjadgakalbdaaW.PrintMore
attribute [local go_sem] max2_int min2_int max_two min_two max_three min_three max_four min_four   -- for this text's walks alone
set_option linter.unusedVariables false
set_option linter.unusedSimpArgs false

theorem tkeeps_long (A : Option Addr) (n cap : Nat) (w : World) (h : 60 < n) :
    Calls Try.prog 5 #[.slice A n cap] w fun e w' => e = .returned (.bool true) ∧ Below w.heap.size w w' := by
  go_enter Try.func5, Try.ntmps5
  go_wp2_with (first
    | (go_at_call 12; (with_reducible refine (alive_call _).mono ?_); rintro e w0 ⟨rfl, hb0⟩; have B0 := Aside0.mk hb0; clear hb0))
  go_ret
  exact ⟨rfl, B0.out⟩

/-- All bits turned. -/
def cmpl (x : Int) : Int := Go.bits .xor .u32 (if IntKind.u32.signed = true then -1 else IntKind.u32.max) x
theorem cmpl_nat (n : Nat) (h : n < 4294967296) : cmpl (n : Int) = ((4294967295 ^^^ n : Nat) : Int) := by
  unfold cmpl
  rw [show (if IntKind.u32.signed = true then (-1 : Int) else IntKind.u32.max) = ((4294967295 : Nat) : Int) from by decide]
  exact u32_xor_nat 4294967295 n (by decide) h
theorem cmpl_back (x : Int) (h0 : 0 ≤ x) (h1 : x < 4294967296) : cmpl (cmpl x) = x := by
  obtain ⟨n, rfl⟩ : ∃ n : Nat, x = n := ⟨x.toNat, by omega⟩
  have hlt : 4294967295 ^^^ n < 4294967296 := Nat.xor_lt_two_pow (n := 32) (by decide) (by omega)
  rw [cmpl_nat n (by omega), cmpl_nat _ hlt, ← Nat.xor_assoc, Nat.xor_self, Nat.zero_xor]

/-- The law's first loop: each page's entry is one more; the other buffer is empty. -/
def EInv (w wr : World) (g gu : Nat) (ps : List (Int × Int)) : Prop :=
  Below w.heap.size w wr ∧ (∃ v, TlbAt wr w.heap.size g v ps) ∧ TlbAt wr w.heap.size gu (.slice none 0 0) [] ∧ gu ≠ g ∧ ∀ q ∈ ps, q.2 = (q.1 + 1) % 4294967296 ∧ 0 ≤ q.1 ∧ q.1 < 4294967296
theorem ent_plus (ps : List (Int × Int)) (h : ∀ q ∈ ps, q.2 = (q.1 + 1) % 4294967296 ∧ 0 ≤ q.1 ∧ q.1 < 4294967296) (j : Nat) (hj : j < ps.length) (p : Int) (hp : (ps.map Prod.fst).getD j 0 = p) :
    entP p ps = (p + 1) % 4294967296 ∧ decide (posP p ps < ps.length) = true ∧ 0 ≤ p ∧ p < 4294967296 := by
  rw [List.getD_eq_getElem?_getD, List.getElem?_map, List.getElem?_eq_getElem hj] at hp
  have hp' : (ps[j]).1 = p := hp
  have hin := posP_mem p ps ⟨ps[j], List.getElem_mem hj, hp'⟩
  have h1 := h _ (mem_getD ps (posP p ps) hin)
  have h2 := posP_page p ps hin
  have h3 := h _ (List.getElem_mem hj)
  rw [hp'] at h3
  refine ⟨?_, decide_eq_true hin, h3.2.1, h3.2.2⟩
  unfold entP
  rw [if_pos hin, h1.1, h2]

theorem tpages_n (w : World) (base g n : Nat) (v : Value) (ps : List (Int × Int)) (L : List Int) (h : TlbAt w base g v ps) (hn : ps.length = n) (hL : ps.map Prod.fst = L) :
    Calls Try.prog 21 #[.pointer (some ⟨g, 0, none⟩)] w fun e w' => ∃ A c, e = .returned (.slice A n c) ∧ w'.ownsRow w.heap.size 22 1 (.slice A n c) n (nums .u32 L) ∧ Below w.heap.size w w' := by
  subst hn hL
  exact pages_call w base g v ps h
theorem turn_step (L : List Int) (f : Int → Int) (k : Nat) (hk : k < L.length) : ((L.take k).map f ++ L.drop k).getD k 0 = L.getD k 0 ∧ ((L.take k).map f ++ L.drop k).set k (f (L.getD k 0)) = (L.take (k + 1)).map f ++ L.drop (k + 1) := by
  have hlen : ((L.take k).map f).length = k := by rw [List.length_map, List.length_take]; omega
  have hd : L.drop k = L.getD k 0 :: L.drop (k + 1) := by
    rw [List.drop_eq_getElem_cons hk, List.getD_eq_getElem?_getD, List.getElem?_eq_getElem hk]; rfl
  constructor
  · rw [List.getD_eq_getElem?_getD, List.getElem?_append_right (by omega), hlen, Nat.sub_self, hd]
    rfl
  · rw [List.set_append_right _ _ (by omega), hlen, Nat.sub_self]
    have ht : L.take (k + 1) = L.take k ++ [L.getD k 0] := by
      rw [List.take_add_one, List.getElem?_eq_getElem hk, List.getD_eq_getElem?_getD, List.getElem?_eq_getElem hk]; rfl
    rw [hd, List.set_cons_zero, ht, List.map_append, List.append_assoc]
    rfl
/-- The buffers, and a row of numbers of the call's own. -/
def TwoInv (w wr : World) (g gu : Nat) (ps : List (Int × Int)) (o : Value) (n : Nat) (l : List Int) : Prop :=
  Below w.heap.size w wr ∧ (∃ v, TlbAt wr w.heap.size g v ps) ∧ TlbAt wr w.heap.size gu (.slice none 0 0) [] ∧ wr.ownsRow w.heap.size 22 1 o n (nums .u32 l)
theorem TwoInv.then {w wr wr' : World} {g gu n : Nat} {ps : List (Int × Int)} {o : Value} {l : List Int} (h : TwoInv w wr g gu ps o n l) (hb : Below wr.heap.size wr wr') : TwoInv w wr' g gu ps o n l := by
  obtain ⟨h1, ⟨v, h2⟩, h3, h4⟩ := h
  exact ⟨below_step h1 hb, ⟨v, h2.then hb⟩, h3.then hb, own_then h4 hb⟩
theorem TwoInv.put {w wr : World} {g gu n b c : Nat} {ps : List (Int × Int)} {l : List Int} (h : TwoInv w wr g gu ps (.slice (some ⟨b, 0, none⟩) n c) n l) (i : Nat) (y : Int) : TwoInv w (wr.setCell ⟨b, i, none⟩ (.int .u32 y)) g gu ps (.slice (some ⟨b, 0, none⟩) n c) n (l.set i y) := by
  obtain ⟨h1, ⟨v, h2⟩, h3, h4⟩ := h
  have hs := h4.stored i (.int .u32 y)
  have hbb : w.heap.size ≤ b := by
    rcases h4.2 with ⟨hv, _⟩ | ⟨b', c', cur, hv, hb, _⟩
    · simp at hv
    · simp only [Value.slice.injEq, Option.some.injEq, Addr.mk.injEq, and_true, true_and] at hv
      obtain ⟨rfl, -⟩ := hv
      exact hb
  refine ⟨h1.setCell hbb _, ⟨v, h2.kept hs.2 (fun e => own_not_g h4 h2 (by simpa [Value.ownBlock] using e.symm)) (own_type_ne h2.own h4 (by decide))⟩, h3.kept hs.2 (fun e => own_not_g h4 h3 (by simpa [Value.ownBlock] using e.symm)) (.inl rfl), ?_⟩
  have : (nums .u32 l).set i (.int .u32 y) = nums .u32 (l.set i y) := by simp [nums, List.map_set]
  rw [← this]
  exact hs.1
theorem own_u32 {W : World} {base b n c i : Nat} {l : List Int} (h : W.ownsRow base 22 1 (.slice (some ⟨b, 0, none⟩) n c) n (nums .u32 l)) (hi : i < n) : W.cell? ⟨b, i, none⟩ = some (.int .u32 (l.getD i 0)) := by
  have hl := h.1
  unfold nums at hl
  rw [List.length_map] at hl
  have := h.cellAt i (by omega)
  rw [this]
  unfold nums
  have hi' : i < l.length := by omega
  rw [List.getElem?_map, List.getElem?_eq_getElem hi', List.getD_eq_getElem?_getD, List.getElem?_eq_getElem hi']
  rfl
theorem own_head {W : World} {base s n : Nat} {e : TypeId} {o : Value} {xs : List Value} (h : W.ownsRow base e s o n xs) (hn : 0 < n) : ∃ b c, o = .slice (some ⟨b, 0, none⟩) n c := by
  rcases h.2 with ⟨_, h0⟩ | ⟨b, c, cur, rfl, _⟩
  · omega
  · exact ⟨b, c, rfl⟩
set_option maxRecDepth 100000 in
set_option maxHeartbeats 4000000 in
theorem tkeeps_ok (A : Option Addr) (cap : Nat) (ys : List Int) (w : World) (hn : ys.length ≤ 60) (hy : ReadsInt w .u32 A ys.length ys) (hyb : ∀ x ∈ ys, 0 ≤ x ∧ x < 4294967296) :
    Calls Try.prog 5 #[.slice A ys.length cap] w fun e w' => e = .returned (.bool true) ∧ Below w.heap.size w w' := by
  have HY := Aside0.mk hy
  have HYB := Aside0.mk hyb
  clear hy hyb
  go_enter Try.func5, Try.ntmps5
  go_wp2_with (first
    | (go_at_call 12; (with_reducible refine (alive_call w).mono ?_); rintro e w0 ⟨rfl, hb0⟩; have B0 := Aside0.mk hb0; clear hb0)
    | (go_at_call 13; (with_reducible refine (tnew_call w0).mono ?_); rintro e w1 ⟨g, rfl, hr, hb⟩; have R1 := Aside0.mk (hr.lower B0.out.size); have B1 := Aside0.mk (below_step B0.out hb); clear hr hb)
    | (go_at_call 13; (with_reducible refine (tnew_call w1).mono ?_); rintro e w2 ⟨gu, rfl, hr, hb⟩; have U2 := Aside0.mk (hr.lower B1.out.size); have R2 := Aside0.mk (R1.out.then hb); have B2 := Aside0.mk (below_step B1.out hb); have NE := Aside0.mk (show gu ≠ g from fun e => by have := R1.out.lt; have := hr.2.1; omega); clear hr hb))
  have L0 : EInv w w2 g gu [] := ⟨B2.out, ⟨_, R2.out⟩, U2.out, NE.out, by simp⟩
  have LL := Aside0.mk L0
  clear L0 R1 R2 U2 B0 B1 B2 NE
  go_loopw [22] (fun i wr => ∃ (k : Nat) (ps : List (Int × Int)), k ≤ ys.length ∧ i = .int .i64 k ∧ Aside0 (EInv w wr g gu ps)) (fun i _ => ys.length - (intOf i).toNat)
  case atStart => exact ⟨0, [], Nat.zero_le _, rfl, LL⟩
  case round =>
    obtain ⟨k, ps, hk, rfl, LI⟩ := hrel
    clear LL
    obtain ⟨v, hv⟩ := LI.out.2.1
    have T0 := Aside0.mk hv
    clear hv
    by_cases hkn : k = ys.length
    · subst hkn
      have hl8 := T0.out.2.2.2
      go_wp2_with (first
        | (go_at_call 21; (with_reducible refine (pages_call _ _ _ _ _ T0.out).mono ?_); rintro e w2 ⟨A1, c1, rfl, ho, hb⟩; have B2 := Aside0.mk (below_step LI.out.1 hb); have T2 := Aside0.mk (T0.out.then hb); have U2 := Aside0.mk (LI.out.2.2.1.then hb); have O2 := Aside0.mk ho; clear ho hb))
      have K0 := Aside0.mk (show TwoInv w w2 g gu ps (.slice A1 ps.length c1) ps.length (((ps.map Prod.fst).take 0).map cmpl ++ (ps.map Prod.fst).drop 0) from ⟨B2.out, ⟨v, T2.out⟩, U2.out, own_less O2.out LI.out.1.size⟩)
      have hE := Aside0.mk LI.out.2.2.2.2
      clear T0 T2 U2 O2 B2 LI
      go_loopw [36] (fun i wr => ∃ k : Nat, k ≤ ps.length ∧ i = .int .i64 k ∧ Aside0 (TwoInv w wr g gu ps (.slice A1 ps.length c1) ps.length (((ps.map Prod.fst).take k).map cmpl ++ (ps.map Prod.fst).drop k))) (fun i _ => ps.length - (intOf i).toNat)
      case atStart => exact ⟨0, Nat.zero_le _, rfl, K0⟩
      case round =>
        obtain ⟨k, hk, rfl, KI⟩ := hrel
        clear K0
        by_cases hkn : k = ps.length
        · subst hkn
          have K1 := KI.out
          rw [List.take_of_length_le (by rw [List.length_map]; exact Nat.le_refl _), List.drop_eq_nil_of_le (by rw [List.length_map]; exact Nat.le_refl _), List.append_nil] at K1
          have K2 := Aside0.mk K1
          obtain ⟨v2, hv2⟩ := K1.2.1
          have T2 := Aside0.mk hv2
          clear KI K1 hv2
          go_wp2_with (first
            | (go_at_call 21; (with_reducible refine (pages_call _ _ _ _ _ T2.out).mono ?_); rintro e w3 ⟨A3, c3, rfl, ho, hb⟩; have K3 := Aside0.mk (K2.out.then hb); have O3 := Aside0.mk (own_less ho K2.out.1.size); clear ho hb))
          clear T2 K2
          go_loopw [51] (fun i wr => ∃ k : Nat, k ≤ ps.length ∧ i = .int .i64 k ∧ Aside0 (TwoInv w wr g gu ps (.slice A1 ps.length c1) ps.length ((ps.map Prod.fst).map cmpl)) ∧ Aside0 (wr.ownsRow w.heap.size 22 1 (.slice A3 ps.length c3) ps.length (nums .u32 (ps.map Prod.fst)))) (fun i _ => ps.length - (intOf i).toNat)
          case atStart => exact ⟨0, Nat.zero_le _, rfl, K3, O3⟩
          case round =>
            obtain ⟨k, hk, rfl, KI, OI⟩ := hrel
            clear K3 O3
            by_cases hkn : k = ps.length
            · subst hkn
              have U3 := Aside0.mk KI.out.2.2.1
              have h8i : ((ps.length : Int) ≤ 8) := by omega
              go_wp2_with (first
                | (go_at_call 21; (with_reducible refine (tpages_n _ _ _ 0 _ _ [] U3.out rfl rfl).mono ?_); rintro e w4 ⟨A4, c4, rfl, ho, hb⟩; have B4 := Aside0.mk (below_step KI.out.1 hb); clear ho hb))
              go_ret
              exact ⟨rfl, B4.out⟩
            · have hk' : k < ps.length := by omega
              obtain ⟨b1, c1', e1⟩ := own_head KI.out.2.2.2 (by omega)
              obtain ⟨b3, c3', e3⟩ := own_head OI.out (by omega)
              simp only [Value.slice.injEq, true_and] at e1 e3
              obtain ⟨rfl, rfl⟩ := e1
              obtain ⟨rfl, rfl⟩ := e3
              have cz := own_u32 KI.out.2.2.2 hk'
              have cp := own_u32 OI.out hk'
              generalize hp : (ps.map Prod.fst).getD k 0 = p at *
              obtain ⟨x1, x2, x3, x4⟩ := ent_plus ps hE.out k hk' p hp
              have hz : ((ps.map Prod.fst).map cmpl).getD k 0 = cmpl p := by
                rw [← hp, List.getD_eq_getElem?_getD, List.getElem?_map, List.getD_eq_getElem?_getD]
                rw [List.getElem?_eq_getElem (by rw [List.length_map]; exact hk')]
                rfl
              rw [hz] at cz
              have hcc := cmpl_back p x3 x4
              generalize hcp : cmpl p = z at *
              unfold cmpl at hcc
              obtain ⟨v2, hv2⟩ := KI.out.2.1
              have T2 := Aside0.mk hv2
              have HZ := Aside0.mk hz
              clear hv2 hp hz hcp x3 x4
              have X1 := Aside0.mk x1
              have X2 := Aside0.mk x2
              clear x1 x2
              go_wp2_with (first
                | (go_at_call 15; (with_reducible refine (get_call _ _ _ _ _ p T2.out).mono ?_); rintro e w4 ⟨rfl, hb⟩; rw [X1.out, X2.out]; have K4 := Aside0.mk (KI.out.then hb); have O4 := Aside0.mk (own_then OI.out hb); have cz4 := own_u32 K4.out.2.2.2 hk'; rw [HZ.out] at cz4; clear hb))
              go_roundw
              case rel => exact ⟨k + 1, by omega, rfl, K4, O4⟩
              case measure => simp [intOf]; omega
        · have hk' : k < ps.length := by omega
          obtain ⟨b1, c1', e1⟩ := own_head KI.out.2.2.2 (by omega)
          simp only [Value.slice.injEq, true_and] at e1
          obtain ⟨rfl, rfl⟩ := e1
          have cz := own_u32 KI.out.2.2.2 hk'
          have hf := KI.out.2.2.2.frozenAt k
          obtain ⟨s1, s2⟩ := turn_step (ps.map Prod.fst) cmpl k (by rw [List.length_map]; exact hk')
          rw [s1] at cz
          generalize (ps.map Prod.fst).getD k 0 = p at *
          have KP := KI.out.put k (cmpl p)
          rw [s2] at KP
          have KP' := Aside0.mk KP
          clear KP s1 s2
          go_wp2
          go_roundw
          case rel => exact ⟨k + 1, by omega, rfl, KP'⟩
          case measure => simp [intOf]; omega
    · have hk' : k < ys.length := by omega
      obtain ⟨ad, rfl, hc⟩ := HY.out.2.2 (by omega)
      have cy := (LI.out.1.cell (p := ad.add k) (World.block_lt_of_cell? w _ (hc k hk'))).trans (hc k hk')
      have hyk : 0 ≤ ys.getD k 0 ∧ ys.getD k 0 < 4294967296 := by
        rw [List.getD_eq_getElem?_getD, List.getElem?_eq_getElem hk']
        exact HYB.out _ (List.getElem_mem hk')
      clear hc
      generalize ys.getD k 0 = p at *
      have HYK := Aside0.mk hyk
      clear hyk
      go_wp2_with (first
        | (go_at_call 14; (with_reducible refine (put_call _ _ _ _ _ _ _ T0.out).mono ?_); rintro e w1 ⟨rfl, v1, hr, hk1, hv1⟩; have T1 := Aside0.mk hr; have B1 := Aside0.mk (hk1.below LI.out.1 T0.out.2.1 (fun b hb => (T0.out.row b hb).1)); have U1 := Aside0.mk (LI.out.2.2.1.other T0.out hk1 LI.out.2.2.2.1 (ne_nil' _)); clear hr hk1 hv1))
      go_roundw
      case rel =>
        refine ⟨k + 1, putP p ((p + 1) % 4294967296) ps, by omega, rfl, ⟨B1.out, ⟨v1, T1.out⟩, U1.out, LI.out.2.2.2.1, fun q hq => ?_⟩⟩
        rcases putP_mem _ _ _ _ hq with hq | rfl
        · exact LI.out.2.2.2.2 q hq
        · exact ⟨rfl, HYK.out⟩
      case measure => simp [intOf]; omega
theorem TlbKeeps_walk (a0 : Option Addr) (len0 cap0 : Nat) (z0 : List Int) (w : World) (w0 : IsRow .u32 w a0 len0 cap0 z0) (_ : len0 * 4 ≤ 140737488351232) :
    Calls Try.prog 5 #[.slice a0 len0 cap0] w fun e w' => e = .returned (.bool true) ∧ Below w.heap.size w w' := by
  obtain ⟨l, rfl, hr, hm, hw, hc⟩ := ReadsInt.ofRowC w0
  by_cases h : 60 < l.length
  · exact tkeeps_long a0 l.length cap0 w h
  · exact tkeeps_ok a0 cap0 l w (by omega) hr (fun x hx => by obtain ⟨n, rfl, hn⟩ := u32_nat (hw x hx); omega)
end Go.Proofs.Ytocjadgakalbdaa.TlbWalk
