/- Rom: the document's Encode, walked. -/
import Derived.Test.YtnljnccfpkpgfaaDoorRomJ
namespace Go.Proofs.YtnljnccfpkpgfaaDoor.RomWalk
open Go.RowKit Go.Proofs.YtnljnccfpkpgfaaDoor.Aid Go.Proofs.YtnljnccfpkpgfaaDoorW.PrintWords Go.Proofs.YtnljnccfpkpgfaaDoorW.PrintLast Go.Proofs.YtnljnccfpkpgfaaDoorW.PrintMore
attribute [local go_sem] max2_int min2_int max_two min_two max_three min_three max_four min_four   -- for this text's walks alone
set_option linter.unusedVariables false
set_option linter.unusedSimpArgs false
theorem rbytes_q (w : World) (x k : Nat) (q : Int) (hq : (k : Int) = q) (hx : x < 18446744073709551616) (hk : k ≤ 8) :
    Calls Tryd.prog 22 #[.int .u64 (x : Int), .int .i64 q] w fun e w' => ∃ A c, e = .returned (.slice A k c) ∧ ReadsInt w' .u8 A k (putS x k) ∧ Below w.heap.size w w' := by
  subst hq
  refine (rbytes_call w x k hx hk).mono ?_
  rintro e w' ⟨A, c, rfl, h, b⟩
  exact ⟨A, c, rfl, own_reads' h, b⟩
set_option maxRecDepth 100000 in
set_option maxHeartbeats 4000000 in
theorem rencode_bad (w : World) (A : Option Addr) (n c : Nat) (B : Option Addr) (m d : Nat) (ws : List Int) (es : Ents) (h : RomIn w A n c B m d ws es) (hg : goodS ws es = false) :
    Calls Tryd.prog 11 #[.agg #[.slice A n c, .slice B m d]] w fun e w' => e = .returned (.tuple #[.slice none 0 0, .bool false]) ∧ Below w.heap.size w w' := by
  have BX := below_alloc (Below.refl w.heap.size w) (.cells #[.slice A n c, .slice B m d] 25 (0, 0))
  have GC := Aside0.mk (hg ▸ rgood_call _ A n c B m d ws es (h.then (below_alloc (Below.refl w.heap.size w) (.cells #[.slice A n c, .slice B m d] 25 (0, 0)))))
  have HB := Aside0.mk BX
  clear h BX hg
  go_enter Tryd.func11, Tryd.ntmps11
  go_wp2_with (first
    | (go_at_call 19; (with_reducible refine (GC.out).mono ?_); rintro e w1 ⟨rfl, hb⟩; have B1 := Aside0.mk (below_step HB.out hb); clear hb))
  go_ret2
  exact ⟨rfl, B1.out⟩
set_option maxRecDepth 100000 in
set_option maxHeartbeats 8000000 in
theorem rencode_ok (w : World) (A : Option Addr) (n c : Nat) (B : Option Addr) (m d : Nat) (ws : List Int) (es : Ents) (hwr : WR ws) (h : RomIn w A n c B m d ws es) (hg : goodS ws es = true) :
    Calls Tryd.prog 11 #[.agg #[.slice A n c, .slice B m d]] w fun e w' => ∃ A' m' c', e = .returned (.tuple #[.slice A' m' c', .bool true]) ∧ Aside0 ((encS ws es).length = m') ∧ w'.ownsRow w.heap.size 5 1 (.slice A' m' c') m' (nums .u8 (encS ws es)) ∧ Below w.heap.size w w' := by
  have hn := h.words.1
  have hm := h.ents.len
  obtain ⟨g1, g2, g3⟩ := good_parts hg
  have hn2 : n ≤ 2048 := by omega
  have hm2 : m ≤ 255 := by omega
  have hwn : IntKind.u64.wrap (n : Int) = n := by rw [IntKind.wrap_u64]; omega
  have hwm : (m : Int) % 256 = m := by omega
  have BX := below_alloc (Below.refl w.heap.size w) (.cells #[.slice A n c, .slice B m d] 25 (0, 0))
  have XB := heap_alloc_new w (.cells #[.slice A n c, .slice B m d] 25 (0, 0))
  have R0 := Aside0.mk (h.then BX)
  have GC := Aside0.mk (hg ▸ rgood_call _ A n c B m d ws es (h.then (below_alloc (Below.refl w.heap.size w) (.cells #[.slice A n c, .slice B m d] 25 (0, 0)))))
  obtain ⟨W, hW⟩ : ∃ W, w.alloc (.cells #[.slice A n c, .slice B m d] 25 (0, 0)) = W := ⟨_, rfl⟩
  rw [hW] at BX XB R0 GC
  have HBX := Aside0.mk BX
  have c0 := cell_of_row _ _ 0 _ _ _ XB
  have c1 := cell_of_row _ _ 1 _ _ _ XB
  simp only [List.getElem?_toArray, List.getElem?_cons_zero, List.getElem?_cons_succ] at c0 c1
  have HC := Aside0.mk (fun (W' : World) (b : Below W.heap.size W W') => (⟨(b.cell (p := ⟨w.heap.size, 0, none⟩) (Array.getElem?_eq_some_iff.1 XB).1).trans c0, (b.cell (p := ⟨w.heap.size, 1, none⟩) (Array.getElem?_eq_some_iff.1 XB).1).trans c1⟩ : W'.cell? ⟨w.heap.size, 0, none⟩ = some (.slice A n c) ∧ W'.cell? ⟨w.heap.size, 1, none⟩ = some (.slice B m d)))
  have GS := Aside0.mk (good_size hg)
  have G := Aside0.mk hg
  have WRA := Aside0.mk hwr
  clear h BX XB hg hwr g3
  go_enter Tryd.func11, Tryd.ntmps11
  go_wp2_with (first
    | (go_at_call 19; (with_reducible refine (GC.out).mono ?_); rintro e w1 ⟨rfl, hb⟩; have B1 := Aside0.mk hb; have B2 := Aside0.mk (below_alloc hb (.cells #[.int .u8 67, .int .u8 65, .int .u8 77, .int .u8 82] 5 (0, 0))); have O2 := Aside0.mk (World.ownsRow_lit (base := W.heap.size) (e := 5) (size := 1) w1 #[.int .u8 67, .int .u8 65, .int .u8 77, .int .u8 82] 4 hb.size (by decide) rfl); obtain ⟨d0, d1⟩ := HC.out _ B2.out; clear hb)
    | (go_at_call 22; (with_reducible refine (rbytes_q _ n 2 2 rfl (by omega) (by decide)).mono ?_); rintro e w3 ⟨A3, c3, rfl, hr3, hb3⟩; have B3 := Aside0.mk (below_step B2.out hb3); have R3 := Aside0.mk hr3; have O3 := Aside0.mk (own_then O2.out hb3); obtain ⟨e0, e1⟩ := HC.out _ B3.out; clear hr3 hb3)
    | (at_builtin; refine print_append_row (w0 := W) W.heap.size rfl (.tmp 13) (.tmp 18) 28 5 .u8 1 rfl Tryd.underlying28 info5 (by decide) (.slice (some ⟨w1.heap.size, 0, none⟩) 4 4) [67, 65, 77, 82] (putS n 2) A3 2 c3 (by simp [Act.eval]) (by simp [Act.eval]) O3.out R3.out B3.out B3.out.size (by simp) ?_; intro o4 w4 ho4 hb4 hg4 hat4; have O4 := Aside0.mk ho4; have B4 := Aside0.mk hb4; obtain ⟨f0, f1⟩ := HC.out _ B4.out; clear ho4 hb4 hg4 hat4)
    | (at_builtin; refine print_append_num (w0 := W) W.heap.size rfl (.tmp 20) (.tmp 25) 28 5 .u8 1 rfl Tryd.underlying28 info5 (by decide) o4 ([67, 65, 77, 82] ++ putS n 2) ((m : Int)) (by simp [Act.eval]) (by simp [Act.eval]) O4.out B4.out B4.out.size (by simp [putS_length]) ?_; intro o5 w5 ho5 hb5 hg5 hat5; have O5 := Aside0.mk ho5; have B5 := Aside0.mk hb5; obtain ⟨k0, k1⟩ := HC.out _ B5.out; clear ho5 hb5 hg5 hat5))
  have eH : [67, 65, 77, 82] ++ putS (n : Int) 2 ++ [(m : Int)] = hdrS n m := by
    unfold hdrS
    rw [List.append_assoc, show putS (m : Int) 1 = [(m : Int) % 256] from rfl, hwm]
  rw [eH] at O5
  have oL := O5.out
  rw [hdr_len] at oL
  obtain ⟨A5, c5, rfl⟩ := own_val oL
  have O6 := Aside0.mk oL
  clear eH oL
  go_loopw [4, 30] (fun b i wr => ∃ j : Nat, j ≤ n ∧ i = .int .i64 j ∧ Aside0 (Below W.heap.size W wr) ∧ Aside0 (wr.ownsRow W.heap.size 5 1 b (hdrS n m ++ wrdS (ws.take j)).length (nums .u8 (hdrS n m ++ wrdS (ws.take j))))) (fun _ i _ => n - (intOf i).toNat)
  case atStart => exact ⟨0, Nat.zero_le _, rfl, B5, ⟨by rw [show wrdS (ws.take 0) = [] from rfl, List.append_nil, hdr_len]; exact O6.out⟩⟩
  case round =>
    obtain ⟨j, hj, rfl, B7, O7⟩ := hrel
    have HL4 : Aside0 ((hdrS n m ++ wrdS (ws.take j)).length = 7 + 8 * j) := ⟨by rw [List.length_append, hdr_len, wrd_len, List.length_take]; omega⟩
    obtain ⟨X, hX⟩ : ∃ X, hdrS n m ++ wrdS (ws.take j) = X := ⟨_, rfl⟩
    rw [hX] at O7 HL4
    have HX := Aside0.mk hX
    clear hX
    obtain ⟨A4, c4, rfl⟩ := own_val O7.out
    by_cases hjn : j < n
    · have HJ := Aside0.mk hjn
      have HXJ := Aside0.mk (wrd_next ws j (by omega))
      obtain ⟨ad, rfl, hcl⟩ := (R0.out.words.below B7.out).2.2 (by omega)
      have cj := hcl j hjn
      have hxb := WRA.out (ws.getD j 0) (by rw [List.getD_eq_getElem?_getD, List.getElem?_eq_getElem (by omega)]; exact List.getElem_mem _)
      obtain ⟨x, hx⟩ := Int.eq_ofNat_of_zero_le hxb.1
      rw [hx] at cj
      have HX2 := Aside0.mk hx
      have hx1 : x < 18446744073709551616 := by omega
      clear hcl hxb hx
      go_wp2_with (first
        | (go_at_call 22; (with_reducible refine (rbytes_q _ x 8 8 rfl (by omega) (by decide)).mono ?_); rintro e w8 ⟨A8, c8, rfl, hr8, hb8⟩; have B8 := Aside0.mk (below_step B7.out hb8); have R8 := Aside0.mk hr8; have O8 := Aside0.mk (own_then O7.out hb8); clear hr8 hb8)
        | (at_builtin; refine print_append_row (w0 := W) W.heap.size rfl (.tmp 34) (.tmp 36) 28 5 .u8 1 rfl Tryd.underlying28 info5 (by decide) (.slice A4 X.length c4) X (putS x 8) A8 8 c8 (by simp [Act.eval]) (by simp [Act.eval]) O8.out R8.out B8.out B8.out.size (by rw [HL4.out]; omega) ?_; intro o9 w9 ho9 hb9 hg9 hat9; have O9 := Aside0.mk ho9; have B9 := Aside0.mk hb9; clear ho9 hb9 hg9 hat9))
      go_roundw
      case rel => exact ⟨j + 1, HJ.out, by go_num, B9, ⟨by rw [HXJ.out, HX2.out, ← List.append_assoc, HX.out]; exact O9.out⟩⟩
      case measure => have := HJ.out; simp [intOf]; omega
    · obtain hjn : j = n := by omega
      have e6 : X = hdrS n m ++ wrdS ws := by rw [← HX.out, List.take_of_length_le (by omega)]
      subst hjn
      subst e6
      obtain ⟨f2, f3⟩ := HC.out _ B7.out
      go_wp2_with fail
      go_loopw [4, 42] (fun b i wr => ∃ k : Nat, k ≤ m ∧ i = .int .i64 k ∧ Aside0 (Below W.heap.size W wr) ∧ Aside0 (wr.ownsRow W.heap.size 5 1 b (hdrS j m ++ wrdS ws ++ entsS (es.take k)).length (nums .u8 (hdrS j m ++ wrdS ws ++ entsS (es.take k))))) (fun _ i _ => m - (intOf i).toNat)
      case atStart => exact ⟨0, Nat.zero_le _, rfl, B7, ⟨by rw [show entsS (es.take 0) = [] from rfl, List.append_nil]; exact O7.out⟩⟩
      case round =>
        obtain ⟨k, hk, rfl, BK5, OK5⟩ := hrel
        obtain ⟨X, hX⟩ : ∃ X, hdrS j m ++ wrdS ws ++ entsS (es.take k) = X := ⟨_, rfl⟩
        have hL2 : X.length ≤ 7 + 8 * 2048 + 27 * 255 := by
          rw [← hX, List.length_append, HL4.out]
          have := ents_len (es.take k) (fun e he => GS.out e (List.mem_of_mem_take he))
          rw [List.length_take] at this
          omega
        rw [hX] at OK5
        have HX := Aside0.mk hX
        clear hX
        obtain ⟨A5, c5, rfl⟩ := own_val OK5.out
        by_cases hkm : k < m
        · have hk1 : (k : Int) < m := by omega
          have HK := Aside0.mk hkm
          have HXK := Aside0.mk (ent_next es k (by omega))
          obtain ⟨b, off, rfl, hbl, hcl⟩ := (R0.out.then BK5.out).ents.cells (by omega)
          obtain ⟨e0, e1⟩ := hcl k hkm
          have ok := (good_parts G.out).2.2 k (by omega)
          rw [okE_eq] at ok
          have hsz := GS.out (es.getD k default) (by rw [List.getD_eq_getElem?_getD, List.getElem?_eq_getElem (by omega)]; exact List.getElem_mem _)
          have HE : Aside0 (es.getD k default = ((es.getD k default).1, (es.getD k default).2)) := ⟨rfl⟩
          obtain ⟨nm, hnm⟩ : ∃ nm, (es.getD k default).1 = nm := ⟨_, rfl⟩
          obtain ⟨at_, hat⟩ : ∃ at_, (es.getD k default).2 = at_ := ⟨_, rfl⟩
          rw [hnm, hat] at HE ok
          rw [hnm] at e0 hsz
          rw [hat] at e1
          simp only [Bool.and_eq_true, decide_eq_true_eq] at ok
          obtain ⟨x, hx⟩ := Int.eq_ofNat_of_zero_le ok.1.1.2
          have hx1 : x < 2048 := by have := ok.1.2; omega
          subst hx
          have hws : (nm.size : Int) % 256 = nm.size := by omega
          have HSZ := Aside0.mk hsz
          have hwx : IntKind.u64.wrap (x : Int) = x := by rw [IntKind.wrap_u64]; omega
          clear hcl ok hnm hat
          have bl := below_alloc BK5.out (.cells #[.string nm, .int .i64 x] 38 (0, 0))
          have hX2 := heap_alloc_new wr (.cells #[.string nm, .int .i64 x] 38 (0, 0))
          have o2 := own_then OK5.out (below_alloc (Below.refl _ _) (.cells #[.string nm, .int .i64 x] 38 (0, 0)))
          obtain ⟨W2, hW2⟩ : ∃ W2, wr.alloc (.cells #[.string nm, .int .i64 x] 38 (0, 0)) = W2 := ⟨_, rfl⟩
          rw [hW2] at bl hX2 o2
          have g0 := cell_of_row _ _ 0 _ _ _ hX2
          have g1' := cell_of_row _ _ 1 _ _ _ hX2
          simp only [List.getElem?_toArray, List.getElem?_cons_zero, List.getElem?_cons_succ] at g0 g1'
          have BL := Aside0.mk bl
          have O6 := Aside0.mk o2
          have HC2 := Aside0.mk (fun (W' : World) (kn : KeepN W2 W') => (⟨(cell_of_row _ _ 0 _ _ _ (kn _ _ _ _ hX2 (by decide))), (cell_of_row _ _ 1 _ _ _ (kn _ _ _ _ hX2 (by decide)))⟩ : W'.cell? ⟨wr.heap.size, 0, none⟩ = some (.string nm) ∧ W'.cell? ⟨wr.heap.size, 1, none⟩ = some (.int .i64 x)))
          clear bl hX2 o2
          have kb := fun W => print_bytes (P := Tryd.prog) 9 28 5 Tryd.underlying9 Tryd.underlying28 Tryd.underlying5 nm W
          go_wp2_with (first
            | (at_builtin; refine print_append_num (w0 := W) W.heap.size rfl (.tmp 46) (.tmp 51) 28 5 .u8 1 rfl Tryd.underlying28 info5 (by decide) (.slice A5 X.length c5) X (nm.size : Int) (by simp [Act.eval]) (by simp [Act.eval]) O6.out BL.out BL.out.size (by omega) ?_; intro o7 w7 ho7 hb7 hg7 hat7; have K7 := Aside0.mk ((KeepN.refl W2).grown O6.out hg7); have B8 := Aside0.mk (bytes_below hb7 hb7.size 5 nm); have O8 := Aside0.mk (own_then ho7 (bytes_below (Below.refl _ _) (Nat.le_refl _) 5 nm)); have R8 := Aside0.mk (bytes_reads w7 5 nm (by have := HSZ.out; omega)); have K8 := Aside0.mk (K7.out.below (bytes_below (Below.refl _ _) (Nat.le_refl _) 5 nm)); obtain ⟨p0, p1⟩ := HC2.out _ K7.out; clear ho7 hb7 hg7 hat7)
            | (at_builtin; refine print_append_row (w0 := W) W.heap.size rfl (.tmp 53) (.tmp 56) 28 5 .u8 1 rfl Tryd.underlying28 info5 (by decide) o7 (X ++ [(nm.size : Int)]) (bytesOf nm) (some ⟨w7.heap.size, 0, none⟩) nm.size (grownCap w7 nm.size 0 5) (by simp [Act.eval]) (by simp [Act.eval]) O8.out R8.out B8.out B8.out.size (by have := HSZ.out; simp; omega) ?_; intro o9 w9 ho9 hb9 hg9 hat9; have B9 := Aside0.mk hb9; have O9 := Aside0.mk ho9; obtain ⟨q0, q1⟩ := HC2.out _ (K8.out.grown O8.out hg9); clear ho9 hb9 hg9 hat9)
            | (go_at_call 22; (with_reducible refine (rbytes_q _ x 2 2 rfl (by omega) (by decide)).mono ?_); rintro e w10 ⟨A10, c10, rfl, hr10, hb10⟩; have B10 := Aside0.mk (below_step B9.out hb10); have R10 := Aside0.mk hr10; have O10 := Aside0.mk (own_then O9.out hb10); clear hr10 hb10)
            | (at_builtin; refine print_append_row (w0 := W) W.heap.size rfl (.tmp 58) (.tmp 62) 28 5 .u8 1 rfl Tryd.underlying28 info5 (by decide) o9 (X ++ [(nm.size : Int)] ++ bytesOf nm) (putS x 2) A10 2 c10 (by simp [Act.eval]) (by simp [Act.eval]) O10.out R10.out B10.out B10.out.size (by have := HSZ.out; simp [bytesOf_length]; omega) ?_; intro o11 w11 ho11 hb11 hg11 hat11; have B11 := Aside0.mk hb11; have O11 := Aside0.mk ho11; clear ho11 hb11 hg11 hat11))
          have O12 := O11.out
          have e9 : X ++ [(nm.size : Int)] ++ bytesOf nm ++ putS (x : Int) 2 = X ++ entS (nm, (x : Int)) := by
            unfold entS
            rw [List.append_assoc, List.append_assoc, show putS (nm.size : Int) 1 = [(nm.size : Int) % 256] from rfl, hws]
            rfl
          rw [e9] at O12
          have O12 := Aside0.mk O12
          clear e9
          go_roundw
          case rel => exact ⟨k + 1, HK.out, by go_num, B11, ⟨by rw [HXK.out, ← List.append_assoc, HX.out, HE.out]; exact O12.out⟩⟩
          case measure => have := HK.out; simp [intOf]; omega
        · have e6 : X = bodyS ws es := by rw [← HX.out, List.take_of_length_le (by omega), body_eq, hn, hm]
          subst e6
          have HD := Aside0.mk (own_reads' OK5.out)
          have HBY : Aside0 (Bys (bodyS ws es)) := ⟨fun y hy => encS_bys ws es y (List.mem_append_left _ hy)⟩
          have sb := sumS_bnd (bodyS ws es)
          obtain ⟨S, hS⟩ := Int.eq_ofNat_of_zero_le sb.1
          have hS1 : S < 18446744073709551616 := by omega
          have SC := Aside0.mk (fun w' c (r : ReadsInt w' .u8 A5 (bodyS ws es).length (bodyS ws es)) => hS ▸ check_call w' A5 (bodyS ws es).length c (bodyS ws es) HBY.out r)
          have HS := Aside0.mk hS
          clear sb hS
          have hkm : k = m := by omega
          subst hkm
          go_wp2_with (first
            | (go_at_call 23; (with_reducible refine (SC.out _ _ HD.out).mono ?_); rintro e w6 ⟨rfl, rfl⟩)
            | (go_at_call 22; (with_reducible refine (rbytes_q _ S 4 4 rfl (by omega) (by decide)).mono ?_); rintro e w8 ⟨A8, c8, rfl, hr8, hb8⟩; have B8 := Aside0.mk (below_step BK5.out hb8); have R8 := Aside0.mk hr8; have O8 := Aside0.mk (own_then OK5.out hb8); clear hr8 hb8)
            | (at_builtin; refine print_append_row (w0 := W) W.heap.size rfl (.tmp 65) (.tmp 68) 28 5 .u8 1 rfl Tryd.underlying28 info5 (by decide) (.slice A5 (bodyS ws es).length c5) (bodyS ws es) (putS S 4) A8 4 c8 (by simp [Act.eval]) (by simp [Act.eval]) O8.out R8.out B8.out B8.out.size (by omega) ?_; intro o9 w9 ho9 hb9 hg9 hat9; have B9 := Aside0.mk hb9; obtain ⟨A9, c9, rfl⟩ := own_val ho9; have O9 := Aside0.mk ho9; clear ho9 hb9 hg9 hat9))
          go_ret2
          have e7 : encS ws es = bodyS ws es ++ putS (S : Int) 4 := by unfold encS; rw [HS.out]
          rw [e7]
          have o9 := O9.out
          rw [List.length_append] at o9
          exact ⟨A9, _, c9, rfl, ⟨List.length_append⟩, own_lower o9 HBX.out.size, below_step HBX.out B9.out⟩
end Go.Proofs.YtnljnccfpkpgfaaDoor.RomWalk
