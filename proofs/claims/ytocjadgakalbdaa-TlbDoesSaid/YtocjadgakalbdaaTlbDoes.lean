/- In every script each answer, and the pages, are the document's; a nil buffer: the walk of TlbDoes. -/
import Derived.Test.YtocjadgakalbdaaTlbJ
import Derived.Test.YtocjadgakalbdaaRows3
namespace Go.Proofs.Ytocjadgakalbdaa.TlbWalk
open Go.RowKit Go.Proofs.Ytocjadgakalbdaa.Aid Go.Proofs.YtocjadgakalbdaaW.PrintWords Go.Proofs.YtocjadgakalbdaaW.PrintLast Go.Proofs.YtocjadgakalbdaaW.PrintMore
attribute [local go_sem] max2_int min2_int max_two min_two max_three min_three max_four min_four   -- for this text's walks alone
set_option linter.unusedVariables false
set_option linter.unusedSimpArgs false

theorem dropR_none (page : Int) : ∀ ps : List (Int × Int), (∀ q ∈ ps, q.1 ≠ page) → dropR page ps = ps
  | [], _ => rfl
  | q :: ps, h => by
    have h0 := h q List.mem_cons_self
    have := dropR_none page ps (fun x hx => h x (List.mem_cons_of_mem _ hx))
    unfold dropR at this ⊢
    rw [List.filter_cons_of_pos (p := fun q : Int × Int => decide (q.1 ≠ page)) (decide_eq_true h0), this]
theorem dropR_cons (q : Int × Int) (ps : List (Int × Int)) (h : ((q :: ps).map Prod.fst).Nodup) : dropR q.1 (q :: ps) = ps := by
  have hn : ∀ x ∈ ps, x.1 ≠ q.1 := by
    intro x hx he
    rw [List.map_cons, List.nodup_cons] at h
    exact h.1 (he ▸ List.mem_map_of_mem hx)
  have := dropR_none q.1 ps hn
  unfold dropR at this ⊢
  rw [List.filter_cons_of_neg (by simp), this]
theorem drop_eq (page : Int) : ∀ ps : List (Int × Int), (ps.map Prod.fst).Nodup → dropP page ps = dropR page ps
  | [], _ => rfl
  | q :: ps, h => by
    by_cases hq : q.1 = page
    · subst hq
      rw [dropR_cons q ps h]
      unfold dropP posP
      rw [if_pos rfl, if_pos (by simp)]
      rfl
    · have ih := drop_eq page ps (by rw [List.map_cons, List.nodup_cons] at h; exact h.2)
      have e : dropR page (q :: ps) = q :: dropR page ps := by
        unfold dropR
        rw [List.filter_cons_of_pos (p := fun q : Int × Int => decide (q.1 ≠ page)) (decide_eq_true hq)]
      rw [e, ← ih]
      unfold dropP
      rw [posP, if_neg hq, List.length_cons]
      by_cases hl : posP page ps < ps.length
      · rw [if_pos hl, if_pos (by omega), List.take_succ_cons, List.drop_succ_cons]
        rfl
      · rw [if_neg hl, if_neg (by omega)]
theorem dropR_nodup (page : Int) (ps : List (Int × Int)) (h : (ps.map Prod.fst).Nodup) : ((dropR page ps).map Prod.fst).Nodup := by
  unfold dropR
  exact h.sublist (List.Sublist.map _ List.filter_sublist)

def Keep56 (w w' : World) : Prop := ∀ (b : Nat) (cs : Array Value) (fr : Nat × Nat), w.heap[b]? = some (Obj.cells cs 56 fr) → w'.heap[b]? = some (Obj.cells cs 56 fr)
theorem Keep56.t {w w' : World} (h : KeepTy w w') : Keep56 w w' := fun b cs fr hb => h b cs _ fr hb (by decide) (by decide)
theorem Keep56.r {w w' : World} (h : KeepR w w') : Keep56 w w' := fun b cs fr hb => h b cs _ fr hb (by decide) (by decide)
theorem Keep56.b {w w' : World} (h : Below w.heap.size w w') : Keep56 w w' := fun b cs fr hb => (h.block b (Array.getElem?_eq_some_iff.1 hb).1).trans hb
theorem own_ty {w w' : World} {base e s n : Nat} {o : Value} {xs : List Value} (h : w.ownsRow base e s o n xs) (k : ∀ (b : Nat) (cs : Array Value), w.heap[b]? = some (Obj.cells cs e (0, 0)) → w'.heap[b]? = some (Obj.cells cs e (0, 0))) : w'.ownsRow base e s o n xs := by
  refine ⟨h.1, ?_⟩
  rcases h.2 with h' | ⟨b, c, cur, rfl, hb, hh, r⟩
  · exact .inl h'
  · exact .inr ⟨b, c, cur, rfl, hb, k b cur hh, r⟩
theorem RefAt.keepTy {w w' : World} {base g : Nat} {vp ve : Value} {ps : List (Int × Int)} (h : RefAt w base g vp ve ps) (k : KeepTy w w') : RefAt w' base g vp ve ps :=
  ⟨k _ _ _ _ h.1 (by decide) (by decide), h.2.1, own_ty h.2.2.1 (fun b cs hb => k b cs _ _ hb (by decide) (by decide)), own_ty h.2.2.2.1 (fun b cs hb => k b cs _ _ hb (by decide) (by decide)), h.2.2.2.2⟩
theorem TlbAt.keepR {w w' : World} {base g : Nat} {v : Value} {ps : List (Int × Int)} (h : TlbAt w base g v ps) (k : KeepR w w') : TlbAt w' base g v ps :=
  ⟨k _ _ _ _ h.1 (by decide) (by decide), h.2.1, own_ty h.2.2.1 (fun b cs hb => k b cs _ _ hb (by decide) (by decide)), h.2.2.2⟩
/-- The buffer and the document's. -/
def Duo (w wr : World) (g gm : Nat) (ps qs : List (Int × Int)) : Prop := Below w.heap.size w wr ∧ (∃ v, TlbAt wr w.heap.size g v ps) ∧ ∃ vp ve, RefAt wr w.heap.size gm vp ve qs
theorem Duo.then {w wr wr' : World} {g gm : Nat} {ps qs : List (Int × Int)} (h : Duo w wr g gm ps qs) (hb : Below wr.heap.size wr wr') : Duo w wr' g gm ps qs := by
  obtain ⟨h1, ⟨v, h2⟩, vp, ve, h3⟩ := h
  exact ⟨below_step h1 hb, ⟨v, h2.then hb⟩, vp, ve, h3.then hb⟩
theorem d_tput (w wr : World) (g gm : Nat) (ps qs : List (Int × Int)) (page entry : Int) (h : Duo w wr g gm ps qs) :
    Calls Try.prog 14 #[.pointer (some ⟨g, 0, none⟩), .int .u32 page, .int .u32 entry] wr fun e w' => e = .returned (.tuple #[]) ∧ Duo w w' g gm (putP page entry ps) qs ∧ Keep56 wr w' := by
  obtain ⟨h1, ⟨v, h2⟩, vp, ve, h3⟩ := h
  exact (put_call wr _ g v ps page entry h2).mono fun e w' ⟨he, v', ht, k, hv⟩ => ⟨he, ⟨k.below h1 h2.2.1 (fun b hb => (h2.row b hb).1), ⟨v', ht⟩, vp, ve, h3.keepTy (KeepTy.of h2 k)⟩, Keep56.t (KeepTy.of h2 k)⟩
theorem d_tdrop (w wr : World) (g gm : Nat) (ps qs : List (Int × Int)) (page : Int) (h : Duo w wr g gm ps qs) :
    Calls Try.prog 25 #[.pointer (some ⟨g, 0, none⟩), .int .u32 page] wr fun e w' => e = .returned (.tuple #[]) ∧ Duo w w' g gm (dropP page ps) qs ∧ Keep56 wr w' := by
  obtain ⟨h1, ⟨v, h2⟩, vp, ve, h3⟩ := h
  exact (drop_call wr _ g v ps page h2).mono fun e w' ⟨he, v', ht, k, hv⟩ => ⟨he, ⟨k.below h1 h2.2.1 (fun b hb => (h2.row b hb).1), ⟨v', ht⟩, vp, ve, h3.keepTy (KeepTy.of h2 k)⟩, Keep56.t (KeepTy.of h2 k)⟩
theorem d_tclear (w wr : World) (g gm : Nat) (ps qs : List (Int × Int)) (h : Duo w wr g gm ps qs) :
    Calls Try.prog 29 #[.pointer (some ⟨g, 0, none⟩)] wr fun e w' => e = .returned (.tuple #[]) ∧ Duo w w' g gm [] qs ∧ Keep56 wr w' := by
  obtain ⟨h1, ⟨v, h2⟩, vp, ve, h3⟩ := h
  exact (clear_call wr _ g v ps h2).mono fun e w' ⟨he, ht, k⟩ => ⟨he, ⟨k.below h1 h2.2.1 (fun b hb => (h2.row b hb).1), ⟨_, ht⟩, vp, ve, h3.keepTy (KeepTy.of h2 k)⟩, Keep56.t (KeepTy.of h2 k)⟩
theorem d_tget (w wr : World) (g gm : Nat) (ps qs : List (Int × Int)) (page : Int) (h : Duo w wr g gm ps qs) :
    Calls Try.prog 15 #[.pointer (some ⟨g, 0, none⟩), .int .u32 page] wr fun e w' => e = .returned (.tuple #[.int .u32 (entP page ps), .bool (decide (posP page ps < ps.length))]) ∧ Duo w w' g gm ps qs ∧ Keep56 wr w' := by
  obtain ⟨v, h2⟩ := h.2.1
  exact (get_call wr _ g v ps page h2).mono fun e w' ⟨he, hb⟩ => ⟨he, h.then hb, Keep56.b hb⟩
theorem d_mput (w wr : World) (g gm : Nat) (ps qs : List (Int × Int)) (page entry : Int) (h : Duo w wr g gm ps qs) (hn : (qs.map Prod.fst).Nodup) :
    Calls Try.prog 27 #[.pointer (some ⟨gm, 0, none⟩), .int .u32 page, .int .u32 entry] wr fun e w' => e = .returned (.tuple #[]) ∧ Duo w w' g gm ps (putP page entry qs) ∧ Keep56 wr w' := by
  obtain ⟨h1, ⟨v, h2⟩, vp, ve, h3⟩ := h
  have fin : Calls Try.prog 27 #[.pointer (some ⟨gm, 0, none⟩), .int .u32 page, .int .u32 entry] wr fun e w' => e = .returned (.tuple #[]) ∧ Below w.heap.size w w' ∧ (∃ vp' ve', RefAt w' w.heap.size gm vp' ve' (putP page entry qs)) ∧ KeepR wr w' := by
    by_cases hp : posP page qs < qs.length
    · exact rput_yes w wr gm vp ve qs page entry h1 h3 hp
    · by_cases h8 : qs.length = 8
      · refine rput_full w wr gm vp ve qs page entry h1 h3 hp h8 ?_
        match qs, h8 with
        | q :: qs', _ => exact dropR_cons q qs' hn
      · exact rput_add w wr gm vp ve qs page entry h1 h3 hp h8
  exact fin.mono fun e w' ⟨he, hb, hr, k⟩ => ⟨he, ⟨hb, ⟨v, h2.keepR k⟩, hr⟩, Keep56.r k⟩
theorem d_mdrop (w wr : World) (g gm : Nat) (ps qs : List (Int × Int)) (page : Int) (h : Duo w wr g gm ps qs) (hn : (qs.map Prod.fst).Nodup) :
    Calls Try.prog 28 #[.pointer (some ⟨gm, 0, none⟩), .int .u32 page] wr fun e w' => e = .returned (.tuple #[]) ∧ Duo w w' g gm ps (dropP page qs) ∧ Keep56 wr w' := by
  obtain ⟨h1, ⟨v, h2⟩, vp, ve, h3⟩ := h
  rw [drop_eq page qs hn]
  exact (rdrop_call w wr gm vp ve qs page h1 h3).mono fun e w' ⟨he, hb, hr, k⟩ => ⟨he, ⟨hb, ⟨v, h2.keepR k⟩, hr⟩, Keep56.r k⟩
theorem d_mclear (w wr : World) (g gm : Nat) (ps qs : List (Int × Int)) (h : Duo w wr g gm ps qs) :
    Calls Try.prog 30 #[.pointer (some ⟨gm, 0, none⟩)] wr fun e w' => e = .returned (.tuple #[]) ∧ Duo w w' g gm ps [] ∧ Keep56 wr w' := by
  obtain ⟨h1, ⟨v, h2⟩, vp, ve, h3⟩ := h
  exact (rclear_call w wr gm vp ve qs h1 h3).mono fun e w' ⟨he, hb, hr, k⟩ => ⟨he, ⟨hb, ⟨v, h2.keepR k⟩, hr⟩, Keep56.r k⟩
theorem d_mget (w wr : World) (g gm : Nat) (ps qs : List (Int × Int)) (page : Int) (h : Duo w wr g gm ps qs) :
    Calls Try.prog 26 #[.pointer (some ⟨gm, 0, none⟩), .int .u32 page] wr fun e w' => e = .returned (.tuple #[.int .u32 (entP page qs), .bool (decide (posP page qs < qs.length))]) ∧ wr = w' := by
  obtain ⟨vp, ve, h3⟩ := h.2.2
  exact rget_call wr _ gm vp ve qs page h3
theorem row3_at {w : World} {F0 F1 F2 : Value → Prop} {a : Option Addr} {len cap : Nat} (h : IsRow3 F0 F1 F2 w a len cap) (hp : 0 < len) : ∃ b off, a = some ⟨b, off, none⟩ ∧ b < w.heap.size ∧
    ∀ i, i < len → ∃ v0 v1 v2, F0 v0 ∧ F1 v1 ∧ F2 v2 ∧ w.cell? ⟨b, off + i * 3, none⟩ = some v0 ∧ w.cell? ⟨b, off + i * 3 + 1, none⟩ = some v1 ∧ w.cell? ⟨b, off + i * 3 + 2, none⟩ = some v2 := by
  obtain ⟨x, rfl, hx⟩ := h.2 hp
  obtain ⟨b, off, spot⟩ := x
  obtain ⟨u0, u1, u2, _, _, _, c0, _, _⟩ := hx 0 hp
  have hspot : spot = none := by simpa [Addr.add] using World.cell?_spot c0
  subst hspot
  have hb : b < w.heap.size := by
    have := World.block_lt_of_cell? w _ c0
    simpa [Addr.add] using this
  have ap : ∀ (o i : Nat), ((⟨b, o, none⟩ : Addr).add i) = ⟨b, o + i, none⟩ := by
    intro o i
    unfold Addr.add
    by_cases hi : i = 0 <;> simp [hi]
  refine ⟨b, off, rfl, hb, fun i hi => ?_⟩
  obtain ⟨v0, v1, v2, f0, f1, f2, d0, d1, d2⟩ := hx i hi
  rw [ap] at d0 d1 d2
  exact ⟨v0, v1, v2, f0, f1, f2, d0, d1, d2⟩

theorem same_m (w : World) (A0 A1 : Option Addr) (n c0 c1 : Nat) (l : List Int) (hl : n ≤ 8) (h0 : ReadsInt w .u32 A0 n l) (h1 : ReadsInt w .u32 A1 n l) :
    Calls Try.prog 24 #[.slice A0 n c0, .slice A1 n c1] w fun e w' => e = .returned (.bool true) ∧ ∃ m, w' = w.drewN m := by
  have := h0.1
  subst this
  exact same_call w A0 A1 c0 c1 l hl h0 h1
theorem does_long (A0 : Option Addr) (n c0 : Nat) (w : World) (h : 200 < n) :
    Calls Try.prog 9 #[.slice A0 n c0] w fun e w' => e = .returned (.bool true) ∧ Below w.heap.size w w' := by
  go_enter Try.func9, Try.ntmps9
  go_wp2_with (first
    | (go_at_call 12; (with_reducible refine (alive_call _).mono ?_); rintro e w0 ⟨rfl, hb0⟩; have B0 := Aside0.mk hb0; clear hb0))
  go_ret
  exact ⟨rfl, B0.out⟩
theorem dropP_nodup (page : Int) (ps : List (Int × Int)) (h : (ps.map Prod.fst).Nodup) : ((dropP page ps).map Prod.fst).Nodup := by
  rw [drop_eq page ps h]; exact dropR_nodup page ps h

set_option maxRecDepth 100000 in
set_option maxHeartbeats 8000000 in
theorem does_ok (A0 : Option Addr) (n c0 : Nat) (w : World) (hn : n ≤ 200) (r0 : IsRow3 (IntV .i64) (IntV .u32) (IntV .u32) w A0 n c0) :
    Calls Try.prog 9 #[.slice A0 n c0] w fun e w' => e = .returned (.bool true) ∧ Below w.heap.size w w' := by
  have R0 := Aside0.mk r0
  clear r0
  go_enter Try.func9, Try.ntmps9
  go_wp2_with (first
    | (go_at_call 12; (with_reducible refine (alive_call w).mono ?_); rintro e w0 ⟨rfl, hb0⟩; have B0 := Aside0.mk hb0; clear hb0)
    | (go_at_call 13; (with_reducible refine (tnew_call w0).mono ?_); rintro e w1 ⟨g, rfl, hr, hb⟩; have T1 := Aside0.mk (hr.lower B0.out.size); have B1 := Aside0.mk (below_step B0.out hb); clear hr hb))
  have LL := Aside0.mk (show Duo w (w1.alloc (.cells #[.slice none 0 0, .slice none 0 0] 54)) g w1.heap.size [] [] ∧ (([] : List (Int × Int)).map Prod.fst).Nodup from
    ⟨⟨below_alloc B1.out _, ⟨_, T1.out.then (below_alloc (Below.refl _ _) _)⟩, _, _, blk_new _ _, B1.out.size, World.ownsRow_nil _ _ _ _, World.ownsRow_nil _ _ _ _, ne_nil _, Nat.zero_le _⟩, by simp⟩)
  obtain ⟨gm, hgm⟩ : ∃ gm, gm = w1.heap.size := ⟨_, rfl⟩
  rw [← hgm] at LL
  clear T1 B0 B1
  go_loopw [24] (fun i wr => ∃ (k : Nat) (ps : List (Int × Int)), k ≤ n ∧ i = .int .i64 k ∧ Aside0 (Duo w wr g w1.heap.size ps ps ∧ (ps.map Prod.fst).Nodup)) (fun i _ => n - (intOf i).toNat)
  case atStart => exact ⟨0, [], Nat.zero_le _, rfl, hgm ▸ LL⟩
  case round =>
    obtain ⟨k, ps, hk, rfl, LI⟩ := hrel
    clear LL
    clear hgm
    generalize w1.heap.size = gm at *
    by_cases hkn : k = n
    · subst hkn
      have B := Aside0.mk LI.out.1.1
      go_wp2
      go_ret
      exact ⟨rfl, B.out⟩
    · have hk' : k < n := by omega
      obtain ⟨b, off, rfl, hb, hc⟩ := row3_at R0.out (by omega)
      obtain ⟨_, _, _, ⟨kd, rfl, _⟩, ⟨page, rfl, _⟩, ⟨entry, rfl, _⟩, q0, q1, q2⟩ := hc k hk'
      clear hc
      have d0 := (LI.out.1.1.cell (p := ⟨b, off + k * 3, none⟩) hb).trans q0
      have d1 := (LI.out.1.1.cell (p := ⟨b, off + k * 3 + 1, none⟩) hb).trans q1
      have d2 := (LI.out.1.1.cell (p := ⟨b, off + k * 3 + 2, none⟩) hb).trans q2
      clear q0 q1 q2
      by_cases hkd : kd = 0
      ·   skip
          have hk0 : (kd == 0) = true := beq_iff_eq.mpr hkd
          clear hkd
          obtain ⟨en, fo, HEN⟩ : ∃ (en : Int) (fo : Bool), Aside0 ((Value.tuple #[.int .u32 (entP page ps), .bool (decide (posP page ps < ps.length))]) = Value.tuple #[.int .u32 en, .bool fo]) := ⟨_, _, ⟨rfl⟩⟩
          go_wp2_with (first
          | (go_at_call 15; (with_reducible refine (d_tget w _ g gm ps ps page (LI.out.1.then (below_alloc (Below.refl _ _) _))).mono ?_); rintro e w1 ⟨rfl, hr, hkp⟩; rw [HEN.out]; have P1 := Aside0.mk hr; have X1 := Aside0.mk (hkp _ _ _ (blk_new wr (.cells #[.int .i64 kd, .int .u32 page, .int .u32 entry] 56))); have x11 := cell_of_row w1 _ 1 _ _ _ X1.out; clear hr hkp)
          | (go_at_call 26; (with_reducible refine (d_mget w w1 g gm ps ps page P1.out).mono ?_); rintro e w2 ⟨rfl, rfl⟩; rw [HEN.out])
          | (go_at_call 15; (with_reducible refine (nil_get w1 page).mono ?_); rintro e w3 ⟨rfl, hb⟩; have P3 := Aside0.mk (P1.out.then hb); clear hb))
          obtain ⟨vt, ht⟩ := P3.out.2.1
          obtain ⟨vp, ve, hrf⟩ := P3.out.2.2
          obtain ⟨Ap, cp, rfl⟩ := own_val hrf.op
          have TF := Aside0.mk ht
          have RF := Aside0.mk hrf
          have hl8 := Aside0.mk hrf.2.2.2.2.2
          have hcells : Aside0 (∀ W, Below w3.heap.size w3 W → W.cell? ⟨gm, 0, none⟩ = some (.slice Ap (ps).length cp)) := ⟨fun W hW => (RF.out.then hW).f0⟩
          clear ht hrf
          have hS := hcells.out w3 (Below.refl _ _)
          go_region_held3 (fun W => W.cell? ⟨gm, 0, none⟩ = some (.slice Ap (ps).length cp))
            (first | exact hcells.out _ (by assumption) | exact hcells.out _ ((Below.refl _ _).drew))
            (first
            | (go_at_call 21; (with_reducible refine (pages_call _ _ g _ (ps) (TF.out.then ((Below.refl _ _).drew))).mono ?_); rintro e w6 ⟨A6, c6, rfl, ho, hb⟩; have hb6 : Below w3.heap.size w3 w6 := ((Below.refl w3.heap.size w3).drew).trans hb; have O6 := Aside0.mk ho; clear ho hb)
            | (go_at_call 24; (with_reducible refine (same_m _ _ _ _ _ _ ((ps).map Prod.fst) hl8.out (own_reads' O6.out) (own_reads' (RF.out.then hb6).op)).mono ?_); rintro e w7 ⟨rfl, m7, rfl⟩; have hb7 : Below w3.heap.size w3 (w6.drewN m7) := pw_below_drewN hb6 m7)
            | (go_at_call 21; (with_reducible refine (nil_pages _).mono ?_); rintro e w8 ⟨rfl, rfl⟩))
          go_wp2
          go_roundw
          case rel => exact ⟨k + 1, _, by omega, rfl, ⟨P3.out.then hb7, LI.out.2⟩⟩
          case measure => simp [intOf]; omega
      · by_cases hkd1 : kd = 1
        · have hkd := hkd1
          clear hkd1
          have hk0 : (kd == 0) = false := beq_eq_false_iff_ne.mpr (by omega)
          have hk1 : (kd == 1) = true := beq_iff_eq.mpr hkd
          clear hkd
          go_wp2_with (first
          | (go_at_call 14; (with_reducible refine (d_tput w _ g gm ps ps page entry (LI.out.1.then (below_alloc (Below.refl _ _) _))).mono ?_); rintro e w1 ⟨rfl, hr, hkp⟩; have P1 := Aside0.mk hr; have X1 := Aside0.mk (hkp _ _ _ (blk_new wr (.cells #[.int .i64 kd, .int .u32 page, .int .u32 entry] 56))); have x10 := cell_of_row w1 _ 0 _ _ _ X1.out; have x11 := cell_of_row w1 _ 1 _ _ _ X1.out; have x12 := cell_of_row w1 _ 2 _ _ _ X1.out; clear hr hkp)
          | (go_at_call 27; (with_reducible refine (d_mput w w1 g gm _ ps page entry P1.out LI.out.2).mono ?_); rintro e w2 ⟨rfl, hr, hkp⟩; have P2 := Aside0.mk hr; have X2 := Aside0.mk (hkp _ _ _ X1.out); have x20 := cell_of_row w2 _ 0 _ _ _ X2.out; have x21 := cell_of_row w2 _ 1 _ _ _ X2.out; have x22 := cell_of_row w2 _ 2 _ _ _ X2.out; clear hr hkp)
          | (go_at_call 14; (with_reducible refine (nil_put w2 page entry).mono ?_); rintro e w3 ⟨rfl, hb⟩; have P3 := Aside0.mk (P2.out.then hb); clear hb))
          obtain ⟨vt, ht⟩ := P3.out.2.1
          obtain ⟨vp, ve, hrf⟩ := P3.out.2.2
          obtain ⟨Ap, cp, rfl⟩ := own_val hrf.op
          have TF := Aside0.mk ht
          have RF := Aside0.mk hrf
          have hl8 := Aside0.mk hrf.2.2.2.2.2
          have hcells : Aside0 (∀ W, Below w3.heap.size w3 W → W.cell? ⟨gm, 0, none⟩ = some (.slice Ap (putP page entry ps).length cp)) := ⟨fun W hW => (RF.out.then hW).f0⟩
          clear ht hrf
          have hS := hcells.out w3 (Below.refl _ _)
          go_region_held3 (fun W => W.cell? ⟨gm, 0, none⟩ = some (.slice Ap (putP page entry ps).length cp))
            (first | exact hcells.out _ (by assumption) | exact hcells.out _ ((Below.refl _ _).drew))
            (first
            | (go_at_call 21; (with_reducible refine (pages_call _ _ g _ (putP page entry ps) (TF.out.then ((Below.refl _ _).drew))).mono ?_); rintro e w6 ⟨A6, c6, rfl, ho, hb⟩; have hb6 : Below w3.heap.size w3 w6 := ((Below.refl w3.heap.size w3).drew).trans hb; have O6 := Aside0.mk ho; clear ho hb)
            | (go_at_call 24; (with_reducible refine (same_m _ _ _ _ _ _ ((putP page entry ps).map Prod.fst) hl8.out (own_reads' O6.out) (own_reads' (RF.out.then hb6).op)).mono ?_); rintro e w7 ⟨rfl, m7, rfl⟩; have hb7 : Below w3.heap.size w3 (w6.drewN m7) := pw_below_drewN hb6 m7)
            | (go_at_call 21; (with_reducible refine (nil_pages _).mono ?_); rintro e w8 ⟨rfl, rfl⟩))
          go_wp2
          go_roundw
          case rel => exact ⟨k + 1, _, by omega, rfl, ⟨P3.out.then hb7, putP_nodup page entry ps LI.out.2⟩⟩
          case measure => simp [intOf]; omega
        · by_cases hkd2 : kd = 2
          · have hkd := hkd2
            clear hkd2
            have hk0 : (kd == 0) = false := beq_eq_false_iff_ne.mpr (by omega)
            have hk1 : (kd == 1) = false := beq_eq_false_iff_ne.mpr (by omega)
            have hk2 : (kd == 2) = true := beq_iff_eq.mpr hkd
            clear hkd
            go_wp2_with (first
            | (go_at_call 25; (with_reducible refine (d_tdrop w _ g gm ps ps page (LI.out.1.then (below_alloc (Below.refl _ _) _))).mono ?_); rintro e w1 ⟨rfl, hr, hkp⟩; have P1 := Aside0.mk hr; have X1 := Aside0.mk (hkp _ _ _ (blk_new wr (.cells #[.int .i64 kd, .int .u32 page, .int .u32 entry] 56))); have x10 := cell_of_row w1 _ 0 _ _ _ X1.out; have x11 := cell_of_row w1 _ 1 _ _ _ X1.out; have x12 := cell_of_row w1 _ 2 _ _ _ X1.out; clear hr hkp)
            | (go_at_call 28; (with_reducible refine (d_mdrop w w1 g gm _ ps page P1.out LI.out.2).mono ?_); rintro e w2 ⟨rfl, hr, hkp⟩; have P2 := Aside0.mk hr; have X2 := Aside0.mk (hkp _ _ _ X1.out); have x20 := cell_of_row w2 _ 0 _ _ _ X2.out; have x21 := cell_of_row w2 _ 1 _ _ _ X2.out; have x22 := cell_of_row w2 _ 2 _ _ _ X2.out; clear hr hkp)
            | (go_at_call 25; (with_reducible refine (nil_drop w2 page).mono ?_); rintro e w3 ⟨rfl, hb⟩; have P3 := Aside0.mk (P2.out.then hb); clear hb))
            obtain ⟨vt, ht⟩ := P3.out.2.1
            obtain ⟨vp, ve, hrf⟩ := P3.out.2.2
            obtain ⟨Ap, cp, rfl⟩ := own_val hrf.op
            have TF := Aside0.mk ht
            have RF := Aside0.mk hrf
            have hl8 := Aside0.mk hrf.2.2.2.2.2
            have hcells : Aside0 (∀ W, Below w3.heap.size w3 W → W.cell? ⟨gm, 0, none⟩ = some (.slice Ap (dropP page ps).length cp)) := ⟨fun W hW => (RF.out.then hW).f0⟩
            clear ht hrf
            have hS := hcells.out w3 (Below.refl _ _)
            go_region_held3 (fun W => W.cell? ⟨gm, 0, none⟩ = some (.slice Ap (dropP page ps).length cp))
              (first | exact hcells.out _ (by assumption) | exact hcells.out _ ((Below.refl _ _).drew))
              (first
              | (go_at_call 21; (with_reducible refine (pages_call _ _ g _ (dropP page ps) (TF.out.then ((Below.refl _ _).drew))).mono ?_); rintro e w6 ⟨A6, c6, rfl, ho, hb⟩; have hb6 : Below w3.heap.size w3 w6 := ((Below.refl w3.heap.size w3).drew).trans hb; have O6 := Aside0.mk ho; clear ho hb)
              | (go_at_call 24; (with_reducible refine (same_m _ _ _ _ _ _ ((dropP page ps).map Prod.fst) hl8.out (own_reads' O6.out) (own_reads' (RF.out.then hb6).op)).mono ?_); rintro e w7 ⟨rfl, m7, rfl⟩; have hb7 : Below w3.heap.size w3 (w6.drewN m7) := pw_below_drewN hb6 m7)
              | (go_at_call 21; (with_reducible refine (nil_pages _).mono ?_); rintro e w8 ⟨rfl, rfl⟩))
            go_wp2
            go_roundw
            case rel => exact ⟨k + 1, _, by omega, rfl, ⟨P3.out.then hb7, dropP_nodup page ps LI.out.2⟩⟩
            case measure => simp [intOf]; omega
          · by_cases hkd3 : kd = 3
            · have hkd := hkd3
              clear hkd3
              have hk0 : (kd == 0) = false := beq_eq_false_iff_ne.mpr (by omega)
              have hk1 : (kd == 1) = false := beq_eq_false_iff_ne.mpr (by omega)
              have hk2 : (kd == 2) = false := beq_eq_false_iff_ne.mpr (by omega)
              have hk3 : (kd == 3) = true := beq_iff_eq.mpr hkd
              clear hkd
              go_wp2_with (first
              | (go_at_call 29; (with_reducible refine (d_tclear w _ g gm ps ps (LI.out.1.then (below_alloc (Below.refl _ _) _))).mono ?_); rintro e w1 ⟨rfl, hr, hkp⟩; have P1 := Aside0.mk hr; have X1 := Aside0.mk (hkp _ _ _ (blk_new wr (.cells #[.int .i64 kd, .int .u32 page, .int .u32 entry] 56))); have x10 := cell_of_row w1 _ 0 _ _ _ X1.out; have x11 := cell_of_row w1 _ 1 _ _ _ X1.out; have x12 := cell_of_row w1 _ 2 _ _ _ X1.out; clear hr hkp)
              | (go_at_call 30; (with_reducible refine (d_mclear w w1 g gm _ ps P1.out).mono ?_); rintro e w2 ⟨rfl, hr, hkp⟩; have P2 := Aside0.mk hr; have X2 := Aside0.mk (hkp _ _ _ X1.out); have x20 := cell_of_row w2 _ 0 _ _ _ X2.out; have x21 := cell_of_row w2 _ 1 _ _ _ X2.out; have x22 := cell_of_row w2 _ 2 _ _ _ X2.out; clear hr hkp)
              | (go_at_call 29; (with_reducible refine (nil_clear w2).mono ?_); rintro e w3 ⟨rfl, rfl⟩))
              obtain ⟨es, HES⟩ : ∃ es : List (Int × Int), Aside0 (es = []) := ⟨_, ⟨rfl⟩⟩
              have PE : Aside0 (Duo w w2 g gm es es) := ⟨by rw [HES.out]; exact P2.out⟩
              obtain ⟨vt, ht⟩ := PE.out.2.1
              obtain ⟨vp, ve, hrf⟩ := PE.out.2.2
              obtain ⟨Ap, cp, rfl⟩ := own_val hrf.op
              have TF := Aside0.mk ht
              have RF := Aside0.mk hrf
              have hl8 := Aside0.mk hrf.2.2.2.2.2
              have hcells : Aside0 (∀ W, Below w2.heap.size w2 W → W.cell? ⟨gm, 0, none⟩ = some (.slice Ap (es).length cp)) := ⟨fun W hW => (RF.out.then hW).f0⟩
              clear ht hrf
              have hS := hcells.out w2 (Below.refl _ _)
              go_region_held3 (fun W => W.cell? ⟨gm, 0, none⟩ = some (.slice Ap (es).length cp))
                (first | exact hcells.out _ (by assumption) | exact hcells.out _ ((Below.refl _ _).drew))
                (first
                | (go_at_call 21; (with_reducible refine (pages_call _ _ g _ (es) (TF.out.then ((Below.refl _ _).drew))).mono ?_); rintro e w6 ⟨A6, c6, rfl, ho, hb⟩; have hb6 : Below w2.heap.size w2 w6 := ((Below.refl w2.heap.size w2).drew).trans hb; have O6 := Aside0.mk ho; clear ho hb)
                | (go_at_call 24; (with_reducible refine (same_m _ _ _ _ _ _ ((es).map Prod.fst) hl8.out (own_reads' O6.out) (own_reads' (RF.out.then hb6).op)).mono ?_); rintro e w7 ⟨rfl, m7, rfl⟩; have hb7 : Below w2.heap.size w2 (w6.drewN m7) := pw_below_drewN hb6 m7)
                | (go_at_call 21; (with_reducible refine (nil_pages _).mono ?_); rintro e w8 ⟨rfl, rfl⟩))
              go_wp2
              go_roundw
              case rel => exact ⟨k + 1, _, by omega, rfl, ⟨PE.out.then hb7, by rw [HES.out]; simp⟩⟩
              case measure => simp [intOf]; omega
            · skip
              have hk0 : (kd == 0) = false := beq_eq_false_iff_ne.mpr (by omega)
              have hk1 : (kd == 1) = false := beq_eq_false_iff_ne.mpr (by omega)
              have hk2 : (kd == 2) = false := beq_eq_false_iff_ne.mpr (by omega)
              have hk3 : (kd == 3) = false := beq_eq_false_iff_ne.mpr (by omega)
              have PB := Aside0.mk (LI.out.1.then (below_alloc (Below.refl _ _) (.cells #[.int .i64 kd, .int .u32 page, .int .u32 entry] 56)))
              go_wp2
              generalize hWB : (wr.alloc (.cells #[.int .i64 kd, .int .u32 page, .int .u32 entry] 56)) = WB at *
              obtain ⟨vt, ht⟩ := PB.out.2.1
              obtain ⟨vp, ve, hrf⟩ := PB.out.2.2
              obtain ⟨Ap, cp, rfl⟩ := own_val hrf.op
              have TF := Aside0.mk ht
              have RF := Aside0.mk hrf
              have hl8 := Aside0.mk hrf.2.2.2.2.2
              have hcells : Aside0 (∀ W, Below WB.heap.size WB W → W.cell? ⟨gm, 0, none⟩ = some (.slice Ap (ps).length cp)) := ⟨fun W hW => (RF.out.then hW).f0⟩
              clear ht hrf
              have hS := hcells.out WB (Below.refl _ _)
              go_region_held3 (fun W => W.cell? ⟨gm, 0, none⟩ = some (.slice Ap (ps).length cp))
                (first | exact hcells.out _ (by assumption) | exact hcells.out _ ((Below.refl _ _).drew))
                (first
                | (go_at_call 21; (with_reducible refine (pages_call _ _ g _ (ps) (TF.out.then ((Below.refl _ _).drew))).mono ?_); rintro e w6 ⟨A6, c6, rfl, ho, hb⟩; have hb6 : Below WB.heap.size WB w6 := ((Below.refl WB.heap.size WB).drew).trans hb; have O6 := Aside0.mk ho; clear ho hb)
                | (go_at_call 24; (with_reducible refine (same_m _ _ _ _ _ _ ((ps).map Prod.fst) hl8.out (own_reads' O6.out) (own_reads' (RF.out.then hb6).op)).mono ?_); rintro e w7 ⟨rfl, m7, rfl⟩; have hb7 : Below WB.heap.size WB (w6.drewN m7) := pw_below_drewN hb6 m7)
                | (go_at_call 21; (with_reducible refine (nil_pages _).mono ?_); rintro e w8 ⟨rfl, rfl⟩))
              go_wp2
              go_roundw
              case rel => exact ⟨k + 1, _, by omega, rfl, ⟨PB.out.then hb7, LI.out.2⟩⟩
              case measure => simp [intOf]; omega
theorem TlbDoes_walk (a0 : Option Addr) (len0 cap0 : Nat) (w : World) (w0 : IsRow3 (IntV .i64) (IntV .u32) (IntV .u32) w a0 len0 cap0) :
    Calls Try.prog 9 #[.slice a0 len0 cap0] w fun e w' => e = .returned (.bool true) ∧ Below w.heap.size w w' := by
  by_cases h : 200 < len0
  · exact does_long a0 len0 cap0 w h
  · exact does_ok a0 len0 cap0 w (by omega) w0
end Go.Proofs.Ytocjadgakalbdaa.TlbWalk
