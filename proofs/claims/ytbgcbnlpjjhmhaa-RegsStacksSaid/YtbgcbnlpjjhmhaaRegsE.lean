/- The registers' functions of layer 7, walked: Step. -/
import Derived.Test.YtbgcbnlpjjhmhaaRegsD
import Derived.Test.YtbgcbnlpjjhmhaaLinesB
import Derived.BigRegion
import Derived.Maps.AppendAt
namespace Go.Proofs.Ytbgcbnlpjjhmhaa.RegsWalk
open Go.RowKit Go.Proofs.Ytbgcbnlpjjhmhaa.Aid Go.Proofs.YtbgcbnlpjjhmhaaW.PrintWords Go.Proofs.YtbgcbnlpjjhmhaaW.PrintLast Go.Proofs.YtbgcbnlpjjhmhaaW.PrintMore
open Go.Proofs.Ytbgcbnlpjjhmhaa.LinesWalk (Kept2 NewRow own_then own_some)
set_option linter.unusedVariables false
set_option linter.unusedSimpArgs false
def updI (R : Nat → Int) (n : Nat) (x : Int) : Nat → Int := fun i => if i = n then x else R i
/-- What was stepped, as cells. -/
def stp (e : Nat × Int) : List Value := [.int .i64 (e.1 : Nat), .int .u32 e.2]
def stps (xs : List (Nat × Int)) : List Value := xs.flatMap stp
theorem stps_append (p q : List (Nat × Int)) : stps (p ++ q) = stps p ++ stps q := List.flatMap_append
/-- The file with its steps. -/
structure GAt (W : World) (base g : Nat) (R : Nat → Int) (p k u : Int) (v : Value) (xs : List (Nat × Int)) : Prop where
  file : FileAt W g R (R 14) p k u v
  ge : base ≤ g
  row : W.ownsRow base 80 2 v xs.length (stps xs)
theorem GAt.lt {W : World} {base g : Nat} {R : Nat → Int} {p k u : Int} {v : Value} {xs : List (Nat × Int)} (h : GAt W base g R p k u v xs) : g < W.heap.size := h.file.lt
theorem GAt.then {W W' : World} {base g : Nat} {R : Nat → Int} {p k u : Int} {v : Value} {xs : List (Nat × Int)} (h : GAt W base g R p k u v xs) (b : Below W.heap.size W W') : GAt W' base g R p k u v xs := ⟨h.file.then b, h.ge, own_then h.row b⟩
theorem file_put {W : World} {g : Nat} {R : Nat → Int} {p k u : Int} {v : Value} (h : FileAt W g R (R 14) p k u v) (n : Nat) (hn : n < 16) (x : Int) :
    FileAt (W.setCell ⟨g, n, none⟩ (.int .u32 x)) g (updI R n x) (updI R n x 14) p k u v := by
  match n, hn with
  | 0, _ | 1, _ | 2, _ | 3, _ | 4, _ | 5, _ | 6, _ | 7, _ | 8, _ | 9, _ | 10, _ | 11, _ | 12, _ | 13, _ | 14, _ | 15, _ => exact blk_put h _ _ rfl
  | n + 16, h => omega
theorem file_at {W : World} {g : Nat} {R : Nat → Int} {p k u : Int} {v : Value} (h : FileAt W g R (R 14) p k u v) (n : Nat) (hn : n < 16) : W.cell? ⟨g, n, none⟩ = some (.int .u32 (R n)) := by
  match n, hn with
  | 0, _ | 1, _ | 2, _ | 3, _ | 4, _ | 5, _ | 6, _ | 7, _ | 8, _ | 9, _ | 10, _ | 11, _ | 12, _ | 13, _ | 14, _ | 15, _ => exact h.cell _
  | n + 16, h => omega
theorem GAt.ne {W : World} {base g : Nat} {R : Nat → Int} {p k u : Int} {v : Value} {xs : List (Nat × Int)} (h : GAt W base g R p k u v xs) : v.ownBlock ≠ some g := by
  intro e
  rcases h.row.2 with ⟨rfl, _⟩ | ⟨b, c, cur, rfl, hb, hh, _⟩
  · simp [Value.ownBlock] at e
  · simp only [Value.ownBlock, Option.some.injEq] at e
    subst e
    have := h.file
    unfold FileAt at this
    rw [this] at hh
    simp at hh
theorem step_end (w W W1 : World) (base g : Nat) (R : Nat → Int) (p k u : Int) (v v1 : Value) (xs : List (Nat × Int)) (n : Nat) (d : Int) (h : GAt W base g R p k u v xs) (hk : Kept2 w W g v.ownBlock)
    (r2 : W1.ownsRow base 80 2 v1 (xs.length + 1) (stps xs ++ [.int .i64 n, .int .u32 d])) (r3 : (W.alloc (.cells #[.int .i64 n, .int .u32 d] 80 (0, 0))).grownBy W1 v.ownBlock) (r5 : v1.ownBlock = v.ownBlock ∨ v1.ownBlock = some (W.alloc (.cells #[.int .i64 n, .int .u32 d] 80 (0, 0))).heap.size) :
    W1.cell? ⟨g, 19, none⟩ = some v ∧ W1.frozen? ⟨g, 19, none⟩ = false ∧ GAt (W1.setCell ⟨g, 19, none⟩ v1) base g R p k u v1 (xs ++ [(n, d)]) ∧ Kept2 w (W1.setCell ⟨g, 19, none⟩ v1) g v.ownBlock ∧ NewRow w v v1 := by
  have hs : (W.alloc (.cells #[.int .i64 n, .int .u32 d] 80 (0, 0))).heap.size = W.heap.size + 1 := by simp [World.alloc_eq]
  have b0 := below_alloc (Below.refl W.heap.size W) (.cells #[.int .i64 n, .int .u32 d] 80 (0, 0))
  have hlt := h.lt
  have f1 : FileAt W1 g R (R 14) p k u v := (r3.block g (by rw [hs]; omega) (fun e => h.ne e.symm)).trans ((b0.block g hlt).trans h.file)
  have hne : v1.ownBlock ≠ some g := by
    rcases r5 with r5 | r5
    · rw [r5]; exact h.ne
    · rw [r5, hs]; intro e; simp at e; omega
  refine ⟨f1.cell 19, f1.free 19, ⟨f1.set_steps v1, h.ge, ?_⟩, ((hk.trans (Kept2.of_below b0 g v.ownBlock) (.inl rfl)).grown r3 (.inl rfl)).set _ _, ?_⟩
  · rw [stps_append, List.length_append]
    exact ownsRow_setCell_other r2 hne _
  · rcases r5 with r5 | r5
    · exact .inl r5
    · exact .inr ⟨_, r5, by have := hk.size; rw [hs]; omega⟩
theorem infoSt : (Try.prog.info? 80).map (fun i => (i.zero, i.size, i.bytes)) = some (some (.agg #[.int .i64 0, .int .u32 0]), 2, 16) := by kernel_rfl
set_option maxRecDepth 100000 in
set_option maxHeartbeats 4000000 in
theorem step_call (w : World) (base g : Nat) (R : Nat → Int) (p k u : Int) (v : Value) (xs : List (Nat × Int)) (n : Nat) (d y : Int) (hy : (R n + d) % 4294967296 = y) (h : GAt w base g R p k u v xs) (hn : n < 16) (hl : xs.length < 4096) :
    Calls Try.prog 16 #[.pointer (some ⟨g, 0, none⟩), .int .i64 n, .int .u32 d] w fun e w' => e = .returned (.int .i64 0) ∧ ∃ v', GAt w' base g (updI R n y) p k u v' (xs ++ [(n, d)]) ∧ Kept2 w w' g v.ownBlock ∧ NewRow w v v' := by
  have c0 := file_at h.file n hn
  have f0 := h.file.free n
  have c19 : w.cell? ⟨g, 19, none⟩ = some v := h.file.cell 19
  have f19 := h.file.free 19
  have hni : (n : Int) < 16 := by omega
  have hni0 : (0 : Int) ≤ n := by omega
  have H := Aside0.mk h
  clear h
  go_enter Try.func16, Try.ntmps16
  go_wp2
  go_region
  rw [hy]
  clear hy
  have RG := (show GAt (w.setCell ⟨g, n, none⟩ (.int .u32 y)).drew base g (updI R n y) p k u v xs from
    ⟨file_put H.out.file n hn _, H.out.ge, ownsRow_setCell_other H.out.row H.out.ne _⟩)
  have RK := (show Kept2 w (w.setCell ⟨g, n, none⟩ (.int .u32 y)).drew g v.ownBlock from ⟨rfl, rfl, rfl, by simp [World.setCell], fun i hi h1 _ => Below.heap_setCell w ⟨g, n, none⟩ _ i h1⟩)
  clear c0 f0 c19 f19
  generalize (w.setCell ⟨g, n, none⟩ (.int .u32 y)).drew = W at *
  have c19 : W.cell? ⟨g, 19, none⟩ = some v := RG.file.cell 19
  have f19 := RG.file.free 19
  have RG := Aside0.mk RG
  have RK := Aside0.mk RK
  obtain ⟨i0, hi, hzz⟩ := Option.map_eq_some_iff.1 infoSt
  simp only [Prod.mk.injEq] at hzz
  obtain ⟨hz0, hz1, hz2⟩ := hzz
  have HZ := Aside0.mk (And.intro hi (And.intro hz0 (And.intro hz1 hz2)))
  have HROW := Aside0.mk (own_then RG.out.row (below_alloc (Below.refl W.heap.size W) (.cells #[.int .i64 n, .int .u32 d] 80 (0, 0))))
  have HL := Aside0.mk hl
  have FIN := Aside0.mk (fun (v1 : Value) (W1 : World) (r2 : W1.ownsRow base 80 2 v1 (xs.length + 1) (stps xs ++ [.int .i64 n, .int .u32 d])) (r3 : (W.alloc (.cells #[.int .i64 n, .int .u32 d] 80 (0, 0))).grownBy W1 v.ownBlock) (r5 : v1.ownBlock = v.ownBlock ∨ v1.ownBlock = some (W.alloc (.cells #[.int .i64 n, .int .u32 d] 80 (0, 0))).heap.size) =>
    step_end w W W1 base g (updI R n y) p k u v v1 xs n d RG.out RK.out r2 r3 r5)
  have NW := Aside0.mk (World.news_of_block (cs := #[.int .i64 n, .int .u32 d]) (t := 80) (fr := (0, 0)) (heap_alloc_new W (.cells #[.int .i64 n, .int .u32 d] 80 (0, 0))))
  have ON : Aside0 (∀ u ∈ [(Value.int .i64 n), .int .u32 d], u.oneCell' = true) := ⟨by simp [Value.oneCell']⟩
  have B1 : Aside0 (xs.length + 1 ≤ maxLen) := ⟨by simp only [maxLen]; omega⟩
  have B2 : Aside0 ((xs.length + 1) * 16 ≤ 140737488355328) := ⟨by omega⟩
  have B3 : Aside0 (base ≤ (W.alloc (.cells #[.int .i64 n, .int .u32 d] 80 (0, 0))).heap.size) := ⟨by have h1 := RG.out.lt; have h2 := RG.out.ge; have h3 : (W.alloc (.cells #[.int .i64 n, .int .u32 d] 80 (0, 0))).heap.size = W.heap.size + 1 := (by simp [World.alloc_eq]); omega⟩
  clear hl hi hz0 hz1 hz2
  go_wp2_with (first
    | (at_builtin; refine wpList_append_own_at (w := W.alloc (.cells #[.int .i64 n, .int .u32 d] 80 (0, 0))) rfl (.tmp 32) (.tmp 36) 76 rfl base 80 i0 (.agg #[.int .i64 0, .int .u32 0]) 2 16 Try.underlying76 HZ.out.1 HZ.out.2.1 HZ.out.2.2.1 HZ.out.2.2.2 rfl (by decide) v xs.length (stps xs) rfl HROW.out
        ⟨W.heap.size, 0, none⟩ 1 1 [.int .i64 n, .int .u32 d] rfl rfl NW.out ON.out B1.out B2.out B3.out ?_; intro v1 W1 r2 r3 r4 r5; obtain ⟨b1, c1, rfl⟩ := own_some r2; have F := Aside0.mk (FIN.out _ W1 r2 r3 r5); have e19 := F.out.1; have e20 := F.out.2.1; clear r2 r3 r4 r5))
  go_ret
  exact ⟨rfl, _, F.out.2.2⟩
end Go.Proofs.Ytbgcbnlpjjhmhaa.RegsWalk
