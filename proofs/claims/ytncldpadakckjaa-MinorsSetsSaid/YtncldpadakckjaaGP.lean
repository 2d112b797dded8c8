/- The state of the law MinorsSetsAgain: its boxes, and the list of the choice that is wanted next. append onto a row of the call's own: the old value still reads its elements. The book's mark of a place (sign). The book of lists of numbers: its cells, and its list of lists. Lists of words of the call's own, marked and grown: what the book's words keeps in memory. The walk of the book's words: every list of words has memory of its own. The book's words and ints where there are none; Apart over lists of numbers alone; Num. The walk of the book's Num. The lists that the law MinorsSets keeps: each of the call's own, apart from one another; one more behind them. The walk of the law MinorsSetsAgain. The law MinorsSetsAgain where there is nothing to choose, and for any arguments. trellisref11.LikeNums where it answers yes, as a call that only reads. The book's Apart over lists of numbers alone: what else stays; the book's start; the lists that a law kept. -/
import Derived.Test.YtncldpadakckjaaGN
import Derived.Test.YtncldpadakckjaaGM
import Derived.Deep.AppendLies
import Derived.Sort.CutIn
set_option linter.unusedVariables false
set_option linter.unusedSimpArgs false
namespace Go.Proofs.Ytncldpadakckjaa
open Go.RowKit Go.Shelf

/-- the law's boxes: the numbers n, k, cut, its result, what is wanted, how many came -/
structure AgB (w : World) (nb kb bw bi : Nat) (N K c : Int) (i : Int) (wv : Value) (W : World) : Prop where
  bel : Below w.heap.size w W
  lw : w.heap.size + 4 ≤ bw
  li : w.heap.size + 4 ≤ bi
  ne : bw ≠ bi
  ln : w.heap.size + 4 ≤ nb ∧ nb ≠ bw ∧ nb ≠ bi
  lk : w.heap.size + 4 ≤ kb ∧ kb ≠ bw ∧ kb ≠ bi
  cn : W.cell? ⟨w.heap.size, 0, none⟩ = some (.int .i64 N)
  ck : W.cell? ⟨w.heap.size + 1, 0, none⟩ = some (.int .i64 K)
  cc : W.cell? ⟨w.heap.size + 1 + 1, 0, none⟩ = some (.int .i64 c)
  cr : W.cell? ⟨w.heap.size + 1 + 1 + 1, 0, none⟩ = some (.bool false) ∧ W.frozen? ⟨w.heap.size + 1 + 1 + 1, 0, none⟩ = false
  ci : W.cell? ⟨bi, 0, none⟩ = some (.int .i64 i) ∧ W.frozen? ⟨bi, 0, none⟩ = false
  cw : W.cell? ⟨bw, 0, none⟩ = some wv ∧ W.frozen? ⟨bw, 0, none⟩ = false
  nn : W.cell? ⟨nb, 0, none⟩ = some (.int .i64 N)
  kk : W.cell? ⟨kb, 0, none⟩ = some (.int .i64 K)
/-- a place that is none of the law's boxes, and none of the loop's blocks -/
def Sep (w : World) (nb kb bw bi B b : Nat) : Prop := w.heap.size + 4 ≤ b ∧ b ≠ nb ∧ b ≠ kb ∧ b ≠ bw ∧ b ≠ bi ∧ b ≠ B ∧ b ≠ B + 1 ∧ b ≠ B + 2
section
variable {w W W' : World} {nb kb bw bi B : Nat} {N K c i : Int} {wv : Value}
theorem AgB.grown (h : AgB w nb kb bw bi N K c i wv W) {r : Option Nat} (hg : W.grownBy W' r) (hr : ∀ b, r = some b → w.heap.size + 4 ≤ b ∧ b ≠ nb ∧ b ≠ kb ∧ b ≠ bw ∧ b ≠ bi) : AgB w nb kb bw bi N K c i wv W' := by
  have hc : ∀ {b : Nat} {u : Value}, W.cell? ⟨b, 0, none⟩ = some u → (b < w.heap.size + 4 ∨ b = nb ∨ b = kb ∨ b = bw ∨ b = bi) → W'.cell? ⟨b, 0, none⟩ = some u := fun hu hb => hg.cell hu (fun e => by
    obtain ⟨h1, h4, h5, h2, h3⟩ := hr _ e.symm
    rcases hb with hb | hb | hb | hb | hb
    · have : _ < w.heap.size + 4 := hb
      simp at h1; omega
    · exact h4 hb
    · exact h5 hb
    · exact h2 hb
    · exact h3 hb)
  have hf : ∀ {b : Nat} {u : Value}, W.cell? ⟨b, 0, none⟩ = some u → W.frozen? ⟨b, 0, none⟩ = false → (b < w.heap.size + 4 ∨ b = nb ∨ b = kb ∨ b = bw ∨ b = bi) → W'.frozen? ⟨b, 0, none⟩ = false := fun {b u} hu hz hb => by
    refine (World.frozen?_of_block (w := W) (a := ⟨b, 0, none⟩) (hg.block b (World.block_lt_of_cell? _ _ hu) (fun e => ?_))).trans hz
    obtain ⟨h1, h4, h5, h2, h3⟩ := hr _ e.symm
    rcases hb with hb | hb | hb | hb | hb
    · omega
    · exact h4 hb
    · exact h5 hb
    · exact h2 hb
    · exact h3 hb
  exact ⟨h.bel.grown hg h.bel.size (fun b hb => by have := (hr b hb).1; omega), h.lw, h.li, h.ne, h.ln, h.lk, hc h.cn (by omega), hc h.ck (by omega), hc h.cc (by omega), ⟨hc h.cr.1 (by omega), hf h.cr.1 h.cr.2 (by omega)⟩, ⟨hc h.ci.1 (by omega), hf h.ci.1 h.ci.2 (by omega)⟩, ⟨hc h.cw.1 (by omega), hf h.cw.1 h.cw.2 (by omega)⟩, hc h.nn (by omega), hc h.kk (by omega)⟩
theorem AgB.below (h : AgB w nb kb bw bi N K c i wv W) (hb : Below W.heap.size W W') : AgB w nb kb bw bi N K c i wv W' := h.grown (gb_below hb none) (fun _ e => by cases e)
theorem AgB.putw (h : AgB w nb kb bw bi N K c i wv W) (u : Value) : AgB w nb kb bw bi N K c i u (W.setCell ⟨bw, 0, none⟩ u) := by
  have ho : ∀ {b : Nat} {x : Value}, W.cell? ⟨b, 0, none⟩ = some x → b ≠ bw → (W.setCell ⟨bw, 0, none⟩ u).cell? ⟨b, 0, none⟩ = some x := fun hx hb => by
    rw [World.cell?_setCell_other _ _ _ _ (by intro e; injection e with e _ _; exact hb e.symm)]; exact hx
  have h1 := h.lw
  refine ⟨h.bel.grown (gb_set W ⟨bw, 0, none⟩ u) h.bel.size (fun b hb => by cases hb; show w.heap.size ≤ bw; omega), h.lw, h.li, h.ne, h.ln, h.lk, ho h.cn (by omega), ho h.ck (by omega), ho h.cc (by omega), ⟨ho h.cr.1 (by omega), by rw [World.frozen?_setCell]; exact h.cr.2⟩, ⟨ho h.ci.1 (Ne.symm h.ne), by rw [World.frozen?_setCell]; exact h.ci.2⟩, ⟨?_, by rw [World.frozen?_setCell]; exact h.cw.2⟩, ho h.nn h.ln.2.1, ho h.kk h.lk.2.1⟩
  exact World.cell?_setCell_same _ _ _ h.cw.1
theorem AgB.puti (h : AgB w nb kb bw bi N K c i wv W) (u : Int) : AgB w nb kb bw bi N K c u wv (W.setCell ⟨bi, 0, none⟩ (.int .i64 u)) := by
  have ho : ∀ {b : Nat} {x : Value}, W.cell? ⟨b, 0, none⟩ = some x → b ≠ bi → (W.setCell ⟨bi, 0, none⟩ (.int .i64 u)).cell? ⟨b, 0, none⟩ = some x := fun hx hb => by
    rw [World.cell?_setCell_other _ _ _ _ (by intro e; injection e with e _ _; exact hb e.symm)]; exact hx
  have h1 := h.li
  refine ⟨h.bel.grown (gb_set W ⟨bi, 0, none⟩ (.int .i64 u)) h.bel.size (fun b hb => by cases hb; show w.heap.size ≤ bi; omega), h.lw, h.li, h.ne, h.ln, h.lk, ho h.cn (by omega), ho h.ck (by omega), ho h.cc (by omega), ⟨ho h.cr.1 (by omega), by rw [World.frozen?_setCell]; exact h.cr.2⟩, ⟨?_, by rw [World.frozen?_setCell]; exact h.ci.2⟩, ⟨ho h.cw.1 h.ne, by rw [World.frozen?_setCell]; exact h.cw.2⟩, ho h.nn h.ln.2.2, ho h.kk h.lk.2.2⟩
  exact World.cell?_setCell_same _ _ _ h.ci.1
end

/-- the list with one choice; the empty list -/
def Wn1 (W : World) (base : Nat) (Sp : Nat → Prop) (wv : Value) (K : Nat) (P : Nat → Nat) : Prop :=
  ∃ u g cap, wv = .slice (some ⟨g, 0, none⟩) 1 cap ∧ W.ownsRow base 25 1 wv 1 [u] ∧ NumL W base u K P ∧ Sp g ∧ ∀ b, u.ownBlock = some b → Sp b
def Wn0 (W : World) (base : Nat) (Sp : Nat → Prop) (wv : Value) : Prop :=
  ∃ a cap, wv = .slice a 0 cap ∧ W.ownsRow base 25 1 wv 0 [] ∧ ∀ b, wv.ownBlock = some b → Sp b
section
variable {W W' : World} {base : Nat} {Sp Sp' : Nat → Prop} {wv : Value} {K : Nat} {P P' : Nat → Nat}
theorem Wn1.grown (h : Wn1 W base Sp wv K P) {r : Option Nat} (hg : W.grownBy W' r) (hr : ∀ b, r = some b → ¬ Sp b) : Wn1 W' base Sp wv K P := by
  obtain ⟨u, g, cap, rfl, h1, h2, h3, h4⟩ := h
  refine ⟨u, g, cap, rfl, World.ownsRow.kept h1 hg (Or.inr fun e => hr g e.symm h3), World.ownsRow.kept h2 hg ?_, h3, h4⟩
  cases hu : u.ownBlock with
  | none => exact Or.inl rfl
  | some b => exact Or.inr fun e => hr b e.symm (h4 b hu)
theorem Wn1.below (h : Wn1 W base Sp wv K P) (hb : Below W.heap.size W W') : Wn1 W' base Sp wv K P := h.grown (gb_below hb none) (fun _ e => by cases e)
theorem Wn0.grown (h : Wn0 W base Sp wv) {r : Option Nat} (hg : W.grownBy W' r) (hr : ∀ b, r = some b → ¬ Sp b) : Wn0 W' base Sp wv := by
  obtain ⟨a, cap, rfl, h1, h2⟩ := h
  refine ⟨a, cap, rfl, World.ownsRow.kept h1 hg ?_, h2⟩
  cases hu : (Value.slice a 0 cap).ownBlock with
  | none => exact Or.inl rfl
  | some b => exact Or.inr fun e => hr b e.symm (h2 b hu)
theorem Wn0.below (h : Wn0 W base Sp wv) (hb : Below W.heap.size W W') : Wn0 W' base Sp wv := h.grown (gb_below hb none) (fun _ e => by cases e)
theorem Wn1.sep (h : Wn1 W base Sp wv K P) (hs : ∀ b, b < W.heap.size → Sp b → Sp' b) : Wn1 W base Sp' wv K P := by
  obtain ⟨u, g, cap, rfl, h1, h2, h3, h4⟩ := h
  exact ⟨u, g, cap, rfl, h1, h2, hs _ (World.ownsRow.lt h1 g rfl).2 h3, fun b hb => hs _ (World.ownsRow.lt h2 b hb).2 (h4 b hb)⟩
/-- its one element: where it stands, and what it reads -/
theorem Wn1.elem (h : Wn1 W base Sp wv K P) : ∃ u g cap, wv = .slice (some ⟨g, 0, none⟩) 1 cap ∧ W.cell? ⟨g, 0, none⟩ = some u ∧ NumL W base u K P ∧ Sp g := by
  obtain ⟨u, g, cap, rfl, h1, h2, h3, h4⟩ := h
  obtain ⟨h0, h1⟩ := h1
  rcases h1 with ⟨e, -⟩ | ⟨g', cap', cur, e, k1, k2, k3, k4, k5, k6⟩
  · simp at e
  · simp only [Value.slice.injEq, Option.some.injEq, Addr.mk.injEq, and_true, true_and] at e
    obtain ⟨rfl, rfl⟩ := e
    refine ⟨u, g, cap, rfl, ?_, h2, h3⟩
    rw [cell_of_row _ _ _ _ _ _ k2]
    have := congrArg (·[0]?) k6
    simpa using this
theorem Wn1.room {g cap : Nat} (h : Wn1 W base Sp (.slice (some ⟨g, 0, none⟩) 1 cap) K P) : 1 ≤ cap := by
  obtain ⟨u, g, cap, e, h1, -⟩ := h
  simp only [Value.slice.injEq, Option.some.injEq, Addr.mk.injEq, and_true, true_and] at e
  obtain ⟨rfl, rfl⟩ := e
  rcases h1.2 with ⟨e, -⟩ | ⟨g', cap', cur, e, k1, k2, k3, k4, k5, k6⟩
  · simp at e
  · simp only [Value.slice.injEq, Option.some.injEq, Addr.mk.injEq, and_true, true_and] at e
    obtain ⟨rfl, rfl⟩ := e
    exact k3
/-- cut to nothing -/
theorem Wn1.cut {g cap : Nat} (h : Wn1 W base Sp (.slice (some ⟨g, 0, none⟩) 1 cap) K P) : Wn0 W base Sp (.slice (some ⟨g, 0, none⟩) 0 cap) := by
  obtain ⟨u, g, cap, e, h1, h2, h3, h4⟩ := h
  simp only [Value.slice.injEq, Option.some.injEq, Addr.mk.injEq, and_true, true_and] at e
  obtain ⟨rfl, rfl⟩ := e
  refine ⟨_, _, rfl, ?_, fun b hb => by simp [Value.ownBlock] at hb; subst hb; exact h3⟩
  obtain ⟨h0, h1⟩ := h1
  rcases h1 with ⟨e, -⟩ | ⟨g', cap', cur, e, k1, k2, k3, k4, k5, k6⟩
  · simp at e
  · simp only [Value.slice.injEq, Option.some.injEq, Addr.mk.injEq, and_true, true_and] at e
    obtain ⟨rfl, rfl⟩ := e
    exact ⟨by simp, Or.inr ⟨g, cap, cur, rfl, k1, k2, Nat.zero_le _, k4, k5, by simp⟩⟩
end
theorem wn1_start {w5 w6 : World} {b4 base g cap K : Nat} {P : Nat → Nat} {Sp : Nat → Prop} (h : WL1 w5 b4 (.slice (some ⟨g, 0, none⟩) 1 cap) K P) (hb : Below w5.heap.size w5 w6) (h4 : base ≤ b4) (hS : ∀ b, b4 ≤ b → b < w5.heap.size → Sp b) : Wn1 w6 base Sp (.slice (some ⟨g, 0, none⟩) 1 cap) K P := by
  obtain ⟨u, h1, h2⟩ := h
  have m1 : ∀ {e : TypeId} {v : Value} {n : Nat} {xs : List Value}, w5.ownsRow b4 e 1 v n xs → w5.ownsRow base e 1 v n xs := fun h => by
    obtain ⟨h0, h⟩ := h
    rcases h with h | ⟨g, cap, cur, k0, k1, k2⟩
    · exact ⟨h0, Or.inl h⟩
    · exact ⟨h0, Or.inr ⟨g, cap, cur, k0, Nat.le_trans h4 k1, k2⟩⟩
  refine ⟨u, g, cap, rfl, own_below (m1 h1) hb, own_below (m1 h2) hb, hS _ (World.ownsRow.lt h1 g rfl).1 (World.ownsRow.lt h1 g rfl).2, fun b hb => hS _ (World.ownsRow.lt h2 b hb).1 (World.ownsRow.lt h2 b hb).2⟩
/-- what is wanted when t have come -/
def Wnt (W : World) (base : Nat) (Sp : Nat → Prop) (wv : Value) (N K t : Nat) : Prop :=
  ((∀ s, s < t → ¬ LastS N K s) → Wn1 W base Sp wv K (setS N K t)) ∧ ((∃ s, s < t ∧ LastS N K s) → Wn0 W base Sp wv)
theorem Wnt.grown {W W' : World} {base : Nat} {Sp : Nat → Prop} {wv : Value} {N K t : Nat} (h : Wnt W base Sp wv N K t) {r : Option Nat} (hg : W.grownBy W' r) (hr : ∀ b, r = some b → ¬ Sp b) : Wnt W' base Sp wv N K t :=
  ⟨fun a => (h.1 a).grown hg hr, fun a => (h.2 a).grown hg hr⟩

theorem wn0_next {W : World} {base : Nat} {Sp : Nat → Prop} {wv : Value} {N K t : Nat} (h : Wn0 W base Sp wv) (hl : LastS N K t) : Wnt W base Sp wv N K (t + 1) :=
  ⟨fun a => absurd hl (a t (by omega)), fun _ => h⟩
theorem wn1_next {W : World} {base : Nat} {Sp : Nat → Prop} {wv : Value} {N K t : Nat} (h : Wn1 W base Sp wv K (setS N K (t + 1))) (hl : ∀ s, s < t → ¬ LastS N K s) (hh : 0 < hiI N K (setS N K t) K) : Wnt W base Sp wv N K (t + 1) :=
  ⟨fun _ => h, fun ⟨s, h1, h2⟩ => by
    exfalso
    rcases Nat.lt_succ_iff_lt_or_eq.1 h1 with h3 | h3
    · exact hl s h3 h2
    · rw [h3] at h2; unfold LastS at h2; omega⟩
/-- the next choice laid into the room of the empty list -/
theorem wn1_push {W W' : World} {base b2 g cap g' cap' K : Nat} {Sp : Nat → Prop} {P : Nat → Nat} (hn : NumL W b2 (.slice (some ⟨g', 0, none⟩) K cap') K P) (hb2 : base ≤ b2) (hS : Sp g) (hS' : ∀ b, b2 ≤ b → b < W.heap.size → Sp b) (hne : g < b2)
    (h1 : W'.ownsRow base 25 1 (.slice (some ⟨g, 0, none⟩) (0 + 1) cap) (0 + 1) ([] ++ [.slice (some ⟨g', 0, none⟩) K cap'])) (h2 : (W.alloc (.cells #[.slice (some ⟨g', 0, none⟩) K cap'] 25)).grownBy W' (some g)) : Wn1 W' base Sp (.slice (some ⟨g, 0, none⟩) 1 cap) K P := by
  have hlt := World.ownsRow.lt hn g' rfl
  refine ⟨_, g, cap, rfl, h1, ?_, hS, fun b hb => ?_⟩
  · have m1 : W.ownsRow base 3 1 (.slice (some ⟨g', 0, none⟩) K cap') K ((List.range K).map fun i => .int .i64 (P i : Nat)) := by
      obtain ⟨h0, h⟩ := hn
      rcases h with h | ⟨x, cap, cur, k0, k1, k2⟩
      · exact ⟨h0, Or.inl h⟩
      · exact ⟨h0, Or.inr ⟨x, cap, cur, k0, Nat.le_trans hb2 k1, k2⟩⟩
    exact World.ownsRow.kept (m1.alloc _) h2 (Or.inr fun e => by simp [Value.ownBlock] at e; omega)
  · simp [Value.ownBlock] at hb
    subst hb
    exact hS' _ hlt.1 hlt.2

/-- a round keeps the block X and whatever is no cells -/
def Kx (X : Nat) (W W' : World) : Prop := KeepsOthers W W' ∧ W'.heap[X]? = W.heap[X]? ∧ W.heap.size ≤ W'.heap.size
theorem Kx.refl (X : Nat) (W : World) : Kx X W W := ⟨KeepsOthers.refl _, rfl, Nat.le_refl _⟩
theorem Kx.trans {X : Nat} {A B C : World} (h : Kx X A B) (k : Kx X B C) : Kx X A C := ⟨h.1.trans k.1, k.2.1.trans h.2.1, Nat.le_trans h.2.2 k.2.2⟩
theorem Kx.below {X : Nat} {W W' : World} (hb : Below W.heap.size W W') (hX : X < W.heap.size) : Kx X W W' := ⟨KeepsOthers.of_grownBy (gb_below hb none) (fun _ _ e => by cases e), hb.block X hX, hb.size⟩
theorem Kx.set {X : Nat} (W : World) (b i : Nat) (v : Value) (hb : b ≠ X) : Kx X W (W.setCell ⟨b, i, none⟩ v) := ⟨KeepsOthers.setCell _ _ _, heap_setCell_other W ⟨b, i, none⟩ X v (fun e => hb e.symm), by simp [World.setCell]⟩
/-- what a round is told: W stands behind W0, but for the loop's own record D -/
def RowS (D N K t : Nat) (W0 W : World) (v : Value) : Prop := (∀ s, s < t → ¬ LastS N K s) ∧ D + 1 < W0.heap.size ∧ W0.heap.size < W.heap.size ∧ v = .slice (some ⟨W0.heap.size, 0, none⟩) K K ∧ NumL W W0.heap.size v K (setS N K t) ∧ W0.grownBy W (some D)
theorem RowS.put {D N K t : Nat} {W0 W W' : World} {v : Value} (h : RowS D N K t W0 W v) (hg : W.grownBy W' (some D)) : RowS D N K t W0 W' v := by
  obtain ⟨h1, h2, h3, h4, h5, h6⟩ := h
  refine ⟨h1, h2, Nat.lt_of_lt_of_le h3 hg.size, h4, World.ownsRow.kept h5 hg (Or.inr fun e => ?_), gb_trans h6 hg⟩
  rw [h4] at e
  simp [Value.ownBlock] at e
  omega
theorem NumL.cells {w : World} {base g cap n : Nat} {P : Nat → Nat} (h : NumL w base (.slice (some ⟨g, 0, none⟩) n cap) n P) : RowAt .i64 w g 0 n (fun i => (P i : Int)) := by
  rcases Nat.eq_zero_or_pos n with rfl | hn
  · exact fun i hi => absurd hi (by omega)
  · obtain ⟨g', cap', e, -, -, -, hr, -⟩ := h.row hn
    simp only [Value.slice.injEq, Option.some.injEq, Addr.mk.injEq, and_true, true_and] at e
    obtain ⟨rfl, rfl⟩ := e
    exact hr
theorem Wn0.sep {W : World} {base : Nat} {Sp Sp' : Nat → Prop} {wv : Value} (h : Wn0 W base Sp wv) (hs : ∀ b, Sp b → Sp' b) : Wn0 W base Sp' wv := by
  obtain ⟨a, cap, e, h1, h2⟩ := h
  exact ⟨a, cap, e, h1, fun b hb => hs b (h2 b hb)⟩
theorem Wnt.sep {W : World} {base : Nat} {Sp Sp' : Nat → Prop} {wv : Value} {N K t : Nat} (h : Wnt W base Sp wv N K t) (hs : ∀ b, Sp b → Sp' b) : Wnt W base Sp' wv N K t :=
  ⟨fun a => (h.1 a).sep fun b _ hb => hs b hb, fun a => (h.2 a).sep hs⟩
end Go.Proofs.Ytncldpadakckjaa

namespace Go.Proofs.Ytncldpadakckjaa
open Go.RowKit

/-- a row of the call's own, from cell 0 of its block on (of its capacity nothing is asked but that it is there) -/
def OwnR (w : World) (base : Nat) (e : TypeId) (size : Nat) (v : Value) (n : Nat) (xs : List Value) : Prop :=
  xs.length = n * size ∧
  ((v = .slice none 0 0 ∧ n = 0) ∨ ∃ g cap cur, v = .slice (some ⟨g, 0, none⟩) n cap ∧ base ≤ g ∧ w.heap[g]? = some (.cells cur e (0, 0)) ∧ n ≤ cap ∧ cur.size = cap * size ∧ cur.toList.take (n * size) = xs)

section
variable {w w' : World} {base : Nat} {e : TypeId} {size n : Nat} {v : Value} {xs : List Value}
theorem OwnR.of (h : w.ownsRow base e size v n xs) : OwnR w base e size v n xs := by
  refine ⟨h.1, ?_⟩
  rcases h.2 with h2 | ⟨g, cap, cur, h1, h2, h3, h4, -, h6, h7⟩
  · exact Or.inl h2
  · exact Or.inr ⟨g, cap, cur, h1, h2, h3, h4, h6, h7⟩
theorem OwnR.nil (w : World) (base : Nat) (e : TypeId) (size : Nat) : OwnR w base e size (.slice none 0 0) 0 [] := ⟨by simp, Or.inl ⟨rfl, rfl⟩⟩
theorem OwnR.lt (h : OwnR w base e size v n xs) : ∀ k, v.ownBlock = some k → base ≤ k ∧ k < w.heap.size := fun k hk => by
  rcases h.2 with ⟨rfl, _⟩ | ⟨g, cap, cur, rfl, h2, h3, -⟩
  · simp [Value.ownBlock] at hk
  · simp [Value.ownBlock] at hk; subst hk; exact ⟨h2, lt_of_block h3⟩
theorem OwnR.kept (h : OwnR w base e size v n xs) {row : Option Nat} (hg : w.grownBy w' row) (hne : v.ownBlock = none ∨ v.ownBlock ≠ row) : OwnR w' base e size v n xs := by
  refine ⟨h.1, ?_⟩
  rcases h.2 with ⟨rfl, h0⟩ | ⟨g, cap, cur, rfl, h2, h3, h4, h5, h6⟩
  · exact Or.inl ⟨rfl, h0⟩
  · refine Or.inr ⟨g, cap, cur, rfl, h2, ?_, h4, h5, h6⟩
    rw [hg.block g (lt_of_block h3) (by rcases hne with e1 | e1; simp [Value.ownBlock] at e1; exact fun e2 => e1 (by simpa [Value.ownBlock] using e2))]
    exact h3
theorem OwnR.below (h : OwnR w base e size v n xs) (hb : Below w.heap.size w w') : OwnR w' base e size v n xs := h.kept (gb_below hb none) (by cases v.ownBlock <;> simp)
theorem OwnR.mono (h : OwnR w base e size v n xs) {base' : Nat} (hb : base' ≤ base) : OwnR w base' e size v n xs := by
  refine ⟨h.1, ?_⟩
  rcases h.2 with h2 | ⟨g, cap, cur, h1, h2, h3⟩
  · exact Or.inl h2
  · exact Or.inr ⟨g, cap, cur, h1, Nat.le_trans hb h2, h3⟩
theorem OwnR.slice (h : OwnR w base e size v n xs) : ∃ a c, v = .slice a n c := by
  rcases h.2 with ⟨rfl, rfl⟩ | ⟨g, cap, cur, rfl, -⟩
  · exact ⟨_, _, rfl⟩
  · exact ⟨_, _, rfl⟩
end

/-- every row stays that lies in another block than v's, or ends within the first m cells of it -/
def KeepsRows (w w' : World) (v : Value) (m : Nat) : Prop := ∀ (B : Nat) (e : TypeId) (z : Nat) (u : Value) (nu : Nat) (ys : List Value), OwnR w B e z u nu ys → (u.ownBlock = none ∨ u.ownBlock ≠ v.ownBlock ∨ nu * z ≤ m) → OwnR w' B e z u nu ys
theorem KeepsRows.of {w w' : World} (v : Value) (m : Nat) (h : ∀ row, w.grownBy w' row) : KeepsRows w w' v m := fun B e z u nu ys hu _ => hu.kept (h none) (by cases u.ownBlock <;> simp)

section
variable {P : Program} (w : World)
/-- THE LAW -/
theorem run_append_keeps (t ty : TypeId) (base : Nat) (e : TypeId) (i : TypeInfo) (z : Value) (size bytes : Nat) (ht : P.underlying t = some (.slice e)) (hi : P.info? e = some i) (hz : i.zero = some z)
    (hsize : i.size = size) (hby : i.bytes = bytes) (hzs : z.cells.size = size)
    (v : Value) (n : Nat) (xs : List Value) (hown : OwnR w base e size v n xs)
    (ad : Addr) (m c : Nat) (news : List Value) (hl : news.length = m * size) (hnews : ∀ j u, news[j]? = some u → w.cell? (ad.add j) = some u) (h1 : ∀ u ∈ news, u.oneCell' = true)
    (hm : 0 < m) (h63 : n + m ≤ maxLen) (hbytes : (n + m) * bytes ≤ 140737488355328) (hbase : base ≤ w.heap.size) (H : Nat) (hH : w.heap.size = H) :
    ∃ g cap w', (Builtin.append_ #[t, t] ty #[v, .slice (some ad) m c]).run P w = .ok (.slice (some ⟨g, 0, none⟩) (n + m) cap) w' ∧
      OwnR w' base e size (.slice (some ⟨g, 0, none⟩) (n + m) cap) (n + m) (xs ++ news) ∧ KeepsRows w w' v (n * size) ∧ w.grownBy w' v.ownBlock ∧ (v.ownBlock = some g ∨ g = H) ∧ g < w'.heap.size := by
  subst hsize
  subst hby
  subst hH
  have hsm : n + m ≤ 9223372036854775807 := by simp only [maxLen] at h63; omega
  have hlen : (xs ++ news).length = (n + m) * i.size := by rw [List.length_append, hown.1, hl, Nat.add_mul]
  have made : ∀ (k : Nat), n + m ≤ k →
      OwnR (w.drew.alloc (.cells (xs.toArray ++ news.toArray ++ Builtin.zeroCells z.cells (k - (n + m))) e)) base e i.size (.slice (some ⟨w.heap.size, 0, none⟩) (n + m) k) (n + m) (xs ++ news) ∧
      (∀ row, w.grownBy (w.drew.alloc (.cells (xs.toArray ++ news.toArray ++ Builtin.zeroCells z.cells (k - (n + m))) e)) row) := fun k hk => by
    refine ⟨⟨hlen, Or.inr ⟨w.heap.size, k, _, rfl, hbase, heap_alloc_new w.drew _, hk, ?_, ?_⟩⟩, fun row => ⟨rfl, rfl, rfl, by simp, fun b hb _ => heap_alloc_old w.drew _ hb⟩⟩
    · have e1 : (xs.toArray ++ news.toArray).size = (n + m) * i.size := by rw [Array.size_append, List.size_toArray, List.size_toArray, ← List.length_append, hlen]
      rw [Array.size_append, e1, size_zeroCells, hzs, ← Nat.add_mul]
      congr 1; omega
    · rw [Array.toList_append, Array.toList_append, List.take_append_of_le_length (by rw [List.length_append, ← List.length_append]; exact Nat.le_of_eq hlen.symm), ← hlen]
      exact List.take_length
  rcases hown.2 with ⟨rfl, rfl⟩ | ⟨g, cap, cur, rfl, hbg, hg, hnc, hcs, htake⟩
  · have hx : xs = [] := List.eq_nil_of_length_eq_zero (by simpa using hown.1)
    subst hx
    have hr := run_append_nil (P := P) w t ty e i z ht hi hz ad m c news hl hnews hm (by omega) (by rw [Nat.zero_add] at hbytes; omega)
    obtain ⟨g1, g2⟩ := made (grownCap w m 0 e) (by rw [Nat.zero_add]; exact grownCap_ge w m 0 e)
    simp only [Nat.zero_add, List.nil_append, Array.empty_append] at g1 g2 ⊢
    exact ⟨_, _, _, hr, g1, KeepsRows.of _ _ g2, g2 _, Or.inr rfl, by simp⟩
  · by_cases hroom : n + m ≤ cap
    · have hfit : n * i.size + news.length ≤ cur.size := by rw [hl, hcs, ← Nat.add_mul]; exact Nat.mul_le_mul_right _ hroom
      have hr := run_append_room (P := P) w t ty e i ht hi g n cap cur hg ad m c news hl hnews h1 hroom hfit
      have hset := setRow_heap w g cur (cur.toList.take (n * i.size) ++ news ++ cur.toList.drop (n * i.size + news.length)).toArray e (0, 0) hg
      have hsz : (cur.toList.take (n * i.size) ++ news ++ cur.toList.drop (n * i.size + news.length)).toArray.size = cap * i.size := by
        simp only [List.size_toArray, List.length_append, List.length_take, List.length_drop, Array.length_toList]; omega
      have hgb : w.grownBy (w.setRow g (cur.toList.take (n * i.size) ++ news ++ cur.toList.drop (n * i.size + news.length)).toArray) (Value.ownBlock (.slice (some ⟨g, 0, none⟩) n cap)) := ⟨rfl, rfl, rfl, by simp, fun k _ hk => setRow_other w g k _ (fun e => hk (by simp [Value.ownBlock, e]))⟩
      refine ⟨_, _, _, hr, ⟨hlen, Or.inr ⟨g, cap, _, rfl, hbg, hset, hroom, hsz, ?_⟩⟩, ?_, hgb, Or.inl rfl, ?_⟩
      · rw [htake, ← hlen]; exact List.take_left
      · intro B2 e2 z2 u nu ys hu hside
        by_cases hue : u.ownBlock = some g
        · rcases hu.2 with ⟨rfl, -⟩ | ⟨g', cap', cur', rfl, k2, k3, k4, k5, k6⟩
          · simp [Value.ownBlock] at hue
          · simp [Value.ownBlock] at hue
            subst hue
            rw [hg] at k3
            injection k3 with k3
            injection k3 with k3a k3b k3c
            subst k3a
            subst k3b
            have hle : nu * z2 ≤ n * i.size := by
              rcases hside with h | h | h
              · simp [Value.ownBlock] at h
              · exact absurd rfl h
              · exact h
            refine ⟨hu.1, Or.inr ⟨g', cap', _, rfl, k2, hset, k4, by rw [hsz, ← hcs, k5], ?_⟩⟩
            have hnl : n * i.size ≤ cur.toList.length := by rw [Array.length_toList, hcs]; exact Nat.mul_le_mul_right _ hnc
            show List.take (nu * z2) (List.take (n * i.size) cur.toList ++ news ++ _) = ys
            rw [List.append_assoc, List.take_append_of_le_length (by rw [List.length_take]; omega), List.take_take, Nat.min_eq_left hle]
            exact k6
        · exact hu.kept hgb (by
            cases hb : u.ownBlock with
            | none => exact Or.inl rfl
            | some b => right; rw [← hb]; simpa [Value.ownBlock] using hue)
      · simpa using lt_of_block hg
    · have holds : ∀ j u, xs[j]? = some u → w.cell? ((⟨g, 0, none⟩ : Addr).add j) = some u := fun j u hj => by
        rw [Addr.add_lit, cell_of_row _ _ _ _ _ _ hg]
        have hjl : j < n * i.size := by rw [← hown.1]; exact (List.getElem?_eq_some_iff.1 hj).1
        rw [← htake, List.getElem?_take, if_pos hjl] at hj
        simpa using hj
      have hr := run_append_grow (P := P) w t ty e i z ht hi hz ⟨g, 0, none⟩ n cap xs hown.1 holds ad m c news hl hnews (by omega) (by omega) (growslice_fits (by omega) hbytes)
      obtain ⟨g1, g2⟩ := made (grownCap w (n + m) cap e) (grownCap_ge w (n + m) cap e)
      exact ⟨_, _, _, hr, g1, KeepsRows.of _ _ g2, g2 _, Or.inr rfl, by simp⟩

/-- at the operation -/
theorem wp_append_keeps {o : Oper} {a : Act} {K : Act → World → Prop} {Q : Exit → Act → World → Prop} (s x : Operand) (t : TypeId)
    (ho : o.op = .call { callee := .builtin .append, args := #[s, x], argTypes := #[t, t] })
    (base : Nat) (e : TypeId) (i : TypeInfo) (z : Value) (size bytes : Nat) (ht : P.underlying t = some (.slice e)) (hi : P.info? e = some i) (hz : i.zero = some z)
    (hsize : i.size = size) (hby : i.bytes = bytes) (hzs : z.cells.size = size)
    (v : Value) (n : Nat) (xs : List Value) (hs : a.eval s = v) (hown : OwnR w base e size v n xs)
    (ad : Addr) (m c : Nat) (news : List Value) (hx : a.eval x = .slice (some ad) m c) (hl : news.length = m * size) (hnews : ∀ j u, news[j]? = some u → w.cell? (ad.add j) = some u) (h1 : ∀ u ∈ news, u.oneCell' = true)
    (hm : 0 < m) (h63 : n + m ≤ maxLen) (hbytes : (n + m) * bytes ≤ 140737488355328) (hbase : base ≤ w.heap.size) (H : Nat) (hH : w.heap.size = H)
    (h : ∀ g cap w', OwnR w' base e size (.slice (some ⟨g, 0, none⟩) (n + m) cap) (n + m) (xs ++ news) → KeepsRows w w' v (n * size) → w.grownBy w' v.ownBlock → (v.ownBlock = some g ∨ g = H) → g < w'.heap.size → K (a.put o.dst (.slice (some ⟨g, 0, none⟩) (n + m) cap)) w') : o.wp P a w K Q := by
  obtain ⟨g, cap, w', hr, h2, h3, h4, h5, h6⟩ := run_append_keeps (P := P) w t o.type base e i z size bytes ht hi hz hsize hby hzs v n xs hown ad m c news hl hnews h1 hm h63 hbytes hbase H hH
  unfold Oper.wp execOp
  simp only [ho, resolve, invoke, builtin, Sem.run_bind, Sem.run_pure, Result.andThen_ok, List.map_toArray, List.map_cons, List.map_nil, hs, hx, hr]
  exact h g cap w' h2 h3 h4 h5 h6

/-- at the list of a plain region's operations -/
theorem wpList_append_keeps {ops : Array Oper} {rest : List Oper} {o : Oper} {a : Act} {Q : Exit → Act → World → Prop} (hgd : o.guard = none) (s x : Operand) (t : TypeId)
    (ho : o.op = .call { callee := .builtin .append, args := #[s, x], argTypes := #[t, t] })
    (base : Nat) (e : TypeId) (i : TypeInfo) (z : Value) (size bytes : Nat) (ht : P.underlying t = some (.slice e)) (hi : P.info? e = some i) (hz : i.zero = some z)
    (hsize : i.size = size) (hby : i.bytes = bytes) (hzs : z.cells.size = size)
    (v : Value) (n : Nat) (xs : List Value) (hs : a.eval s = v) (hown : OwnR w base e size v n xs)
    (ad : Addr) (m c : Nat) (news : List Value) (hx : a.eval x = .slice (some ad) m c) (hl : news.length = m * size) (hnews : ∀ j u, news[j]? = some u → w.cell? (ad.add j) = some u) (h1 : ∀ u ∈ news, u.oneCell' = true)
    (hm : 0 < m) (h63 : n + m ≤ maxLen) (hbytes : (n + m) * bytes ≤ 140737488355328) (hbase : base ≤ w.heap.size) (H : Nat) (hH : w.heap.size = H)
    (h : ∀ g cap w', OwnR w' base e size (.slice (some ⟨g, 0, none⟩) (n + m) cap) (n + m) (xs ++ news) → KeepsRows w w' v (n * size) → w.grownBy w' v.ownBlock → (v.ownBlock = some g ∨ g = H) → g < w'.heap.size →
      wpList P ops Q rest (a.put o.dst (.slice (some ⟨g, 0, none⟩) (n + m) cap)) w') : wpList P ops Q (o :: rest) a w :=
  wpList_plain hgd fun _ hK => wp_append_keeps w s x t ho base e i z size bytes ht hi hz hsize hby hzs v n xs hs hown ad m c news hx hl hnews h1 hm h63 hbytes hbase H hH fun g cap w' h2 h3 h4 h5 h6 => hK _ _ (h g cap w' h2 h3 h4 h5 h6)
end

/-- the blocks of S may be written, all else stays -/
structure GrownS (S : Nat → Prop) (w w' : World) : Prop where
  os : w'.os = w.os
  tape : w'.tape = w.tape
  output : w'.output = w.output
  size : w.heap.size ≤ w'.heap.size
  block : ∀ k, k < w.heap.size → ¬ S k → w'.heap[k]? = w.heap[k]?
theorem GrownS.refl (S : Nat → Prop) (w : World) : GrownS S w w := ⟨rfl, rfl, rfl, Nat.le_refl _, fun _ _ _ => rfl⟩
theorem GrownS.trans {S : Nat → Prop} {w w1 w2 : World} (h : GrownS S w w1) (g : GrownS S w1 w2) : GrownS S w w2 :=
  ⟨g.os.trans h.os, g.tape.trans h.tape, g.output.trans h.output, Nat.le_trans h.size g.size, fun k hk hs => (g.block k (Nat.lt_of_lt_of_le hk h.size) hs).trans (h.block k hk hs)⟩
theorem GrownS.step {S : Nat → Prop} {w w1 w2 : World} {r : Option Nat} (h : GrownS S w w1) (g : w1.grownBy w2 r) (hr : ∀ k, r = some k → S k ∨ w.heap.size ≤ k) : GrownS S w w2 :=
  ⟨g.os.trans h.os, g.tape.trans h.tape, g.output.trans h.output, Nat.le_trans h.size g.size, fun k hk hs => (g.block k (Nat.lt_of_lt_of_le hk h.size) (fun e => by rcases hr k e.symm with h1 | h1; exact hs h1; omega)).trans (h.block k hk hs)⟩
theorem GrownS.below {S : Nat → Prop} {w w1 w2 : World} (h : GrownS S w w1) (g : Below w1.heap.size w1 w2) : GrownS S w w2 := h.step (gb_below g none) (fun k hk => by cases hk)
theorem GrownS.mono {S S' : Nat → Prop} {w w1 : World} (h : GrownS S w w1) (g : ∀ k, S k → S' k) : GrownS S' w w1 := { h with block := fun k hk hs => h.block k hk fun h' => hs (g k h') }
theorem GrownS.toBelow {S : Nat → Prop} {w w1 : World} {B : Nat} (h : GrownS S w w1) (hB : B ≤ w.heap.size) (hS : ∀ k, S k → B ≤ k) : Below B w w1 :=
  ⟨h.os, h.tape, h.output, h.size, fun k hk => h.block k (by omega) fun hs => by have := hS k hs; omega⟩
theorem GrownS.drew {S : Nat → Prop} {w w1 : World} (h : GrownS S w w1) : GrownS S w w1.drew := ⟨h.os, h.tape, h.output, h.size, h.block⟩
theorem OwnR.keptS {w w' : World} {base : Nat} {e : TypeId} {size n : Nat} {v : Value} {xs : List Value} {S : Nat → Prop} (h : OwnR w base e size v n xs) (g : GrownS S w w') (hu : ∀ k, v.ownBlock = some k → ¬ S k) : OwnR w' base e size v n xs := by
  refine ⟨h.1, ?_⟩
  rcases h.2 with ⟨rfl, h0⟩ | ⟨b, cap, cur, rfl, h2, h3, h4, h5, h6⟩
  · exact Or.inl ⟨rfl, h0⟩
  · exact Or.inr ⟨b, cap, cur, rfl, h2, by rw [g.block b (lt_of_block h3) (hu b rfl)]; exact h3, h4, h5, h6⟩
theorem OwnR.drew {w : World} {base : Nat} {e : TypeId} {size n : Nat} {v : Value} {xs : List Value} (h : OwnR w base e size v n xs) : OwnR w.drew base e size v n xs := h
end Go.Proofs.Ytncldpadakckjaa

namespace Go.Proofs.Ytncldpadakckjaa
open Go.RowKit


/-- the mark of the place j of the list with the number i -/
def mkS (i j : Nat) : Int := 4323455642275676160 + (i : Int) * 1048576 + (j : Int)

set_option maxHeartbeats 1000000 in
theorem sign_any (i j : Nat) (hi : i ≤ 16777216) (hj : j ≤ 35184372088832) (w : World) :
    Calls Try.prog 98 #[.int .i64 i, .int .i64 j] w fun e w' => e = .returned (.int .u64 (mkS i j)) ∧ w = w' := by
  have e1 : IntKind.u64.wrap (i : Int) = i := IntWalk.u64_in _ (by omega)
  have e2 : IntKind.u64.wrap (j : Int) = j := IntWalk.u64_in _ (by omega)
  have e3 : IntKind.u64.wrap ((i : Int) * 1048576) = (i : Int) * 1048576 := IntWalk.u64_in _ (by omega)
  have e4 : IntKind.u64.wrap (4323455642275676160 + (i : Int) * 1048576) = 4323455642275676160 + (i : Int) * 1048576 := IntWalk.u64_in _ (by omega)
  have e5 : IntKind.u64.wrap (4323455642275676160 + (i : Int) * 1048576 + (j : Int)) = 4323455642275676160 + (i : Int) * 1048576 + (j : Int) := IntWalk.u64_in _ (by omega)
  go_enter Try.func98, Try.ntmps98
  go_wp2_with fail
  go_ret
  exact ⟨by first | rfl | (unfold mkS; rfl), rfl⟩
end Go.Proofs.Ytncldpadakckjaa

namespace Go.Proofs.Ytncldpadakckjaa
open Go.RowKit

theorem infoBN : (Try.prog.info? 25).map (fun i => (i.zero, i.size, i.bytes)) = some (some (.slice none 0 0), 1, 24) := by kernel_rfl

/-- the book bk holds nW lists of numbers, W 0, W 1, ..; no words, and the lists of integers in vI (none) -/
structure BookN (w : World) (bk : Nat) (vW : Value) (nW : Nat) (W : Nat → Value) (vI : Value) (nI : Nat) (I : Nat → Value) : Prop where
  c0 : w.cell? ⟨bk, 2, none⟩ = some vW ∧ w.frozen? ⟨bk, 2, none⟩ = false
  c1 : w.cell? ⟨bk, 1, none⟩ = some vI ∧ w.frozen? ⟨bk, 1, none⟩ = false
  c2 : w.cell? ⟨bk, 0, none⟩ = some (.slice none 0 0)
  oW : w.ownsRow (bk + 1) 25 1 vW nW ((List.range nW).map W)
  oI : w.ownsRow (bk + 1) 22 1 vI nI ((List.range nI).map I)
section
variable {w w1 w2 w' : World} {bk nW nI : Nat} {vW vI v vW' : Value} {W I : Nat → Value}
theorem BookN.lt (h : BookN w bk vW nW W vI nI I) : bk < w.heap.size := World.block_lt_of_cell? w _ h.c0.1
theorem BookN.below (h : BookN w bk vW nW W vI nI I) (hb : Below w.heap.size w w') : BookN w' bk vW nW W vI nI I :=
  ⟨⟨cell_stays hb h.c0.1, froz_stays hb h.c0.1 h.c0.2⟩, ⟨cell_stays hb h.c1.1, froz_stays hb h.c1.1 h.c1.2⟩, cell_stays hb h.c2, own_below h.oW hb, own_below h.oI hb⟩
theorem BookN.grown (h : BookN w bk vW nW W vI nI I) {r : Option Nat} (hg : w.grownBy w' r) (h0 : some bk ≠ r) (h1 : vW.ownBlock = none ∨ vW.ownBlock ≠ r) (h2 : vI.ownBlock = none ∨ vI.ownBlock ≠ r) : BookN w' bk vW nW W vI nI I :=
  ⟨⟨hg.cell h.c0.1 h0, (hg.frozen_far _ h.lt h0).trans h.c0.2⟩, ⟨hg.cell h.c1.1 h0, (hg.frozen_far _ h.lt h0).trans h.c1.2⟩, hg.cell h.c2 h0, h.oW.kept hg h1, h.oI.kept hg h2⟩
end
end Go.Proofs.Ytncldpadakckjaa

namespace Go.Proofs.Ytncldpadakckjaa
open Go.RowKit

def nlst (F : Nat → Int) (n : Nat) : List Value := (List.range n).map fun j => .int .i64 (F j)
theorem nlst_len (F : Nat → Int) (n : Nat) : (nlst F n).length = n := by simp [nlst]
theorem nlst_congr {F G : Nat → Int} {n : Nat} (h : ∀ j, j < n → F j = G j) : nlst F n = nlst G n := List.map_congr_left fun j hj => by rw [h j (by simpa using hj)]
theorem nlst_snoc (F : Nat → Int) (n : Nat) : nlst F (n + 1) = nlst F n ++ [.int .i64 (F n)] := by unfold nlst; rw [List.range_succ, List.map_append]; rfl
theorem nlst_get (F : Nat → Int) {n j : Nat} (hj : j < n) : (nlst F n)[j]? = some (.int .i64 (F j)) := by unfold nlst; simp [hj]

/-- a list of n words of the call's own, holding F -/
def NLs (w : World) (B : Nat) (v : Value) (n : Nat) (F : Nat → Int) : Prop := OwnR w B 3 1 v n (nlst F n)

section
variable {w w' : World} {B n : Nat} {v : Value} {F G : Nat → Int}
theorem NLs.congr (h : NLs w B v n F) (e : ∀ j, j < n → F j = G j) : NLs w B v n G := by unfold NLs; rw [← nlst_congr e]; exact h
theorem NLs.cell (h : NLs w B v n F) {j : Nat} (hj : j < n) : ∃ g cap, v = .slice (some ⟨g, 0, none⟩) n cap ∧ B ≤ g ∧ g < w.heap.size ∧ w.cell? ⟨g, j, none⟩ = some (.int .i64 (F j)) ∧ w.frozen? ⟨g, j, none⟩ = false := by
  rcases h.2 with ⟨rfl, h0⟩ | ⟨g, cap, cur, rfl, h2, h3, h4, h5, h6⟩
  · omega
  · refine ⟨g, cap, rfl, h2, lt_of_block h3, ?_, ?_⟩
    · rw [cell_of_row _ _ _ _ _ _ h3]
      have := nlst_get F hj
      rw [← h6, List.getElem?_take, if_pos (by omega)] at this
      simpa using this
    · unfold World.frozen?; simp only; rw [h3]; simp
theorem NLs.set (h : NLs w B v n F) {j g : Nat} (hv : v.ownBlock = some g) (y : Int) : NLs (w.setCell ⟨g, j, none⟩ (.int .i64 y)) B v n (fun c => if c = j then y else F c) := by
  refine ⟨by rw [nlst_len, Nat.mul_one], ?_⟩
  rcases h.2 with ⟨rfl, h0⟩ | ⟨g', cap, cur, rfl, h2, h3, h4, h5, h6⟩
  · simp [Value.ownBlock] at hv
  · simp [Value.ownBlock] at hv
    subst hv
    refine Or.inr ⟨g', cap, _, rfl, h2, heap_setCell_same w g' j cur _ _ h3, h4, by simpa using h5, ?_⟩
    apply List.ext_getElem?
    intro i
    rw [List.getElem?_take]
    by_cases hi : i < n
    · rw [if_pos (by omega), nlst_get _ hi]
      have hc := nlst_get F hi
      rw [← h6, List.getElem?_take, if_pos (by omega)] at hc
      simp only [Array.getElem?_toList, Array.getElem?_setIfInBounds] at hc ⊢
      by_cases e : i = j
      · subst e
        have : i < cur.size := by omega
        simp [this]
      · rw [if_neg (fun e' => e e'.symm), hc, if_neg e]
    · rw [if_neg (by omega), List.getElem?_eq_none (by rw [nlst_len]; omega)]
theorem NLs.read (h : NLs w B v n F) (hn : n ≤ 17592186044416) : RdA .i64 w v n F := by
  rcases Nat.eq_zero_or_pos n with rfl | h0
  · obtain ⟨a, c, rfl⟩ := h.slice
    refine ⟨a, c, rfl, Nat.zero_le _, Nat.zero_le _, fun h => absurd h (by omega)⟩
  · obtain ⟨g, cap, rfl, -⟩ := h.cell h0
    have hnc : n ≤ cap := by
      rcases h.2 with ⟨e, -⟩ | ⟨g', cap', cur, e, -, -, h4, -⟩
      · simp at e
      · simp at e; omega
    refine ⟨_, cap, rfl, hnc, hn, fun _ => ⟨g, 0, rfl, fun i hi => ?_⟩⟩
    obtain ⟨g', cap', e, -, -, h1, -⟩ := h.cell hi
    simp at e
    rw [Nat.zero_add, e.1]; exact h1
theorem NLs.below (h : NLs w B v n F) (hb : Below w.heap.size w w') : NLs w' B v n F := OwnR.below h hb
theorem NLs.lt (h : NLs w B v n F) : ∀ k, v.ownBlock = some k → B ≤ k ∧ k < w.heap.size := OwnR.lt h
theorem NLs.kept (h : NLs w B v n F) {r : Option Nat} (hg : w.grownBy w' r) (hne : v.ownBlock = none ∨ v.ownBlock ≠ r) : NLs w' B v n F := OwnR.kept h hg hne
theorem NLs.slice (h : NLs w B v n F) : ∃ a c, v = .slice a n c := OwnR.slice h
end

theorem own_cellN {w : World} {B : Nat} {e : TypeId} {v : Value} {n : Nat} {W : Nat → Value} (h : w.ownsRow B e 1 v n ((List.range n).map W)) {i : Nat} (hi : i < n) : ∃ g cap, v = .slice (some ⟨g, 0, none⟩) n cap ∧ w.cell? ⟨g, i, none⟩ = some (W i) := by
  rcases h.2 with ⟨rfl, h0⟩ | ⟨g, cap, cur, rfl, -, h3, h4, -, h6, h7⟩
  · omega
  · refine ⟨g, cap, rfl, ?_⟩
    rw [cell_of_row _ _ _ _ _ _ h3]
    have : (cur.toList.take (n * 1))[i]? = ((List.range n).map W)[i]? := by rw [h7]
    rw [List.getElem?_take, if_pos (by omega)] at this
    simpa [hi] using this

theorem mk_bn (n : Nat) (hn : n ≤ 16777216) (u : World) : (Instr.makeSlice 52 (.int .i64 n) (.int .i64 n)).run Try.prog u =
    .ok (.slice (some ⟨u.heap.size, 0, none⟩) n n) (u.alloc (.cells (madeCells #[.slice none 0 0] n) 25)) := by
  obtain ⟨i0, hi, hz0, hz1, hz2⟩ := info_parts infoBN
  have h := run_make (P := Try.prog) u 52 25 i0 (.slice none 0 0) Try.underlying52 hi hz0 .i64 .i64 (n : Int) (n : Int) (by omega) (Int.le_refl _) (by rw [hz2]; omega) (by omega)
  simpa [hz1, Value.cells] using h

/-- lists before i are marked, of list i the first j places -/
def stN (F : Nat → Nat → Int) (i j : Nat) : Nat → Nat → Int := fun k c => if k < i ∨ (k = i ∧ c < j) then mkS k c else F k c

/-- the blocks of the lists -/
def SNs (nW : Nat) (W : Nat → Value) (b : Nat) : Prop := ∃ k, k < nW ∧ (W k).ownBlock = some b

/-- what words keeps: the book, the lists, all else -/
structure NsR (w wr : World) (B bk nW : Nat) (W : Nat → Value) (N : Nat → Nat) (vW vI : Value) (nI : Nat) (I : Nat → Value) (F : Nat → Nat → Int) : Prop where
  book : BookN wr bk vW nW W vI nI I
  ws : ∀ k, k < nW → NLs wr B (W k) (N k) (F k)
  gr : GrownS (SNs nW W) w wr
  low : ∀ k, k < nW → ∀ b, (W k).ownBlock = some b → b < bk
  ap : ∀ k l, k < nW → l < nW → k ≠ l → Value.apart (W k) (W l)

section
variable {w wr w' : World} {B bk nW : Nat} {W : Nat → Value} {N : Nat → Nat} {vW vI : Value} {nI : Nat} {I : Nat → Value} {F F' : Nat → Nat → Int}
theorem NsR.congr (h : NsR w wr B bk nW W N vW vI nI I F) (e : ∀ k c, k < nW → c < N k → F k c = F' k c) : NsR w wr B bk nW W N vW vI nI I F' :=
  { h with ws := fun k hk => (h.ws k hk).congr fun c hc => e k c hk hc }
theorem NsR.below (h : NsR w wr B bk nW W N vW vI nI I F) (hb : Below wr.heap.size wr w') : NsR w w' B bk nW W N vW vI nI I F :=
  { h with book := h.book.below hb, ws := fun k hk => (h.ws k hk).below hb, gr := h.gr.below hb }
theorem NsR.drew (h : NsR w wr B bk nW W N vW vI nI I F) : NsR w wr.drew B bk nW W N vW vI nI I F := h.below ((Below.refl _ _).drew)
theorem bookN_grown {w w' : World} {bk nW nI b : Nat} {vW vI : Value} {W I : Nat → Value} (h : BookN w bk vW nW W vI nI I) (hg : w.grownBy w' (some b)) (hb : b < bk) : BookN w' bk vW nW W vI nI I :=
  h.grown hg (by simp; omega) (own_block h.oW (by omega)) (own_block h.oI (by omega))
/-- one word written -/
theorem NsR.set (h : NsR w wr B bk nW W N vW vI nI I F) {i j g : Nat} (hi : i < nW) (hg : (W i).ownBlock = some g) (y : Int) :
    NsR w (wr.setCell ⟨g, j, none⟩ (.int .i64 y)) B bk nW W N vW vI nI I (fun k c => if k = i ∧ c = j then y else F k c) := by
  have gs := gb_set wr ⟨g, j, none⟩ (.int .i64 y)
  refine { h with book := bookN_grown h.book gs (h.low i hi g hg), ws := fun k hk => ?_, gr := h.gr.step gs (fun k hk => Or.inl ⟨i, hi, by injection hk with hk; rw [hg]; exact congrArg some hk⟩) }
  by_cases e : k = i
  · subst e
    exact ((h.ws k hk).set (j := j) hg y).congr fun c _ => by simp
  · refine ((h.ws k hk).kept gs ?_).congr fun c _ => by rw [if_neg (by omega)]
    cases hb : (W k).ownBlock with
    | none => exact Or.inl rfl
    | some b =>
      right
      intro e2
      injection e2 with e2
      exact h.ap k i hk hi e b hb (by rw [hg]; exact congrArg some e2.symm)
end

/-- what words keeps while the lists are grown: before i they are -/
structure HnR (w wr : World) (B bk nW : Nat) (W : Nat → Value) (N : Nat → Nat) (vW vI : Value) (nI : Nat) (I : Nat → Value) (gr i : Nat) (G : Nat → Value) : Prop where
  ws : NsR w wr B bk nW W N vW vI nI I mkS
  blk : Blk wr gr nW 25
  cells : ∀ k, k < nW → wr.cell? ⟨gr, k, none⟩ = some (if k < i then G k else .slice none 0 0)
  gs : ∀ k, k < i → NLs wr B (G k) (N k + 80) (mkS k)
  side : ∀ k, k < i → ∀ b, (G k).ownBlock = some b → (W k).ownBlock = some b ∨ gr < b
  apG : ∀ k l, k < i → l < i → k ≠ l → Value.apart (G k) (G l)
  hi : ∀ b, vW.ownBlock = some b ∨ vI.ownBlock = some b → b < gr
  hb : bk < gr
  ge : w.heap.size ≤ gr
  lt : gr < wr.heap.size

section
variable {w wr w' : World} {B bk nW : Nat} {W : Nat → Value} {N : Nat → Nat} {vW vI : Value} {nI : Nat} {I : Nat → Value} {gr i j : Nat} {G : Nat → Value}
theorem HnR.start (h : NsR w wr B bk nW W N vW vI nI I mkS) : HnR w (wr.alloc (.cells (madeCells #[.slice none 0 0] nW) 25)) B bk nW W N vW vI nI I wr.heap.size 0 W := by
  have hb : Below wr.heap.size wr (wr.alloc (.cells (madeCells #[.slice none 0 0] nW) 25)) := (Below.refl _ _).alloc (Nat.le_refl _) _
  have hc := CellsAt.made wr (.slice none 0 0) nW 25
  refine ⟨h.below hb, Blk.made wr _ nW _, fun k hk => ?_, fun k hk => absurd hk (by omega), fun k hk => absurd hk (by omega), fun k l hk => absurd hk (by omega), fun b hb => ?_, h.book.lt, h.gr.size, by simp⟩
  · have := (hc k hk).1
    rw [Nat.zero_add] at this
    rw [this, if_neg (by omega)]
  · rcases hb with hb | hb
    · exact (h.book.oW.lt b hb).2
    · exact (h.book.oI.lt b hb).2
theorem HnR.below (h : HnR w wr B bk nW W N vW vI nI I gr i G) (hb : Below wr.heap.size wr w') : HnR w w' B bk nW W N vW vI nI I gr i G :=
  { h with ws := h.ws.below hb, blk := h.blk.grown (gb_below hb none) (by simp), cells := fun k hk => cell_stays hb (h.cells k hk), gs := fun k hk => (h.gs k hk).below hb, lt := Nat.lt_of_lt_of_le h.lt hb.size }
theorem HnR.drew (h : HnR w wr B bk nW W N vW vI nI I gr i G) : HnR w wr.drew B bk nW W N vW vI nI I gr i G := h.below ((Below.refl _ _).drew)

/-- the list i, grown by j places so far, is the value g -/
structure HjR (w wr : World) (B bk nW : Nat) (W : Nat → Value) (N : Nat → Nat) (vW vI : Value) (nI : Nat) (I : Nat → Value) (gr i : Nat) (G : Nat → Value) (j : Nat) (g : Value) : Prop where
  gw : HnR w wr B bk nW W N vW vI nI I gr i G
  own : NLs wr B g (N i + j) (mkS i)
  side : ∀ b, g.ownBlock = some b → (W i).ownBlock = some b ∨ gr < b ∧ ∀ k, k < i → (G k).ownBlock ≠ some b
theorem HnR.grow (h : HnR w wr B bk nW W N vW vI nI I gr i G) (hi : i < nW) : HjR w wr B bk nW W N vW vI nI I gr i G 0 (W i) := ⟨h, h.ws.ws i hi, fun b hb => Or.inl hb⟩

theorem HnR.below2 {w w' wr : World} {B bk nW : Nat} {W : Nat → Value} {N : Nat → Nat} {vW vI : Value} {nI : Nat} {I : Nat → Value} {gr i j : Nat} {G : Nat → Value} {g : Value} (h : HjR w wr B bk nW W N vW vI nI I gr i G j g) (hb : Below wr.heap.size wr w') : HjR w w' B bk nW W N vW vI nI I gr i G j g :=
  ⟨h.gw.below hb, h.own.below hb, h.side⟩
/-- in which blocks the grown list and the others lie -/
theorem HjR.blocks {g : Value} (h : HjR w wr B bk nW W N vW vI nI I gr i G j g) (hi : i < nW) {b : Nat} (hb : g.ownBlock = some b) :
    (b < bk ∨ gr < b) ∧ (∀ k, k < nW → k ≠ i → (W k).ownBlock ≠ some b) ∧ (∀ k, k < i → (G k).ownBlock ≠ some b) := by
  have hbk := h.gw.hb
  rcases h.side b hb with e | ⟨e1, e2⟩
  · have hl := h.gw.ws.low i hi b e
    refine ⟨Or.inl hl, fun k hk hne e' => h.gw.ws.ap k i hk hi hne b e' e, fun k hk e' => ?_⟩
    rcases h.gw.side k hk b e' with e3 | e3
    · exact h.gw.ws.ap k i (by omega) hi (by omega) b e3 e
    · omega
  · exact ⟨Or.inr e1, fun k hk _ e' => by have := h.gw.ws.low k hk b e'; omega, e2⟩
theorem HjR.far {g : Value} (h : HjR w wr B bk nW W N vW vI nI I gr i G j g) (hi : i < nW) {b : Nat} (hb : b < bk → False) (hb2 : gr < b → False) : some b ≠ g.ownBlock := fun e => by
  rcases (h.blocks hi e.symm).1 with e1 | e1
  · exact hb e1
  · exact hb2 e1
theorem HjR.push {g : Value} {X : Obj} {w8 : World} {g8 cap : Nat} (h : HjR w wr B bk nW W N vW vI nI I gr i G j g) (hi : i < nW)
    (o8 : OwnR w8 B 3 1 (.slice (some ⟨g8, 0, none⟩) (N i + j + 1) cap) (N i + j + 1) (nlst (mkS i) (N i + j) ++ [.int .i64 (mkS i (N i + j))])) (hk : KeepsRows (wr.alloc X) w8 g ((N i + j) * 1))
    (hg : (wr.alloc X).grownBy w8 g.ownBlock) (hat : g.ownBlock = some g8 ∨ g8 = wr.heap.size + 1) : HjR w w8 B bk nW W N vW vI nI I gr i G (j + 1) (.slice (some ⟨g8, 0, none⟩) (N i + j + 1) cap) := by
  have hal : Below wr.heap.size wr (wr.alloc X) := (Below.refl _ _).alloc (Nat.le_refl _) _
  have h1 := HnR.below2 h hal
  have hbk := h.gw.hb
  have hlt := h.gw.lt
  have hge := h.gw.ge
  have e1 := h1.far hi (b := bk) (by omega) (by omega)
  have e2 := h1.far hi (b := gr) (by omega) (by omega)
  have eW : vW.ownBlock = none ∨ vW.ownBlock ≠ g.ownBlock := by
    cases hv : vW.ownBlock with
    | none => exact Or.inl rfl
    | some b =>
      right
      have l1 := (h.gw.ws.book.oW.lt b hv).1
      have l2 := h.gw.hi b (Or.inl hv)
      exact h1.far hi (by omega) (by omega)
  have eI : vI.ownBlock = none ∨ vI.ownBlock ≠ g.ownBlock := by
    cases hv : vI.ownBlock with
    | none => exact Or.inl rfl
    | some b =>
      right
      have l1 := (h.gw.ws.book.oI.lt b hv).1
      have l2 := h.gw.hi b (Or.inr hv)
      exact h1.far hi (by omega) (by omega)
  have hws : NsR w w8 B bk nW W N vW vI nI I mkS :=
    { h1.gw.ws with
      book := h1.gw.ws.book.grown hg e1 eW eI
      ws := fun k hkn => hk _ _ _ _ _ _ (h1.gw.ws.ws k hkn) (by
        by_cases e : k = i
        · subst e; right; right; omega
        · cases hv : (W k).ownBlock with
          | none => exact Or.inl rfl
          | some b => right; left; exact fun e' => (h1.blocks hi e'.symm).2.1 k hkn e hv)
      gr := h1.gw.ws.gr.step hg (fun k hkb => by
        rcases h.side k hkb with e | ⟨e, -⟩
        · exact Or.inl ⟨i, hi, e⟩
        · right; omega) }
  refine ⟨⟨hws, h1.gw.blk.grown hg e2, fun k hkn => hg.cell (h1.gw.cells k hkn) e2, fun k hki => hk _ _ _ _ _ _ (h1.gw.gs k hki) ?_, h.gw.side, h.gw.apG, h.gw.hi, hbk, hge, Nat.lt_of_lt_of_le h1.gw.lt hg.size⟩, ?_, fun b hb => ?_⟩
  · cases hv : (G k).ownBlock with
    | none => exact Or.inl rfl
    | some b => right; left; exact fun e' => (h1.blocks hi e'.symm).2.2 k hki hv
  · show OwnR w8 B _ 1 _ (N i + (j + 1)) (nlst (mkS i) (N i + (j + 1)))
    rw [← Nat.add_assoc, nlst_snoc]; exact o8
  · have hb : g8 = b := by simpa [Value.ownBlock] using hb
    subst hb
    rcases hat with e | e
    · exact h.side _ e
    · right
      exact ⟨by omega, fun k hki e' => by have := ((h.gw.gs k hki).lt _ e').2; omega⟩
theorem HnR.put {g : Value} (h : HjR w wr B bk nW W N vW vI nI I gr i G 80 g) (hi : i < nW) : HnR w (wr.setCell ⟨gr, i, none⟩ g) B bk nW W N vW vI nI I gr (i + 1) (fun k => if k = i then g else G k) := by
  have gs := gb_set wr ⟨gr, i, none⟩ g
  have hbk := h.gw.hb
  have hge := h.gw.ge
  have eW : vW.ownBlock = none ∨ vW.ownBlock ≠ some gr := by
    cases hv : vW.ownBlock with
    | none => exact Or.inl rfl
    | some b => right; have := h.gw.hi b (Or.inl hv); intro e; injection e with e; omega
  have eI : vI.ownBlock = none ∨ vI.ownBlock ≠ some gr := by
    cases hv : vI.ownBlock with
    | none => exact Or.inl rfl
    | some b => right; have := h.gw.hi b (Or.inr hv); intro e; injection e with e; omega
  have hws : NsR w (wr.setCell ⟨gr, i, none⟩ g) B bk nW W N vW vI nI I mkS :=
    { h.gw.ws with
      book := h.gw.ws.book.grown gs (by simp; omega) eW eI
      ws := fun k hkn => (h.gw.ws.ws k hkn).kept gs (by
        cases hv : (W k).ownBlock with
        | none => exact Or.inl rfl
        | some b => right; have := h.gw.ws.low k hkn b hv; intro e; injection e with e; simp at e; omega)
      gr := h.gw.ws.gr.step gs (fun k hkb => by injection hkb with hkb; simp at hkb; right; omega) }
  have hG : ∀ k, k < i → (if k = i then g else G k) = G k := fun k hk => if_neg (by omega)
  refine ⟨hws, h.gw.blk.set _ _, fun k hkn => ?_, fun k hki => ?_, fun k hki b hb => ?_, fun k l hk hl hne b hb => ?_, h.gw.hi, hbk, hge, by simpa using h.gw.lt⟩
  · by_cases e : k = i
    · subst e
      rw [if_pos (by omega), if_pos rfl]
      exact World.cell?_setCell_same _ _ _ (h.gw.cells k hkn)
    · rw [World.cell?_setCell_other _ _ _ _ (by intro e'; injection e' with _ e3 _; omega), h.gw.cells k hkn]
      by_cases e2 : k < i
      · rw [if_pos e2, if_pos (by omega), if_neg e]
      · rw [if_neg e2, if_neg (by omega)]
  · by_cases e : k = i
    · subst e
      simp only [if_true]
      refine h.own.kept gs ?_
      cases hv : g.ownBlock with
      | none => exact Or.inl rfl
      | some b => right; intro e'; injection e' with e'; simp at e'; have := (h.blocks hi hv).1; omega
    · rw [if_neg e]
      refine (h.gw.gs k (by omega)).kept gs ?_
      cases hv : (G k).ownBlock with
      | none => exact Or.inl rfl
      | some b =>
        right
        intro e'
        injection e' with e'
        simp at e'
        rcases h.gw.side k (by omega) b hv with e3 | e3
        · have := h.gw.ws.low k (by omega) b e3; omega
        · omega
  · by_cases e : k = i
    · subst e
      simp only [if_true] at hb
      rcases h.side b hb with e | ⟨e, -⟩
      · exact Or.inl e
      · exact Or.inr e
    · rw [if_neg e] at hb
      exact h.gw.side k (by omega) b hb
  · by_cases e : k = i
    · subst e
      simp only [if_true] at hb
      rw [if_neg (by omega)]
      exact (h.blocks hi hb).2.2 l (by omega)
    · rw [if_neg e] at hb
      by_cases e2 : l = i
      · subst e2
        simp only [if_true]
        exact fun e3 => (h.blocks hi e3).2.2 k (by omega) hb
      · rw [if_neg e2]
        exact h.gw.apG k l (by omega) (by omega) hne b hb
end
end Go.Proofs.Ytncldpadakckjaa

namespace Go.Proofs.Ytncldpadakckjaa
open Go.RowKit

theorem stN_next (F : Nat → Nat → Int) (i j k c : Nat) : (if k = i ∧ c = j then mkS i j else stN F i j k c) = stN F i (j + 1) k c := by
  unfold stN
  by_cases e : k = i ∧ c = j
  · rw [if_pos e, if_pos (Or.inr ⟨e.1, by omega⟩), e.1, e.2]
  · rw [if_neg e]
    by_cases e2 : k < i ∨ (k = i ∧ c < j)
    · rw [if_pos e2, if_pos (by omega)]
    · rw [if_neg e2, if_neg (by omega)]
theorem stN_row (F : Nat → Nat → Int) (i n k c : Nat) (h : k = i → c < n) : stN F i n k c = stN F (i + 1) 0 k c := by
  unfold stN
  by_cases e2 : k < i ∨ (k = i ∧ c < n)
  · rw [if_pos e2, if_pos (by omega)]
  · rw [if_neg e2, if_neg (by omega)]

theorem one_cellN (w : World) (v : Value) (t : TypeId) : ∀ j u, [v][j]? = some u → (w.alloc (.cells #[v] t)).cell? (Addr.add ⟨w.heap.size, 0, none⟩ j) = some u := by
  intro j y hj
  match j, hj with
  | 0, hj => simp at hj; subst hj; simp [Addr.add]
theorem mkS_i64 (i j : Nat) (hi : i ≤ 16777216) (hj : j ≤ 35184372088832) : IntKind.i64.wrap (mkS i j) = mkS i j := IntWalk.i64_in _ (by unfold mkS; omega)

set_option maxHeartbeats 4000000 in
set_option maxRecDepth 100000 in
theorem nums_yes (B bk nW : Nat) (W : Nat → Value) (N : Nat → Nat) (vW vI : Value) (nI : Nat) (I : Nat → Value) (F : Nat → Nat → Int) (hnW : nW ≤ 16777216) (hN : ∀ k, k < nW → N k ≤ 17592186044000) (w : World) (h : NsR w w B bk nW W N vW vI nI I F) (hB : B ≤ w.heap.size) :
    Calls Try.prog 74 #[.pointer (some ⟨bk, 0, none⟩)] w fun e w' => e = .returned (.bool true) ∧ NsR w w' B bk nW W N vW vI nI I mkS := by
  obtain ⟨va, vc, rfl⟩ := own_slice h.book.oW
  obtain ⟨i0, hi, hz0, hz1, hz2⟩ := info_parts infoN
  have HI := Lib.hid (And.intro hi (And.intro hz0 (And.intro hz1 hz2)))
  have m1 := mk_bn nW hnW
  have HN := Lib.hid hN
  have H0 := Lib.hid h
  obtain ⟨q0, q1⟩ := h.book.c0
  clear hi hz0 hz1 hz2 h hN
  go_enter Try.func74, Try.ntmps74
  go_wp2_with fail
  clear q0 q1
  go_loopw [3] (fun iv wr => ∃ i : Nat, i ≤ nW ∧ iv = .int .i64 i ∧ NsR w wr B bk nW W N (.slice va nW vc) vI nI I (stN F i 0)) (fun iv _ => nW - (intOf iv).toNat)
  case atStart => exact ⟨0, by omega, rfl, H0.out.congr fun k c _ _ => (if_neg (by omega)).symm⟩
  case round =>
    clear H0
    obtain ⟨i, i1, rfl, hrel⟩ := hrel
    obtain ⟨q0, q1⟩ := hrel.book.c0
    by_cases hi : i < nW
    · obtain ⟨gW, cW, e, hc⟩ := own_cellN hrel.book.oW hi
      injection e with e1 e2 e3
      subst e1
      subst e3
      obtain ⟨la, lc, hWi⟩ := (hrel.ws i hi).slice
      rw [hWi] at hc
      have hNi := HN.out i hi
      have HR := Lib.hid hrel
      have HWI := Lib.hid hWi
      clear hrel hWi
      have g5 : (0 : Int) ≤ (i : Int) := by omega
      have g6 : (i : Int) < (nW : Int) := by omega
      go_wp2_with fail
      clear hc q0 q1
      go_loopw [5] (fun jv wr => ∃ j : Nat, j ≤ N i ∧ jv = .int .i64 j ∧ NsR w wr B bk nW W N (.slice (some ⟨gW, 0, none⟩) nW vc) vI nI I (stN F i j)) (fun jv _ => N i - (intOf jv).toNat)
      case atStart => exact ⟨0, by omega, rfl, HR.out⟩
      case round =>
        clear HR
        obtain ⟨j, j1, rfl, hrel⟩ := hrel
        by_cases hj : j < N i
        · obtain ⟨g, cap, eg, -, -, c1, c2⟩ := (hrel.ws i hi).cell hj
          rw [HWI.out] at eg
          injection eg with eg1 eg2 eg3
          subst eg1
          subst eg3
          have hst := (hrel.set (j := j) hi (g := g) (by rw [HWI.out]; rfl) (mkS i j)).congr (F' := stN F i (j + 1)) fun k c _ _ => stN_next F i j k c
          have HST := Lib.hid hst
          have hsg := fun W => sign_any i j (by omega) (by omega) W
          have hcv := mkS_i64 i j (by omega) (by omega)
          have HSG := Lib.hid hsg
          clear hrel hst hsg
          have g7 : (0 : Int) ≤ (j : Int) := by omega
          have g8 : (j : Int) < (N i : Int) := by omega
          go_wp2_with (go_at_call 98; refine (HSG.out _).mono ?_; rintro e w' ⟨rfl, rfl⟩)
          go_roundw
          case rel => exact ⟨j + 1, by omega, by go_num, HST.out⟩
          case measure => simp [intOf]; omega
        · have ej : N i = j := by omega
          have hst := hrel.congr (F' := stN F (i + 1) 0) fun k c hk hc => stN_row F i j k c fun e => by rw [← ej, ← e]; exact hc
          have HST := Lib.hid hst
          clear hrel hst ej
          go_wp2_with fail
          go_roundw
          case rel => exact ⟨i + 1, by omega, by go_num, HST.out⟩
          case measure => simp [intOf]; omega
    · obtain rfl : nW = i := by omega
      have hms := hrel.congr (F' := mkS) fun k c hk _ => if_pos (Or.inl hk)
      have hst := HnR.start hms
      have hs0 := hms.gr.size
      have HST := Lib.hid hst
      clear hrel hms hst
      go_wp2_with fail
      clear q0 q1
      obtain ⟨gr, hgr⟩ : ∃ gr, gr = wr.heap.size := ⟨_, rfl⟩
      rw [← hgr] at HST ⊢
      have hgB : B ≤ gr := by omega
      generalize wr.alloc (.cells (madeCells #[.slice none 0 0] nW) 25) = W3 at HST ⊢
      clear hgr
      go_loopw [7] (fun iv wr => ∃ (i : Nat) (G : Nat → Value), i ≤ nW ∧ iv = .int .i64 i ∧ HnR w wr B bk nW W N (.slice va nW vc) vI nI I gr i G) (fun iv _ => nW - (intOf iv).toNat)
      case atStart => exact ⟨0, W, by omega, rfl, HST.out⟩
      case round =>
        clear HST
        obtain ⟨i, G, i1, rfl, hrel⟩ := hrel
        obtain ⟨q0, q1⟩ := hrel.ws.book.c0
        by_cases hi : i < nW
        · obtain ⟨gW, cW, e, hc⟩ := own_cellN hrel.ws.book.oW hi
          injection e with e1 e2 e3
          subst e1
          subst e3
          obtain ⟨la, lc, hWi⟩ := (hrel.ws.ws i hi).slice
          rw [hWi] at hc
          have hNi := HN.out i hi
          have hgj := hrel.grow hi
          rw [hWi] at hgj
          have HGJ := Lib.hid hgj
          clear hrel hWi hgj
          have g5 : (0 : Int) ≤ (i : Int) := by omega
          have g6 : (i : Int) < (nW : Int) := by omega
          go_wp2_with fail
          clear hc q0 q1
          go_loopw [8, 9] (fun gv jv wr => ∃ j : Nat, j ≤ 80 ∧ jv = .int .i64 j ∧ HjR w wr B bk nW W N (.slice (some ⟨gW, 0, none⟩) nW vc) vI nI I gr i G j gv) (fun _ jv _ => 80 - (intOf jv).toNat)
          case atStart => exact ⟨0, by omega, rfl, HGJ.out⟩
          case round =>
            clear HGJ
            obtain ⟨j, j1, rfl, hrel⟩ := hrel
            obtain ⟨ga, gc, rfl⟩ := hrel.own.slice
            by_cases hj : j < 80
            · have hal : Below wr.heap.size wr (wr.alloc (.cells #[.int .i64 (mkS i (N i + j))] 3)) := (Below.refl _ _).alloc (Nat.le_refl _) _
              have hown := hrel.own.below hal
              have hwB : B ≤ (wr.alloc (.cells #[.int .i64 (mkS i (N i + j))] 3)).heap.size := by have := hrel.gw.lt; simp; omega
              have hpush := fun (w8 : World) (g8 cap : Nat) a b c d => hrel.push (X := .cells #[.int .i64 (mkS i (N i + j))] 3) (w8 := w8) (g8 := g8) (cap := cap) hi a b c d
              have hsg := fun W => sign_any i (N i + j) (by omega) (by omega) W
              obtain ⟨m, hm⟩ : ∃ m, m = N i + j := ⟨_, rfl⟩
              rw [← hm] at hown hwB hsg hpush
              have hcv := mkS_i64 i m (by omega) (by omega)
              have HPU := Lib.hid hpush
              have HSG := Lib.hid hsg
              have HOW := Lib.hid hown
              have hmb : m ≤ 17592186044080 := by omega
              have hnews := one_cellN wr (.int .i64 (mkS i m)) 3
              rw [← hm]
              clear hpush hsg hown hrel hal hm
              go_wp2_with (first
                | (go_at_call 98; refine (HSG.out _).mono ?_; rintro e w' ⟨rfl, rfl⟩)
                | (at_builtin; refine wpList_append_keeps _ rfl _ _ 25 rfl B 3 i0 (.int .i64 0) 1 8 Try.underlying25 HI.out.1 HI.out.2.1 HI.out.2.2.1 HI.out.2.2.2 rfl _ _ _ rfl HOW.out ⟨wr.heap.size, 0, none⟩ 1 1 [.int .i64 (mkS i m)] rfl rfl hnews ?c2 (by decide) ?c3 ?c4 ?c5 _ rfl ?_))
              case c2 => intro u hu; simp at hu; subst hu; rfl
              case c3 => unfold maxLen; omega
              case c4 => omega
              case c5 => exact hwB
              · intro g8 cap w8 o8 hk hg hat hlt
                have hn := HPU.out _ _ _ o8 (by rw [Nat.mul_one]; exact hk) hg (by simpa using hat)
                have HNX := Lib.hid hn
                clear o8 hk hg hat hlt hn hnews HPU HSG HOW
                go_wp2_with fail
                go_roundw
                case rel => exact ⟨j + 1, by omega, by go_num, HNX.out⟩
                case measure => simp [intOf]; omega
            · obtain rfl : j = 80 := by omega
              have c1 := hrel.gw.cells i hi
              obtain ⟨-, c2⟩ := hrel.gw.blk.cell hi
              rw [if_neg (Nat.lt_irrefl i)] at c1
              have hput := HnR.put hrel hi
              have HPUT := Lib.hid hput
              clear hput hrel
              go_wp2_with fail
              go_roundw
              case rel => exact ⟨i + 1, _, by omega, by go_num, HPUT.out⟩
              case measure => simp [intOf]; omega
        · obtain rfl : nW = i := by omega
          have HR := Lib.hid hrel
          clear hrel
          go_wp2_with fail
          clear q0 q1
          go_loopw [10] (fun iv wr => ∃ i : Nat, i ≤ nW ∧ iv = .int .i64 i ∧ HnR w wr B bk nW W N (.slice va nW vc) vI nI I gr nW G) (fun iv _ => nW - (intOf iv).toNat)
          case atStart => exact ⟨0, by omega, rfl, HR.out⟩
          case round =>
            clear HR
            obtain ⟨i, i1, rfl, hrel⟩ := hrel
            obtain ⟨q0, q1⟩ := hrel.ws.book.c0
            by_cases hi : i < nW
            · obtain ⟨gW, cW, e, hc⟩ := own_cellN hrel.ws.book.oW hi
              injection e with e1 e2 e3
              subst e1
              subst e3
              obtain ⟨la, lc, hWi⟩ := (hrel.ws.ws i hi).slice
              have c1 := hrel.cells i hi
              rw [if_pos hi] at c1
              obtain ⟨ga, gc, hGi⟩ := (hrel.gs i hi).slice
              rw [hWi] at hc
              rw [hGi] at c1
              have hNi := HN.out i hi
              obtain ⟨ni, hni⟩ : ∃ ni, ni = N i := ⟨_, rfl⟩
              obtain ⟨mi, hmi⟩ : ∃ mi, mi = ni + 80 := ⟨_, rfl⟩
              rw [← hni] at hWi hGi hNi hc c1
              rw [← hmi] at hGi c1
              have HMI := Lib.hid (And.intro hni hmi)
              have HWI := Lib.hid hWi
              have HGI := Lib.hid hGi
              have HR := Lib.hid hrel
              clear hrel hWi hGi hni
              have hmb : mi ≤ 17592186044100 := by omega
              clear hmi
              have g5 : (0 : Int) ≤ (i : Int) := by omega
              have g6 : (i : Int) < (nW : Int) := by omega
              go_wp2_with fail
              clear q0 q1 hc c1
              go_loopw [13] (fun jv wr => ∃ j : Nat, j ≤ mi ∧ jv = .int .i64 j ∧ HnR w wr B bk nW W N (.slice (some ⟨gW, 0, none⟩) nW vc) vI nI I gr nW G) (fun jv _ => mi - (intOf jv).toNat)
              case atStart => exact ⟨0, Nat.zero_le _, rfl, HR.out⟩
              case round =>
                clear HR
                obtain ⟨j, j1, rfl, hrel⟩ := hrel
                by_cases hj : j < mi
                · obtain ⟨g, cap, eg, -, -, d1, -⟩ := (hrel.gs i hi).cell (show j < N i + 80 by have := HMI.out; omega)
                  rw [HGI.out] at eg
                  injection eg with eg1 eg2 eg3
                  subst eg1
                  clear eg2 eg3
                  have hsg : ∀ k : Nat, Calls Try.prog 98 #[.int .i64 i, .int .i64 j] (wr.drewN k) fun e w' => e = .returned (.int .u64 (mkS i j)) ∧ w' = wr.drewN k := fun k => (sign_any i j (by omega) (by omega) _).mono fun e w' h => ⟨h.1, h.2.symm⟩
                  have hcv := mkS_i64 i j (by omega) (by omega)
                  have HSG := Lib.hid hsg
                  have HR := Lib.hid hrel
                  have g7 : (0 : Int) ≤ (j : Int) := by omega
                  have g8 : (j : Int) < (mi : Int) := by omega
                  by_cases hl : j < ni
                  · obtain ⟨g', cap', eg', -, -, d2, -⟩ := (hrel.ws.ws i hi).cell (show j < N i by have := HMI.out; omega)
                    rw [HWI.out] at eg'
                    injection eg' with eg1 eg2 eg3
                    subst eg1
                    clear eg2 eg3
                    have g9 : (j : Int) < (ni : Int) := by omega
                    have g10 : decide ((j : Int) < (ni : Int)) = true := decide_eq_true g9
                    have g11 : decide (j < ni) = true := decide_eq_true hl
                    clear hrel hsg
                    go_wp2_with fail
                    go_quiet ((go_at_call 98; exact Calls.quiet_of_same (HSG.out _)))
                    have HR2 := Lib.hid (HR.out.below (show Below wr.heap.size wr (wr.drewN nq) from ⟨rfl, rfl, rfl, Nat.le_refl _, fun _ _ => rfl⟩))
                    go_wp2_with fail
                    go_roundw
                    case rel => exact ⟨j + 1, by omega, by go_num, HR2.out⟩
                    case measure => simp [intOf] <;> omega
                  · have g9 : ¬ (j : Int) < (ni : Int) := by omega
                    have g10 : decide ((j : Int) < (ni : Int)) = false := decide_eq_false g9
                    have g11 : decide (j < ni) = false := decide_eq_false hl
                    clear hrel hsg
                    go_wp2_with fail
                    go_quiet ((go_at_call 98; exact Calls.quiet_of_same (HSG.out _)))
                    have HR2 := Lib.hid (HR.out.below (show Below wr.heap.size wr (wr.drewN nq) from ⟨rfl, rfl, rfl, Nat.le_refl _, fun _ _ => rfl⟩))
                    go_wp2_with fail
                    go_roundw
                    case rel => exact ⟨j + 1, by omega, by go_num, HR2.out⟩
                    case measure => simp [intOf] <;> omega
                · obtain rfl : j = mi := by omega
                  have HR := Lib.hid hrel
                  have g8 : ¬ (j : Int) < (j : Int) := by omega
                  clear hrel
                  go_wp2_with fail
                  go_roundw
                  case rel => exact ⟨i + 1, by omega, by go_num, HR.out⟩
                  case measure => simp [intOf]; omega
            · obtain rfl : nW = i := by omega
              have HR := Lib.hid hrel
              clear hrel
              go_wp2_with fail
              go_ret
              exact ⟨rfl, HR.out.ws⟩
end Go.Proofs.Ytncldpadakckjaa

namespace Go.Proofs.Ytncldpadakckjaa
open Go.RowKit

theorem infoBW0 : (Try.prog.info? 40).map (fun i => (i.zero, i.size, i.bytes)) = some (some (.slice none 0 0), 1, 24) := by kernel_rfl
theorem infoBI0 : (Try.prog.info? 22).map (fun i => (i.zero, i.size, i.bytes)) = some (some (.slice none 0 0), 1, 24) := by kernel_rfl
theorem mk_bw0 (u : World) : (Instr.makeSlice 57 (.int .i64 0) (.int .i64 0)).run Try.prog u =
    .ok (.slice (some ⟨u.heap.size, 0, none⟩) 0 0) (u.alloc (.cells (madeCells #[.slice none 0 0] 0) 40)) := by
  obtain ⟨i0, hi, hz0, hz1, hz2⟩ := info_parts infoBW0
  have h := run_make (P := Try.prog) u 57 40 i0 (.slice none 0 0) Try.underlying57 hi hz0 .i64 .i64 0 0 (by omega) (Int.le_refl _) (by rw [hz2]; omega) (by omega)
  simpa [hz1, Value.cells] using h
theorem mk_bi0 (u : World) : (Instr.makeSlice 58 (.int .i64 0) (.int .i64 0)).run Try.prog u =
    .ok (.slice (some ⟨u.heap.size, 0, none⟩) 0 0) (u.alloc (.cells (madeCells #[.slice none 0 0] 0) 22)) := by
  obtain ⟨i0, hi, hz0, hz1, hz2⟩ := info_parts infoBI0
  have h := run_make (P := Try.prog) u 58 22 i0 (.slice none 0 0) Try.underlying58 hi hz0 .i64 .i64 0 0 (by omega) (Int.le_refl _) (by rw [hz2]; omega) (by omega)
  simpa [hz1, Value.cells] using h

set_option maxHeartbeats 1000000 in
set_option maxRecDepth 100000 in
theorem words_nil (bk : Nat) (w : World) (c2 : w.cell? ⟨bk, 0, none⟩ = some (.slice none 0 0)) :
    Calls Try.prog 72 #[.pointer (some ⟨bk, 0, none⟩)] w fun e w' => e = .returned (.bool true) ∧ Below w.heap.size w w' := by
  have m1 := mk_bw0
  go_enter Try.func72, Try.ntmps72
  go_wp2_with fail
  go_loopw [3] (fun iv wr => iv = .int .i64 0 ∧ wr.cell? ⟨bk, 0, none⟩ = some (.slice none 0 0) ∧ Below w.heap.size w wr) (fun _ _ => 0)
  case atStart => exact ⟨rfl, c2, Below.refl _ _⟩
  case round =>
    obtain ⟨rfl, c3, hb⟩ := hrel
    have hb1 : Below wr.heap.size wr (wr.alloc (.cells (madeCells #[.slice none 0 0] 0) 40)) := (Below.refl _ _).alloc (Nat.le_refl _) _
    have c4 := cell_stays hb1 c3
    have HB := Lib.hid (hb.trans (hb1.mono hb.size))
    clear hb hb1
    go_wp2_with fail
    generalize wr.alloc (.cells (madeCells #[.slice none 0 0] 0) 40) = W3 at c4 HB ⊢
    go_loopw [7] (fun iv wr => iv = .int .i64 0 ∧ wr.cell? ⟨bk, 0, none⟩ = some (.slice none 0 0) ∧ Below w.heap.size w wr) (fun _ _ => 0)
    case atStart => exact ⟨rfl, c4, HB.out⟩
    case round =>
      clear HB
      obtain ⟨rfl, c5, hb⟩ := hrel
      have HB := Lib.hid hb
      clear hb
      go_wp2_with fail
      go_loopw [10] (fun iv wr => iv = .int .i64 0 ∧ wr.cell? ⟨bk, 0, none⟩ = some (.slice none 0 0) ∧ Below w.heap.size w wr) (fun _ _ => 0)
      case atStart => exact ⟨rfl, c5, HB.out⟩
      case round =>
        clear HB
        obtain ⟨rfl, c6, hb⟩ := hrel
        have HB := Lib.hid hb
        clear hb
        go_wp2_with fail
        go_ret
        exact ⟨rfl, HB.out⟩

set_option maxHeartbeats 1000000 in
set_option maxRecDepth 100000 in
theorem ints_nil (bk : Nat) (w : World) (c2 : w.cell? ⟨bk, 1, none⟩ = some (.slice none 0 0)) :
    Calls Try.prog 73 #[.pointer (some ⟨bk, 0, none⟩)] w fun e w' => e = .returned (.bool true) ∧ Below w.heap.size w w' := by
  have m1 := mk_bi0
  go_enter Try.func73, Try.ntmps73
  go_wp2_with fail
  go_loopw [3] (fun iv wr => iv = .int .i64 0 ∧ wr.cell? ⟨bk, 1, none⟩ = some (.slice none 0 0) ∧ Below w.heap.size w wr) (fun _ _ => 0)
  case atStart => exact ⟨rfl, c2, Below.refl _ _⟩
  case round =>
    obtain ⟨rfl, c3, hb⟩ := hrel
    have hb1 : Below wr.heap.size wr (wr.alloc (.cells (madeCells #[.slice none 0 0] 0) 22)) := (Below.refl _ _).alloc (Nat.le_refl _) _
    have c4 := cell_stays hb1 c3
    have HB := Lib.hid (hb.trans (hb1.mono hb.size))
    clear hb hb1
    go_wp2_with fail
    generalize wr.alloc (.cells (madeCells #[.slice none 0 0] 0) 22) = W3 at c4 HB ⊢
    go_loopw [7] (fun iv wr => iv = .int .i64 0 ∧ wr.cell? ⟨bk, 1, none⟩ = some (.slice none 0 0) ∧ Below w.heap.size w wr) (fun _ _ => 0)
    case atStart => exact ⟨rfl, c4, HB.out⟩
    case round =>
      clear HB
      obtain ⟨rfl, c5, hb⟩ := hrel
      have HB := Lib.hid hb
      clear hb
      go_wp2_with fail
      go_loopw [10] (fun iv wr => iv = .int .i64 0 ∧ wr.cell? ⟨bk, 1, none⟩ = some (.slice none 0 0) ∧ Below w.heap.size w wr) (fun _ _ => 0)
      case atStart => exact ⟨rfl, c5, HB.out⟩
      case round =>
        clear HB
        obtain ⟨rfl, c6, hb⟩ := hrel
        have HB := Lib.hid hb
        clear hb
        go_wp2_with fail
        go_ret
        exact ⟨rfl, HB.out⟩


set_option maxHeartbeats 1000000 in
theorem ApartN_yes (B bk nW : Nat) (W : Nat → Value) (N : Nat → Nat) (vW : Value) (F : Nat → Nat → Int) (hnW : nW ≤ 16777216) (hN : ∀ k, k < nW → N k ≤ 17592186044000)
    (w : World) (h : NsR w w B bk nW W N vW (.slice none 0 0) 0 (fun _ => .slice none 0 0) F) (hB : B ≤ w.heap.size) :
    Calls Try.prog 34 #[.pointer (some ⟨bk, 0, none⟩)] w fun e w' => e = .returned (.bool true) ∧ Below B w w' := by
  have HW := Lib.hid (words_nil bk w h.book.c2)
  have hI := fun (w1 : World) (hb : Below w.heap.size w w1) => ints_nil bk w1 (h.book.below hb).c1.1
  have hU := fun (w1 : World) (hb : Below w.heap.size w w1) => nums_yes B bk nW W N vW (.slice none 0 0) 0 (fun _ => .slice none 0 0) F hnW hN w1 { h.below hb with gr := GrownS.refl _ _ } (Nat.le_trans hB hb.size)
  have hfin : ∀ w1 w2, Below w.heap.size w w1 → NsR w1 w2 B bk nW W N vW (.slice none 0 0) 0 (fun _ => .slice none 0 0) mkS → Below B w w2 := fun w1 w2 hb h2 => (hb.mono hB).trans (h2.gr.toBelow (Nat.le_trans hB hb.size) fun b ⟨k, hk, e⟩ => ((h.ws k hk).lt b e).1)
  have HI := Lib.hid hI
  have HU := Lib.hid hU
  have HF := Lib.hid hfin
  clear hI hU hfin h
  go_enter Try.func34, Try.ntmps34
  go_wp2_with fail
  refine HW.out.mono ?_
  rintro e w1 ⟨rfl, hb1⟩
  have H1 := Lib.hid hb1
  clear hb1
  go_wp2_with fail
  refine (HI.out w1 H1.out).mono ?_
  rintro e w2 ⟨rfl, hb2⟩
  have H2 := Lib.hid (below_via H1.out hb2)
  clear hb2
  go_wp2_with fail
  refine (HU.out w2 H2.out).mono ?_
  rintro e w3 ⟨rfl, h3⟩
  have HB := Lib.hid (HF.out w2 w3 H2.out h3)
  clear h3
  go_wp2_with fail
  go_ret
  exact ⟨rfl, HB.out⟩
end Go.Proofs.Ytncldpadakckjaa

namespace Go.Proofs.Ytncldpadakckjaa
open Go.RowKit

theorem tagNI2 : 25 ≠ 22 := by decide
theorem own_tags {w : World} {B B' : Nat} {e e' : TypeId} {z z' : Nat} {u v : Value} {n n' : Nat} {xs ys : List Value} (hu : w.ownsRow B e z u n xs) (hv : w.ownsRow B' e' z' v n' ys) (he : e ≠ e') : u.ownBlock = none ∨ u.ownBlock ≠ v.ownBlock := by
  rcases hu.2 with ⟨rfl, -⟩ | ⟨g, cap, cur, rfl, -, hg, -⟩
  · exact Or.inl rfl
  · right
    have := own_tag hv hg he
    exact fun e2 => this e2.symm

section
variable {w w1 w2 w' : World} {bk nW nI : Nat} {vW vI v vW' : Value} {W I : Nat → Value}
/-- a list of numbers more: behind the append, and the store into the book -/
theorem BookN.pushN (h : BookN w bk vW nW W vI nI I) (hb : Below w.heap.size w w1) (hg : w1.grownBy w2 vW.ownBlock) (ho : w2.ownsRow (bk + 1) 25 1 vW' (nW + 1) ((List.range nW).map W ++ [v])) :
    w2.cell? ⟨bk, 2, none⟩ = some vW ∧ w2.frozen? ⟨bk, 2, none⟩ = false ∧ (∀ W', (∀ k, k < nW → W' k = W k) → W' nW = v → BookN (w2.setCell ⟨bk, 2, none⟩ vW') bk vW' (nW + 1) W' vI nI I) ∧ Below bk w (w2.setCell ⟨bk, 2, none⟩ vW') := by
  have h1 := h.below hb
  have hne : some bk ≠ vW.ownBlock := fun e => by have := (h.oW.lt bk e.symm).1; omega
  have hc0 := hg.cell h1.c0.1 hne
  have hf0 := (hg.frozen_far ⟨bk, 2, none⟩ h1.lt hne).trans h1.c0.2
  have hlt : (bk : Nat) < w1.heap.size := h1.lt
  have gs := gb_set w2 ⟨bk, 2, none⟩ vW'
  have hI2 := h1.oI.kept hg (own_tags h1.oI h1.oW (fun e => tagNI2 e.symm))
  refine ⟨hc0, hf0, fun W' hW1 hW2 => ⟨⟨World.cell?_setCell_same _ _ _ hc0, by rw [World.frozen?_setCell]; exact hf0⟩, ⟨?_, ?_⟩, ?_, ?_, ?_⟩, ?_⟩
  · rw [World.cell?_setCell_other _ _ _ _ (by intro e; injection e with _ e3 _; omega)]; exact hg.cell h1.c1.1 hne
  · rw [World.frozen?_setCell]; exact (hg.frozen_far ⟨bk, 1, none⟩ hlt hne).trans h1.c1.2
  · rw [World.cell?_setCell_other _ _ _ _ (by intro e; injection e with _ e3 _; omega)]; exact hg.cell h1.c2 hne
  · have e : (List.range (nW + 1)).map W' = (List.range nW).map W ++ [v] := by
      rw [List.range_succ, List.map_append, List.map_congr_left (g := W) (fun k hk => hW1 k (by simpa using hk))]
      simp [hW2]
    rw [e]
    exact ho.kept gs (own_block ho (by show bk < bk + 1; omega))
  · exact hI2.kept gs (own_block hI2 (by show bk < bk + 1; omega))
  · have hl0 := h.lt
    have hs0 := hb.size
    have hb1 : Below bk w w1 := hb.mono (Nat.le_of_lt hl0)
    have hb2 : Below bk w w2 := hb1.grown hg (by omega) (fun k hk => by have := (h.oW.lt k hk).1; omega)
    exact hb2.setCell (p := ⟨bk, 2, none⟩) (Nat.le_refl _) vW'
end

set_option maxHeartbeats 1000000 in
set_option maxRecDepth 100000 in
theorem Num_any (bk : Nat) (vW : Value) (nW : Nat) (W : Nat → Value) (vI : Value) (nI : Nat) (I : Nat → Value) (a : Option Addr) (l c : Nat) (hn : nW ≤ 16777216) (w : World) (h : BookN w bk vW nW W vI nI I) (W' : Nat → Value) (hW1 : ∀ k, k < nW → W' k = W k) (hW2 : W' nW = .slice a l c) :
    Calls Try.prog 33 #[.pointer (some ⟨bk, 0, none⟩), .slice a l c] w fun e w' => e = .returned (.tuple #[]) ∧ (∃ vW', BookN w' bk vW' (nW + 1) W' vI nI I) ∧ Below bk w w' := by
  obtain ⟨i0, hi, hz0, hz1, hz2⟩ := info_parts infoBN
  have HI := Lib.hid (And.intro hi (And.intro hz0 (And.intro hz1 hz2)))
  obtain ⟨c0, f0⟩ := h.c0
  obtain ⟨va, vc, rfl⟩ := own_slice h.oW
  have hown := h.oW
  have hlt := h.lt
  have HB := Lib.hid h
  have H1 := Lib.hid hW1
  have H2 := Lib.hid hW2
  clear hi hz0 hz1 hz2 h hW1 hW2
  go_enter Try.func33, Try.ntmps33
  go_wp2_with (at_builtin; (refine wpList_append_lies _ rfl _ _ 52 rfl (bk + 1) 25 i0 (.slice none 0 0) 1 24 Try.underlying52 HI.out.1 HI.out.2.1 HI.out.2.2.1 HI.out.2.2.2 rfl (by decide) _ _ _ rfl (hown.alloc _) ⟨w.heap.size, 0, none⟩ 1 1 [.slice a l c] rfl rfl (one_cellN w _ _) ?c2 (by decide) ?c3 ?c4 ?c5 _ rfl ?_))
  case c2 => intro u hu; simp at hu; subst hu; rfl
  case c3 => unfold maxLen; omega
  case c4 => omega
  case c5 => simp; omega
  · intro g cap w2 ho hg _ _
    obtain ⟨k1, k2, k3, k4⟩ := HB.out.pushN (v := .slice a l c) ((Below.refl _ _).alloc (Nat.le_refl _) _) hg ho
    have K3 := Lib.hid (k3 W' H1.out H2.out)
    have K4 := Lib.hid k4
    clear k3 k4 hown ho hg
    go_wp2_with fail
    go_end0
    exact ⟨rfl, ⟨_, K3.out⟩, K4.out⟩

end Go.Proofs.Ytncldpadakckjaa

namespace Go.Proofs.Ytncldpadakckjaa
open Go.RowKit Go.Shelf

/-- at the list of a plain region's operations inside a fence: an append of one, and where the grown row lies -/
theorem wpListIn_append_lies {F : Fence} {n : Nat} {P : Program} (w : World) {ops : Array Oper} {rest : List Oper} {o : Oper} {a : Act} {Q : Exit → Act → World → Prop}
    (hg : o.guard = none) (s x : Operand) (t : TypeId) (hop : o.op = Op.call { callee := Callee.builtin Builtin.append, args := #[s, x], argTypes := #[t, t] })
    (base : Nat) (e : TypeId) (i : TypeInfo) (z : Value) (size bytes : Nat) (h1 : P.underlying t = some (.slice e)) (h2 : P.info? e = some i) (h3 : i.zero = some z) (h4 : i.size = size) (h5 : i.bytes = bytes) (h6 : z.cells.size = size) (h7 : 0 < size)
    (v : Value) (k : Nat) (xs : List Value) (hs : a.eval s = v) (hown : w.ownsRow base e size v k xs) (ad : Addr) (m c : Nat) (news : List Value) (hx : a.eval x = .slice (some ad) m c) (hn : news.length = m * size)
    (hc : ∀ j u, news[j]? = some u → w.cell? (ad.add j) = some u) (h1c : ∀ u ∈ news, u.oneCell' = true) (hm : 0 < m) (b1 : k + m ≤ maxLen) (b2 : (k + m) * bytes ≤ 140737488355328) (b3 : base ≤ w.heap.size) (H : Nat) (hH : w.heap.size = H)
    (hK : ∀ g cap w', w'.ownsRow base e size (.slice (some ⟨g, 0, none⟩) (k + m) cap) (k + m) (xs ++ news) → w.grownBy w' v.ownBlock → (v.ownBlock = some g ∨ g = H) → g < w'.heap.size → wpListIn F n P ops Q rest (a.put o.dst (.slice (some ⟨g, 0, none⟩) (k + m) cap)) w') :
    wpListIn F n P ops Q (o :: rest) a w := by
  refine wpListIn_plain hg fun K hK' => ?_
  obtain ⟨g, cap, w', hrun, r1, r2, r3, r4⟩ := run_append_lies (P := P) w t o.type base e i z size bytes h1 h2 h3 h4 h5 h6 h7 v k xs hown ad m c news hn hc h1c hm b1 b2 b3 H hH
  unfold Oper.wpIn
  refine ⟨?_, ?_⟩
  · simp [Oper.about, hop, resolve, Target.leads, Sem.run_pure]
  · rw [Oper.semAt_plain F _ _ (by rw [hop]; intro c hc'; cases hc')]
    simp [execOp, hop, resolve, invoke, builtin, hs, hx, hrun, Result.andThen]
    exact hK' _ _ (hK g cap w' r1 r2 r3 r4)

/-- the first m choices, as they came -/
structure GotS (W : World) (base : Nat) (Sp : Nat → Prop) (gv : Value) (m K N : Nat) (L : Nat → Value) : Prop where
  own : W.ownsRow base 25 1 gv m ((List.range m).map L)
  ls : ∀ k, k < m → NumL W base (L k) K (setS N K k)
  sp : ∀ b, gv.ownBlock = some b → Sp b
  lsp : ∀ k, k < m → ∀ b, (L k).ownBlock = some b → Sp b
  ap : ∀ k l, k < m → l < m → k ≠ l → Value.apart (L k) (L l)
section
variable {W W' : World} {base m K N : Nat} {Sp Sp' : Nat → Prop} {gv : Value} {L : Nat → Value}
theorem GotS.start (W : World) (base K N : Nat) (Sp : Nat → Prop) (L : Nat → Value) : GotS W base Sp (.slice none 0 0) 0 K N L :=
  ⟨⟨rfl, Or.inl ⟨rfl, rfl⟩⟩, fun k hk => absurd hk (by omega), fun b hb => by simp [Value.ownBlock] at hb, fun k hk => absurd hk (by omega), fun k l hk => absurd hk (by omega)⟩
theorem GotS.grown (h : GotS W base Sp gv m K N L) {r : Option Nat} (hg : W.grownBy W' r) (hr : ∀ b, r = some b → ¬ Sp b) : GotS W' base Sp gv m K N L := by
  refine { h with own := World.ownsRow.kept h.own hg ?_, ls := fun k hk => World.ownsRow.kept (h.ls k hk) hg ?_ }
  · cases hu : gv.ownBlock with
    | none => exact Or.inl rfl
    | some b => exact Or.inr fun e => hr b e.symm (h.sp b hu)
  · cases hu : (L k).ownBlock with
    | none => exact Or.inl rfl
    | some b => exact Or.inr fun e => hr b e.symm (h.lsp k hk b hu)
theorem GotS.below (h : GotS W base Sp gv m K N L) (hb : Below W.heap.size W W') : GotS W' base Sp gv m K N L := h.grown (gb_below hb none) (fun _ e => by cases e)
theorem GotS.sep (h : GotS W base Sp gv m K N L) (hs : ∀ b, b < W.heap.size → Sp b → Sp' b) : GotS W base Sp' gv m K N L :=
  { h with sp := fun b hb => hs b (World.ownsRow.lt h.own b hb).2 (h.sp b hb), lsp := fun k hk b hb => hs b (World.ownsRow.lt (h.ls k hk) b hb).2 (h.lsp k hk b hb) }
/-- one choice more: u, in a block that none of the others lies in -/
theorem GotS.push {W1 : World} {g cap : Nat} {u : Value} (h : GotS W base Sp gv m K N L) (hb : Below W.heap.size W W1) (h1 : W'.ownsRow base 25 1 (.slice (some ⟨g, 0, none⟩) (m + 1) cap) (m + 1) ((List.range m).map L ++ [u])) (h2 : W1.grownBy W' gv.ownBlock) (hat : gv.ownBlock = some g ∨ Sp g)
    (hu : NumL W base u K (setS N K m)) (hus : ∀ b, u.ownBlock = some b → Sp b) (huo : ∀ k, k < m → Value.apart (L k) u) :
    GotS W' base Sp (.slice (some ⟨g, 0, none⟩) (m + 1) cap) (m + 1) K N (fun k => if k = m then u else L k) := by
  have hne : ∀ {v : Value} {P : Nat → Nat}, NumL W base v K P → NumL W' base v K P := fun hv => World.ownsRow.kept (hv.below hb) h2 (own_tags (hv.below hb) (own_below h.own hb) (by decide))
  refine ⟨?_, fun k hk => ?_, fun b hb => ?_, fun k hk b hb => ?_, fun k l hk hl hkl => ?_⟩
  · have e : (List.range (m + 1)).map (fun k => if k = m then u else L k) = (List.range m).map L ++ [u] := by
      rw [List.range_succ, List.map_append]
      congr 1
      · exact List.map_congr_left fun k hk => by rw [if_neg (by have := List.mem_range.1 hk; omega)]
      · simp
    rw [e]; exact h1
  · by_cases e : k = m
    · subst e; rw [if_pos rfl]; exact hne hu
    · rw [if_neg e]; exact hne (h.ls k (by omega))
  · have e : g = b := by simpa [Value.ownBlock] using hb
    rcases hat with h3 | h3
    · exact h.sp b (by rw [h3, e])
    · rw [← e]; exact h3
  · by_cases e : k = m
    · subst e; rw [if_pos rfl] at hb; exact hus b hb
    · rw [if_neg e] at hb; exact h.lsp k (by omega) b hb
  · by_cases e : k = m
    · rw [if_pos e, if_neg (by omega)]
      intro b h3 h4
      exact huo l (by omega) b h4 h3
    · by_cases e' : l = m
      · rw [if_neg e, if_pos e']; exact huo k (by omega)
      · rw [if_neg e, if_neg e']; exact h.ap k l (by omega) (by omega) hkl
end

theorem NumL.monoB {w : World} {b b' : Nat} {v : Value} {n : Nat} {P : Nat → Nat} (h : NumL w b v n P) (hb : b' ≤ b) : NumL w b' v n P := by
  obtain ⟨h0, h⟩ := h
  rcases h with h | ⟨g, cap, cur, k0, k1, k2⟩
  · exact ⟨h0, Or.inl h⟩
  · exact ⟨h0, Or.inr ⟨g, cap, cur, k0, Nat.le_trans hb k1, k2⟩⟩
theorem NumL.got {W W' : World} {b B m n : Nat} {v gv : Value} {P : Nat → Nat} {xs : List Value} (h : NumL W b v n P) (ho : W.ownsRow B 25 1 gv m xs) (hg : W.grownBy W' gv.ownBlock) : NumL W' b v n P :=
  World.ownsRow.kept h hg (own_tags h ho (by decide))
theorem Wn1.got {W W' : World} {base B m K g cap : Nat} {gv : Value} {P : Nat → Nat} {xs : List Value} {Sp : Nat → Prop} (h : Wn1 W base Sp (.slice (some ⟨g, 0, none⟩) 1 cap) K P) (ho : W.ownsRow B 25 1 gv m xs) (hg : W.grownBy W' gv.ownBlock) (hne : gv.ownBlock ≠ some g) : Wn1 W' base Sp (.slice (some ⟨g, 0, none⟩) 1 cap) K P := by
  obtain ⟨u, g', cap', e, h1, h2, h3, h4⟩ := h
  simp only [Value.slice.injEq, Option.some.injEq, Addr.mk.injEq, and_true, true_and] at e
  obtain ⟨rfl, rfl⟩ := e
  exact ⟨u, _, _, rfl, World.ownsRow.kept h1 hg (Or.inr fun e => hne e.symm), h2.got ho hg, h3, h4⟩
end Go.Proofs.Ytncldpadakckjaa

namespace Go.Proofs.Ytncldpadakckjaa
open Go.RowKit Go.Shelf

attribute [local go_sem] Oper.semAt_some

theorem one_cell (w : World) (a : Value) (t : TypeId) : (w.alloc (.cells #[a] t)).cell? ⟨w.heap.size, 0, none⟩ = some a ∧ (w.alloc (.cells #[a] t)).frozen? ⟨w.heap.size, 0, none⟩ = false := by
  have h := heap_alloc_new w (.cells #[a] t)
  refine ⟨by rw [cell_of_row _ _ _ _ _ _ h]; rfl, ?_⟩
  unfold World.frozen?
  simp only [h]; simp
theorem four_boxes (w : World) (a b c d : Value) (t u : TypeId) :
    let W := (((w.alloc (.cells #[a] t)).alloc (.cells #[b] t)).alloc (.cells #[c] t)).alloc (.cells #[d] u)
    W.cell? ⟨w.heap.size, 0, none⟩ = some a ∧ W.cell? ⟨w.heap.size + 1, 0, none⟩ = some b ∧ (W.cell? ⟨w.heap.size + 1 + 1, 0, none⟩ = some c ∧ W.frozen? ⟨w.heap.size + 1 + 1, 0, none⟩ = false) ∧ (W.cell? ⟨w.heap.size + 1 + 1 + 1, 0, none⟩ = some d ∧ W.frozen? ⟨w.heap.size + 1 + 1 + 1, 0, none⟩ = false) ∧ Below w.heap.size w W ∧ W.heap.size = w.heap.size + 4 := by
  have h1 := one_cell w a t
  have b1 := bl_alloc w (.cells #[a] t)
  have s1 : (w.alloc (.cells #[a] t)).heap.size = w.heap.size + 1 := by simp
  have h2 := one_cell (w.alloc (.cells #[a] t)) b t
  have b2 := bl_alloc (w.alloc (.cells #[a] t)) (.cells #[b] t)
  have s2 : ((w.alloc (.cells #[a] t)).alloc (.cells #[b] t)).heap.size = w.heap.size + 1 + 1 := by simp
  rw [s1] at h2
  have h3 := one_cell ((w.alloc (.cells #[a] t)).alloc (.cells #[b] t)) c t
  have b3 := bl_alloc ((w.alloc (.cells #[a] t)).alloc (.cells #[b] t)) (.cells #[c] t)
  have s3 : (((w.alloc (.cells #[a] t)).alloc (.cells #[b] t)).alloc (.cells #[c] t)).heap.size = w.heap.size + 1 + 1 + 1 := by simp
  rw [s2] at h3
  have h4 := one_cell (((w.alloc (.cells #[a] t)).alloc (.cells #[b] t)).alloc (.cells #[c] t)) d u
  have b4 := bl_alloc (((w.alloc (.cells #[a] t)).alloc (.cells #[b] t)).alloc (.cells #[c] t)) (.cells #[d] u)
  rw [s3] at h4
  exact ⟨cell_stays b4 (cell_stays b3 (cell_stays b2 h1.1)), cell_stays b4 (cell_stays b3 h2.1), ⟨cell_stays b4 h3.1, froz_stays b4 h3.1 h3.2⟩, h4, below_via (below_via (below_via b1 b2) b3) b4, by simp⟩
theorem two_boxes (w : World) (a b : Value) (t u : TypeId) :
    let W := (w.alloc (.cells #[a] t)).alloc (.cells #[b] u)
    (W.cell? ⟨w.heap.size, 0, none⟩ = some a ∧ W.frozen? ⟨w.heap.size, 0, none⟩ = false) ∧ (W.cell? ⟨w.heap.size + 1, 0, none⟩ = some b ∧ W.frozen? ⟨w.heap.size + 1, 0, none⟩ = false) ∧ Below w.heap.size w W ∧ W.heap.size = w.heap.size + 2 := by
  have h1 := one_cell w a t
  have b1 := bl_alloc w (.cells #[a] t)
  have s1 : (w.alloc (.cells #[a] t)).heap.size = w.heap.size + 1 := by simp
  have h2 := one_cell (w.alloc (.cells #[a] t)) b u
  have b2 := bl_alloc (w.alloc (.cells #[a] t)) (.cells #[b] u)
  rw [s1] at h2
  exact ⟨⟨cell_stays b2 h1.1, froz_stays b2 h1.1 h1.2⟩, h2, below_via b1 b2, by simp⟩

set_option maxHeartbeats 8000000 in
set_option maxRecDepth 100000 in
theorem SAgain_good (N K : Nat) (cut : Int) (hN : N ≤ 64) (hK : K ≤ N) (hcut : -9223372036854775808 ≤ cut ∧ cut ≤ 9223372036854775807) (w : World) :
    Calls Try.prog 6 #[.int .i64 N, .int .i64 K, .int .i64 cut] w fun e w' => e = .returned (.bool true) ∧ Below w.heap.size w w' := by
  refine (callsIn_wide (n := 9)).1 ?_
  refine callsIn_of_wp_marks Try.func6 rfl trivial ?_ rfl
  simp only [Try.ntmps6, List.size_toArray, List.length_cons, List.length_nil, Nat.reduceAdd, Nat.reduceSub, Array.replicate_succ, Array.replicate_zero, List.push_toArray, List.append_toArray, List.nil_append, List.cons_append]
  obtain ⟨q0, q1, ⟨q2, q2'⟩, ⟨q3, q3'⟩, hB, hsz⟩ := four_boxes w (.int .i64 N) (.int .i64 K) (.int .i64 cut) (.bool false) 3 4
  have HB := Lib.hid hB
  have HSZ := Lib.hid hsz
  clear hB hsz
  gi_wp2
  generalize (((w.alloc (.cells #[.int .i64 N] 3)).alloc (.cells #[.int .i64 K] 3)).alloc (.cells #[.int .i64 cut] 3)).alloc (.cells #[.bool false] 4) = W at *
  refine ⟨trivial, (callsIn_wide.2 (awake14_any W)).mono ?_⟩
  rintro e w1 ⟨rfl, hb1⟩
  have HS1 := Lib.hid (show w.heap.size + 4 ≤ w1.heap.size by have := HSZ.out; have := hb1.size; omega)
  replace HB := Lib.hid (below_via HB.out hb1)
  replace q2' := froz_stays hb1 q2 q2'
  replace q3' := froz_stays hb1 q3 q3'
  replace q0 := cell_stays hb1 q0
  replace q1 := cell_stays hb1 q1
  replace q2 := cell_stays hb1 q2
  replace q3 := cell_stays hb1 q3
  clear hb1 HSZ
  gi_wp2
  refine ⟨trivial, (callsIn_wide.2 (below_any' cut hcut w1)).mono ?_⟩
  rintro e w2 ⟨⟨c, hc, rfl⟩, rfl⟩
  have g1 := gb_set w1 ⟨w.heap.size + 1 + 1, 0, none⟩ (.int .i64 c)
  have HB3 := Lib.hid (HB.out.grown g1 HB.out.size (fun b hb => by cases hb; show w.heap.size ≤ w.heap.size + 1 + 1; omega))
  have ho : ∀ {b : Nat} {x : Value}, w1.cell? ⟨b, 0, none⟩ = some x → b ≠ w.heap.size + 1 + 1 → (w1.setCell ⟨w.heap.size + 1 + 1, 0, none⟩ (.int .i64 c)).cell? ⟨b, 0, none⟩ = some x := fun hx hb => by
    rw [World.cell?_setCell_other _ _ _ _ (by intro e; injection e with e _ _; exact hb e.symm)]; exact hx
  have r0 := ho q0 (by omega)
  have r1 := ho q1 (by omega)
  have r2 := World.cell?_setCell_same _ _ (Value.int .i64 c) q2
  have r3 := ho q3 (by omega)
  have r3' : (w1.setCell ⟨w.heap.size + 1 + 1, 0, none⟩ (.int .i64 c)).frozen? ⟨w.heap.size + 1 + 1 + 1, 0, none⟩ = false := by rw [World.frozen?_setCell]; exact q3'
  have HS3 := Lib.hid (Nat.le_trans HS1.out g1.size)
  have HR := Lib.hid (And.intro r0 (And.intro r1 (And.intro r2 (And.intro r3 r3'))))
  clear r0 r1 r2 r3 r3' g1 ho HB HS1
  gi_wp2
  generalize w1.setCell ⟨w.heap.size + 1 + 1, 0, none⟩ (.int .i64 c) = w3 at *
  refine ⟨trivial, (callsIn_wide.2 (Sets_any N K w3)).mono ?_⟩
  rintro e w4 ⟨rfl, hw4⟩
  obtain ⟨⟨n0, -⟩, ⟨n1, -⟩, hb4, hs4⟩ := two_boxes w3 (.int .i64 N) (.int .i64 K) 3 3
  rw [← hw4] at n0 n1 hb4 hs4
  obtain ⟨r0, r1, r2, r3, r3'⟩ := HR.out
  replace r3' := froz_stays hb4 r3 r3'
  replace r0 := cell_stays hb4 r0
  replace r1 := cell_stays hb4 r1
  replace r2 := cell_stays hb4 r2
  replace r3 := cell_stays hb4 r3
  have HB4 := Lib.hid (below_via HB3.out hb4)
  have HS4 := Lib.hid (And.intro HS3.out hs4)
  clear hw4 hb4 hs4 HR HB3 HS3 q0 q1 q2 q2' q3 q3'
  have he : ∀ (lb : Array Value) (w : World), (binOp .eql 50 (.func (.func 71) #[] lb) .nilFunc).run Try.prog w = .ok (.bool false) w := fun _ _ => rfl
  gi_wp2
  refine ⟨trivial, (callsIn_wide.2 (Some_good K N w4 hN hK)).mono ?_⟩
  rintro e w5 ⟨hb5, g0, cap0, rfl, hwl⟩
  obtain ⟨p0, p1, hb6, hs6⟩ := two_boxes w5 (.slice (some ⟨g0, 0, none⟩) 1 cap0) (.int .i64 0) 52 3
  have hs5 := hb5.size
  replace r3' := froz_stays hb5 r3 r3'
  replace r0 := cell_stays hb5 r0
  replace r1 := cell_stays hb5 r1
  replace r2 := cell_stays hb5 r2
  replace r3 := cell_stays hb5 r3
  replace n0 := cell_stays hb5 n0
  replace n1 := cell_stays hb5 n1
  have HB5 := Lib.hid (below_via HB4.out hb5)
  have HWL := Lib.hid hwl
  have HT := Lib.hid (And.intro p0 (And.intro p1 (And.intro hb6 (And.intro hs6 hs5))))
  clear hb5 hwl p0 p1 hb6 hs6 hs5 HB4
  gi_wp2
  generalize hw6 : (w5.alloc (.cells #[.slice (some ⟨g0, 0, none⟩) 1 cap0] 52)).alloc (.cells #[.int .i64 0] 3) = w6 at *
  obtain ⟨p0, p1, hb6, hs6, hs5⟩ := HT.out
  obtain ⟨hs3, hs4⟩ := HS4.out
  replace r3' := froz_stays hb6 r3 r3'
  replace r0 := cell_stays hb6 r0
  replace r1 := cell_stays hb6 r1
  replace r2 := cell_stays hb6 r2
  replace r3 := cell_stays hb6 r3
  replace n0 := cell_stays hb6 n0
  replace n1 := cell_stays hb6 n1
  obtain ⟨nb, hnb⟩ : ∃ nb, nb = w3.heap.size := ⟨_, rfl⟩
  obtain ⟨kb, hkb⟩ : ∃ kb, kb = w3.heap.size + 1 := ⟨_, rfl⟩
  obtain ⟨bw, hbw⟩ : ∃ bw, bw = w5.heap.size := ⟨_, rfl⟩
  obtain ⟨bi, hbi⟩ : ∃ bi, bi = w5.heap.size + 1 := ⟨_, rfl⟩
  rw [← hnb] at n0
  rw [← hkb] at n1
  rw [← hbw] at p0
  rw [← hbi] at p1
  have hI0 : AgB w nb kb bw bi N K c ((0 : Nat) : Int) (.slice (some ⟨g0, 0, none⟩) 1 cap0) w6 := ⟨below_via HB5.out hb6, by omega, by omega, by omega, ⟨by omega, by omega, by omega⟩, ⟨by omega, by omega, by omega⟩, r0, r1, r2, ⟨r3, r3'⟩, p1, p0, n0, n1⟩
  have hWn : Wnt w6 w.heap.size (Sep w nb kb bw bi w6.heap.size) (.slice (some ⟨g0, 0, none⟩) 1 cap0) N K 0 :=
    ⟨fun _ => wn1_start HWL.out hb6 (by omega) (fun b h1 h2 => ⟨by omega, by omega, by omega, by omega, by omega, by omega, by omega, by omega⟩), fun ⟨s, hs, _⟩ => absurd hs (by omega)⟩
  have HI0 := Lib.hid hI0
  have HWN := Lib.hid hWn
  have HSB := Lib.hid (show bi < w6.heap.size ∧ bw < w6.heap.size ∧ nb < w6.heap.size ∧ kb < w6.heap.size by omega)
  rw [← hkb, ← hnb, ← hbi, ← hbw]
  clear hnb hkb hbw hbi hI0 hWn r0 r1 r2 r3 r3' n0 n1 p0 p1 hb6 hs6 hs5 hs3 hs4 HT HS4 HWL HB5 hw6
  refine range_stops (n := 9) (by omega) (gf := 71) (lb := #[.pointer (some ⟨nb, 0, none⟩), .pointer (some ⟨kb, 0, none⟩)]) rfl (enters_of Try.func71 (by kernel_rfl) rfl) rfl
    (fun t => ∃ s, t = s + 1 ∧ (∀ r, r < s → ¬ LastS N K r) ∧ LastS N K s) (RowS (w6.heap.size + 1) N K) (fun t W0 W W' v h hg => h.put hg)
    (fun t W => t ≤ 100002 ∧ ∃ wv, AgB w nb kb bw bi N K c (t : Nat) wv W ∧ Wnt W w.heap.size (Sep w nb kb bw bi w6.heap.size) wv N K t)
    (fun j W => j = .exit 0 ∧ ∃ (i : Int) (wv : Value), AgB w nb kb bw bi N K c i wv W) ?inv ?invx ?seq ⟨Nat.zero_le _, _, HI0.out, HWN.out⟩ ?round ?done ?stop
  case inv =>
    rintro t W W' r ⟨ht, wv, h1, h2⟩ hg hr
    have hb := HSB.out
    have hl := h1.li
    exact ⟨ht, wv, h1.grown hg (fun b e => by rcases hr b e with h | h <;> (have := h1.lw; have := h1.ln; have := h1.lk; omega)), h2.grown hg (fun b e hs => by
      obtain ⟨-, -, -, -, -, -, k1, k2⟩ := hs
      rcases hr b e with h | h
      · exact k1 h
      · exact k2 h)⟩
  case invx =>
    rintro j W W' r ⟨rfl, i, wv, h1⟩ hg hr
    have hb := HSB.out
    exact ⟨rfl, i, wv, h1.grown hg (fun b e => by have := hr b e; have := h1.lw; have := h1.ln; have := h1.lk; have := h1.li; omega)⟩
  case seq =>
    intro l J Jx W hW j1 j2 j3 j4
    refine (sets1_in 8 (by omega) nb kb N K (w6.heap.size + 2) hN hK l J Jx W hW.symm j1 (fun t W h => ?_) (fun t W0 W h1 h2 h3 h4 h5 h6 h7 => j3 t W0 W _ ⟨h1, h4, h6, rfl, h7, gb_below h5 _⟩ h2 h3) j4).mono ?_
    · obtain ⟨-, wv, h, -⟩ := j2 t W h
      exact ⟨h.nn, h.kk⟩
    · rintro e W' ⟨hv, (⟨t, h1, h2, h3⟩ | h)⟩
      · exact ⟨hv, Or.inl ⟨t + 1, ⟨t, rfl, h1, h2⟩, h3⟩⟩
      · exact ⟨hv, Or.inr h⟩
  case round =>
    intro l t v
    refine ⟨_, fun W K0 hK => by gi_wp2; exact hK, ?_⟩
    rintro W0 W ⟨ht, wv, ha0, hw0⟩ - ⟨hl, hX, hlt, rfl, hv, hgr⟩
    have hmix : Try.prog.follows .mixedOrders = true := by kernel_rfl
    have hK64 : K ≤ 64 := by omega
    have ha := ha0.grown hgr (fun b e => by cases e; have := HSB.out; have := ha0.lw; have := ha0.ln; have := ha0.lk; omega)
    have hw := ((hw0.1 hl).sep (Sp' := fun b => Sep w nb kb bw bi w6.heap.size b ∧ b ≠ W0.heap.size) (fun b h1 h2 => ⟨h2, by omega⟩)).grown hgr (fun b e hs => by cases e; exact hs.1.2.2.2.2.2.2.1 rfl)
    obtain ⟨u, g, cap, rfl, gu, hu, hsp⟩ := hw.elem
    have hXW : w6.heap.size + 2 < W.heap.size := by omega
    have HLN := Lib.hid (LikeNums_yes _ _ K (setS N K t) W hK64 (hv.read hK64) (hu.read hK64))
    obtain ⟨s0, s0'⟩ := ha.cw
    have HA := Lib.hid ha
    have HW := Lib.hid hw
    have HL := Lib.hid hl
    have HU := Lib.hid hu
    have HV := Lib.hid hv
    clear ha hw hl hu hv ha0 hw0 hgr
    gi_wp2
    refine ⟨trivial, (CallsIn.inRound l (callsIn_wide.2 HLN.out)).mono ?_⟩
    rintro e W2 ⟨rfl, hb2⟩
    have HA2 := Lib.hid (HA.out.below hb2)
    have HW2 := Lib.hid (HW.out.grown (gb_below hb2 none) (fun _ e => by cases e))
    have HU2 := Lib.hid (HU.out.below hb2)
    have HK2 := Lib.hid (Kx.below hb2 hXW)
    have HNX := Lib.hid (Next_any u K N (setS N K t) W2.drew hN hK ((HU2.out.read hK64).below (bl_drew _)) (setS_ris hK t HL.out))
    have HV2 := Lib.hid (HV.out.below hb2)
    have hlt2 := Nat.lt_of_lt_of_le hXW hb2.size
    have hgW : g < W2.heap.size := Nat.lt_of_lt_of_le (World.block_lt_of_cell? _ _ gu) hb2.size
    have hlt3 : W0.heap.size < W2.heap.size := Nat.lt_of_lt_of_le hlt hb2.size
    replace gu := cell_stays hb2 gu
    obtain ⟨s0, s0'⟩ := HA2.out.cw
    have s1 := HA2.out.cn
    clear hb2 HLN HA HW HU HV
    gi_wp2
    refine region_round (fun x => x.cell? ⟨bw, 0, none⟩ = some (.slice (some ⟨g, 0, none⟩) 1 cap) ∧ x.cell? ⟨g, 0, none⟩ = some u ∧ x.cell? ⟨w.heap.size, 0, none⟩ = some (.int .i64 N)) 5 hmix (by kernel_rfl) (by rintro ⟨a', w', h'⟩; exact h') ?_
    have hS : W2.drew.cell? ⟨bw, 0, none⟩ = some (.slice (some ⟨g, 0, none⟩) 1 cap) ∧ W2.drew.cell? ⟨g, 0, none⟩ = some u ∧ W2.drew.cell? ⟨w.heap.size, 0, none⟩ = some (.int .i64 N) := ⟨s0, gu, s1⟩
    refine anyL_take (i := 0) (v := .slice (some ⟨g, 0, none⟩) 1 cap) rfl (by kernel_rfl) (by kernel_rfl) (by kernel_rfl) (by kernel_rfl) (fun _ _ _ h => h) (Or.inl ⟨by rfl, ?_⟩) hS ?_
    · intro u hu
      obtain ⟨u1, u2, u3⟩ := hu
      go_simp
    simp only [Act.put, List.setIfInBounds_toArray, List.set_cons_zero, List.set_cons_succ]
    refine anyL_pure (i := 1) (v := .pointer (some ⟨g, 0, none⟩)) rfl (by kernel_rfl) (by kernel_rfl) (by kernel_rfl) (by kernel_rfl) (fun _ _ _ h => h) (Or.inl ⟨by rfl, ?_⟩) hS ?_
    · intro u hu
      go_simp
    simp only [Act.put, List.setIfInBounds_toArray, List.set_cons_zero, List.set_cons_succ]
    refine anyL_take (i := 2) (v := u) rfl (by kernel_rfl) (by kernel_rfl) (by kernel_rfl) (by kernel_rfl) (fun _ _ _ h => h) (Or.inl ⟨by rfl, ?_⟩) hS ?_
    · intro u hu
      obtain ⟨u1, u2, u3⟩ := hu
      go_simp
    simp only [Act.put, List.setIfInBounds_toArray, List.set_cons_zero, List.set_cons_succ]
    refine anyL_take (i := 3) (v := .int .i64 N) rfl (by kernel_rfl) (by kernel_rfl) (by kernel_rfl) (by kernel_rfl) (fun _ _ _ h => h) (Or.inl ⟨by rfl, ?_⟩) hS ?_
    · intro u hu
      obtain ⟨u1, u2, u3⟩ := hu
      go_simp
    simp only [Act.put, List.setIfInBounds_toArray, List.set_cons_zero, List.set_cons_succ]
    refine anyL_one (i := 4) (by kernel_rfl) rfl rfl fun K0 hK0 => ?_
    go_simp
    refine HNX.out.mono ?_
    rintro e W4 ⟨hb4a, hnx⟩
    have hb4 : Below W2.heap.size W2 W4 := below_via (bl_drew _) hb4a
    have HS4 := Lib.hid (show W4.cell? ⟨bw, 0, none⟩ = some (.slice (some ⟨g, 0, none⟩) 1 cap) ∧ W4.cell? ⟨g, 0, none⟩ = some u ∧ W4.cell? ⟨w.heap.size, 0, none⟩ = some (.int .i64 N) from ⟨cell_stays hb4 s0, cell_stays hb4 gu, cell_stays hb4 s1⟩)
    have HA4 := Lib.hid (HA2.out.below hb4)
    have HW4 := Lib.hid (HW2.out.grown (gb_below hb4 none) (fun _ e => by cases e))
    have HK4 := Lib.hid (HK2.out.trans (Kx.below hb4 hlt2))
    have HV4 := Lib.hid (HV2.out.below hb4)
    have HZ4 := Lib.hid hb4.size
    clear hb4a hb4 hS HNX HA2 HW2 HK2 HV2 HU2 s0 s0' gu s1
    obtain ⟨vn, rfl, hnv⟩ : ∃ vn, e = .returned vn ∧ ((hiI N K (setS N K t) K = 0 ∧ vn = .slice none 0 0) ∨ (0 < hiI N K (setS N K t) K ∧ ∃ g cap, vn = .slice (some ⟨g, 0, none⟩) K cap ∧ NumL W4 W2.heap.size (.slice (some ⟨g, 0, none⟩) K cap) K (setS N K (t + 1)))) := by
      rcases hnx with ⟨h1, rfl⟩ | ⟨h1, g, cap, rfl, h2⟩
      · exact ⟨_, rfl, Or.inl ⟨h1, rfl⟩⟩
      · exact ⟨_, rfl, Or.inr ⟨h1, g, cap, rfl, h2⟩⟩
    have HNX := Lib.hid hnv
    clear hnx hnv
    refine hK0 _ _ (fun _ => HS4.out) ?_
    clear hK0 K0
    try simp only [Act.put, List.setIfInBounds_toArray, List.set_cons_zero, List.set_cons_succ]
    refine anyL_one (i := 5) (by kernel_rfl) rfl rfl fun K0 hK0 => ?_
    go_simp
    refine hK0 _ _ (fun e => absurd e (by decide)) ?_
    clear hK0 K0
    refine anyL_done (by kernel_rfl) ?_ _
    obtain ⟨s0, s0'⟩ := HA4.out.cw
    have HA5 := Lib.hid (HA4.out.putw (.slice (some ⟨g, 0, none⟩) 0 cap))
    have HW5 := Lib.hid ((HW4.out.grown (gb_set W4 ⟨bw, 0, none⟩ (.slice (some ⟨g, 0, none⟩) 0 cap)) (fun b e hs => by cases e; exact hs.1.2.2.2.1 rfl)).cut)
    have HK5 := Lib.hid (HK4.out.trans (Kx.set W4 bw 0 (.slice (some ⟨g, 0, none⟩) 0 cap) (by have := HSB.out; omega)))
    have HV5 := Lib.hid (show NumL (W4.setCell ⟨bw, 0, none⟩ (.slice (some ⟨g, 0, none⟩) 0 cap)) W0.heap.size _ K (setS N K t) from World.ownsRow.kept HV4.out (gb_set W4 ⟨bw, 0, none⟩ (.slice (some ⟨g, 0, none⟩) 0 cap)) (Or.inr fun e => by simp [Value.ownBlock] at e; have := HSB.out; omega))
    have HZ5 := Lib.hid (Nat.le_trans HZ4.out (gb_set W4 ⟨bw, 0, none⟩ (.slice (some ⟨g, 0, none⟩) 0 cap)).size)
    have HNX5 := Lib.hid (show (hiI N K (setS N K t) K = 0 ∧ vn = .slice none 0 0) ∨ (0 < hiI N K (setS N K t) K ∧ ∃ g' cap', vn = .slice (some ⟨g', 0, none⟩) K cap' ∧ NumL (W4.setCell ⟨bw, 0, none⟩ (.slice (some ⟨g, 0, none⟩) 0 cap)) W2.heap.size (.slice (some ⟨g', 0, none⟩) K cap') K (setS N K (t + 1))) from by
      rcases HNX.out with h | ⟨h1, g', cap', h2, h3⟩
      · exact Or.inl h
      · exact Or.inr ⟨h1, g', cap', h2, World.ownsRow.kept h3 (gb_set W4 ⟨bw, 0, none⟩ (.slice (some ⟨g, 0, none⟩) 0 cap)) (Or.inr fun e => by
          have e1 : g' = bw := by simpa [Value.ownBlock] using e
          have e2 : W2.heap.size ≤ g' := (World.ownsRow.lt h3 g' rfl).1
          have e3 := HSB.out.2.1
          omega)⟩)
    have HW4' := Lib.hid HW4.out
    clear HA4 HW4 HK4 HV4 HZ4 HNX HS4
    have he0 : ∀ w : World, (binOp .neq 25 (.slice none 0 0) (.slice none 0 0)).run Try.prog w = .ok (.bool false) w := fun _ => rfl
    have he1 : ∀ (g n c : Nat) (w : World), (binOp .neq 25 (.slice (some ⟨g, 0, none⟩) n c) (.slice none 0 0)).run Try.prog w = .ok (.bool true) w := fun _ _ _ _ => rfl
    have r1 := HA5.out.ck
    have r2 := HA5.out.ci
    have HRM := Lib.hid (HW4'.out.room)
    gi_upto_region 15 with fail
    generalize W4.setCell ⟨bw, 0, none⟩ (.slice (some ⟨g, 0, none⟩) 0 cap) = W5 at *
    obtain ⟨s2, s2'⟩ := HA5.out.cw
    rcases HNX5.out with ⟨hh, rfl⟩ | ⟨hh, g', cap', rfl, hn'⟩
    · have HA8 := Lib.hid HA5.out
      have HW8 := Lib.hid (wn0_next HW5.out hh)
      have HK8 := Lib.hid HK5.out
      have HV8 := Lib.hid HV5.out.cells
      clear HW5 HNX5 hh HA5 HK5 HV5 s2 s2'
      obtain ⟨s4, s4'⟩ := HA8.out.ci
      have s5 := HA8.out.cc
      gi_wp2
      gi_loopw [12] (fun jv wr => ∃ (j : Nat) (f : Nat → Int), j ≤ K ∧ jv = .int .i64 j ∧ AgB w nb kb bw bi N K c (t : Nat) (.slice (some ⟨g, 0, none⟩) 0 cap) wr ∧ Wnt wr w.heap.size (fun b => Sep w nb kb bw bi w6.heap.size b ∧ b ≠ W0.heap.size) (.slice (some ⟨g, 0, none⟩) 0 cap) N K (t + 1) ∧ Kx (w6.heap.size + 2) W wr ∧ RowAt .i64 wr W0.heap.size 0 K f) (fun jv _ => K - (intOf jv).toNat)
      case atStart => exact ⟨0, _, Nat.zero_le _, rfl, HA8.out, HW8.out, HK8.out, HV8.out⟩
      case round =>
        clear s4 s4' s5 HA8 HW8 HK8 HV8
        obtain ⟨j, f, hj, rfl, ha, hw, hk, hr⟩ := hrel
        by_cases hjK : j < K
        · have hj' : (j : Int) < (K : Int) := by omega
          obtain ⟨r0, r1⟩ := hr.get0 hjK rfl
          have hgb := gb_set wr ⟨W0.heap.size, j, none⟩ (.int .i64 (-7))
          have HA9 := Lib.hid (ha.grown hgb (fun b e => by cases e; have := HSB.out; have := ha.lw; have := ha.ln; have := ha.lk; show _ ≤ W0.heap.size ∧ W0.heap.size ≠ nb ∧ W0.heap.size ≠ kb ∧ W0.heap.size ≠ bw ∧ W0.heap.size ≠ bi; omega))
          have HW9 := Lib.hid (hw.grown hgb (fun b e hs => by cases e; exact hs.2 rfl))
          have HK9 := Lib.hid (hk.trans (Kx.set wr W0.heap.size j (.int .i64 (-7)) (by omega)))
          have HR9 := Lib.hid (hr.set0 hjK (-7))
          clear ha hw hk hr hgb
          gi_wp2
          go_roundw
          case rel => exact ⟨j + 1, _, by omega, by go_num, HA9.out, HW9.out, HK9.out, HR9.out⟩
          case measure => simp [intOf] <;> omega
        · have hj' : ¬ (j : Int) < (K : Int) := by omega
          obtain ⟨s4, s4'⟩ := ha.ci
          have s5 := ha.cc
          have HA9 := Lib.hid ha
          have HW9 := Lib.hid hw
          have HK9 := Lib.hid hk
          have hi9 := ha.puti ((t : Int) + 1)
          have s6 := hi9.cc
          obtain ⟨s7, s7'⟩ := hi9.ci
          have HI9 := Lib.hid hi9
          clear ha hw hk hr hi9
          have HK10 := Lib.hid (HK9.out.trans (Kx.set wr bi 0 (.int .i64 ((t : Int) + 1)) (by have := HSB.out; omega)))
          have HW10 := Lib.hid ((HW9.out.grown (gb_set wr ⟨bi, 0, none⟩ (.int .i64 ((t : Int) + 1))) (fun b e hs => by cases e; exact hs.1.2.2.2.2.1 rfl)).sep (Sp' := Sep w nb kb bw bi w6.heap.size) (fun b h => h.1))
          clear HK9 HW9 HA9
          by_cases hgt : (c : Int) / 2 < (t : Int) + 1
          · gi_wp2
            exact ⟨HK10.out.1, rfl, _, _, HI9.out⟩
          · have hgt' : (t : Int) + 1 ≤ (c : Int) / 2 := by omega
            gi_wp2
            exact ⟨HK10.out.1, HK10.out.2.1, by omega, _, HI9.out, HW10.out⟩
    · have hk0 : (0 : Int) < (K : Int) := by have := hiI_le N K (setS N K t) K; omega
      obtain ⟨i0, hi, hz0, hz1, hz2⟩ := info_parts infoNs
      have HI := Lib.hid (And.intro hi (And.intro hz0 (And.intro hz1 hz2)))
      obtain ⟨a0, c0, e0, ho, -⟩ := HW5.out
      simp only [Value.slice.injEq] at e0
      obtain ⟨rfl, -, rfl⟩ := e0
      have HO := Lib.hid (own_below ho (bl_alloc W5 (.cells #[.slice (some ⟨g', 0, none⟩) K cap'] 25)))
      have HN5 := Lib.hid hn'
      have HOO := Lib.hid ho
      have HST := Lib.hid (fun (W7 : World) (k1 : W7.ownsRow w.heap.size 25 1 (.slice (some ⟨g, 0, none⟩) (0 + 1) cap) (0 + 1) ([] ++ [.slice (some ⟨g', 0, none⟩) K cap'])) (k2 : (W5.alloc (.cells #[.slice (some ⟨g', 0, none⟩) K cap'] 25)).grownBy W7 (some g)) =>
        (show AgB w nb kb bw bi N K c (t : Nat) (.slice (some ⟨g, 0, none⟩) 0 cap) W7 ∧ Wn1 W7 w.heap.size (fun b => Sep w nb kb bw bi w6.heap.size b ∧ b ≠ W0.heap.size) (.slice (some ⟨g, 0, none⟩) 1 cap) K (setS N K (t + 1)) ∧ Kx (w6.heap.size + 2) W W7 ∧ NumL W7 W0.heap.size (.slice (some ⟨W0.heap.size, 0, none⟩) K K) K (setS N K t) from by
          have gb : W5.grownBy W7 (some g) := gb_trans (gb_below (bl_alloc W5 _) _) k2
          have hb1 := HSB.out
          have hb2 := HA5.out.lw
          have hb3 := HA5.out.ln
          have hb4 := HA5.out.lk
          have hb5 := HA5.out.bel.size
          have hb6 := HZ5.out
          refine ⟨HA5.out.grown gb (fun b e => by cases e; exact ⟨hsp.1.1, hsp.1.2.1, hsp.1.2.2.1, hsp.1.2.2.2.1, hsp.1.2.2.2.2.1⟩), wn1_push HN5.out (by omega) hsp (fun b h1 h2 => ⟨⟨by omega, by omega, by omega, by omega, by omega, by omega, by omega, by omega⟩, by omega⟩) hgW k1 k2, HK5.out.trans ⟨KeepsOthers.of_grownBy gb (rowc_cells HOO.out), gb.block _ (by omega) (fun e => by cases e; exact hsp.1.2.2.2.2.2.2.2 rfl), gb.size⟩, World.ownsRow.kept HV5.out gb (Or.inr fun e => by simp [Value.ownBlock] at e; exact hsp.2 e.symm)⟩))
      clear hi hz0 hz1 hz2 ho hn' HW5 HNX5
      gi_wp2_with (gi_at_builtin; refine wpListIn_append_fits _ (by rfl) _ _ 52 (by rfl) w.heap.size 25 i0 1 Try.underlying52 HI.out.1 HI.out.2.2.1 g 0 cap [] (by rfl) HO.out ⟨W5.heap.size, 0, none⟩ 1 1 [.slice (some ⟨g', 0, none⟩) K cap'] (by rfl) (by simp) (news_one _ _ _) (one_one rfl) HRM.out ?_; intro W7 k1 k2; have HKK := Lib.hid (HST.out W7 k1 k2); obtain ⟨t0, t0'⟩ := HKK.out.1.cw; clear k1 k2)
      have HA8 := Lib.hid (HKK.out.1.putw (.slice (some ⟨g, 0, none⟩) 1 cap))
      have HW8 := Lib.hid (wn1_next (HKK.out.2.1.grown (gb_set W7 ⟨bw, 0, none⟩ (.slice (some ⟨g, 0, none⟩) 1 cap)) (fun b e hs => by cases e; exact hs.1.2.2.2.1 rfl)) HL.out hh)
      have HK8 := Lib.hid (HKK.out.2.2.1.trans (Kx.set W7 bw 0 (.slice (some ⟨g, 0, none⟩) 1 cap) (by have := HSB.out; omega)))
      have HV8 := Lib.hid (show RowAt .i64 (W7.setCell ⟨bw, 0, none⟩ (.slice (some ⟨g, 0, none⟩) 1 cap)) W0.heap.size 0 K (fun i => ((setS N K t i : Nat) : Int)) from HKK.out.2.2.2.cells.other (a := ⟨bw, 0, none⟩) (by have := HSB.out; show bw ≠ W0.heap.size; omega) _)
      generalize W7.setCell ⟨bw, 0, none⟩ (.slice (some ⟨g, 0, none⟩) 1 cap) = W8 at *
      clear HKK HST HI HO HOO HN5 HA5 HK5 HV5 s2 s2' t0 t0' hk0
      obtain ⟨s4, s4'⟩ := HA8.out.ci
      have s5 := HA8.out.cc
      gi_wp2
      gi_loopw [12] (fun jv wr => ∃ (j : Nat) (f : Nat → Int), j ≤ K ∧ jv = .int .i64 j ∧ AgB w nb kb bw bi N K c (t : Nat) (.slice (some ⟨g, 0, none⟩) 1 cap) wr ∧ Wnt wr w.heap.size (fun b => Sep w nb kb bw bi w6.heap.size b ∧ b ≠ W0.heap.size) (.slice (some ⟨g, 0, none⟩) 1 cap) N K (t + 1) ∧ Kx (w6.heap.size + 2) W wr ∧ RowAt .i64 wr W0.heap.size 0 K f) (fun jv _ => K - (intOf jv).toNat)
      case atStart => exact ⟨0, _, Nat.zero_le _, rfl, HA8.out, HW8.out, HK8.out, HV8.out⟩
      case round =>
        clear s4 s4' s5 HA8 HW8 HK8 HV8
        obtain ⟨j, f, hj, rfl, ha, hw, hk, hr⟩ := hrel
        by_cases hjK : j < K
        · have hj' : (j : Int) < (K : Int) := by omega
          obtain ⟨r0, r1⟩ := hr.get0 hjK rfl
          have hgb := gb_set wr ⟨W0.heap.size, j, none⟩ (.int .i64 (-7))
          have HA9 := Lib.hid (ha.grown hgb (fun b e => by cases e; have := HSB.out; have := ha.lw; have := ha.ln; have := ha.lk; show _ ≤ W0.heap.size ∧ W0.heap.size ≠ nb ∧ W0.heap.size ≠ kb ∧ W0.heap.size ≠ bw ∧ W0.heap.size ≠ bi; omega))
          have HW9 := Lib.hid (hw.grown hgb (fun b e hs => by cases e; exact hs.2 rfl))
          have HK9 := Lib.hid (hk.trans (Kx.set wr W0.heap.size j (.int .i64 (-7)) (by omega)))
          have HR9 := Lib.hid (hr.set0 hjK (-7))
          clear ha hw hk hr hgb
          gi_wp2
          go_roundw
          case rel => exact ⟨j + 1, _, by omega, by go_num, HA9.out, HW9.out, HK9.out, HR9.out⟩
          case measure => simp [intOf] <;> omega
        · have hj' : ¬ (j : Int) < (K : Int) := by omega
          obtain ⟨s4, s4'⟩ := ha.ci
          have s5 := ha.cc
          have HA9 := Lib.hid ha
          have HW9 := Lib.hid hw
          have HK9 := Lib.hid hk
          have hi9 := ha.puti ((t : Int) + 1)
          have s6 := hi9.cc
          obtain ⟨s7, s7'⟩ := hi9.ci
          have HI9 := Lib.hid hi9
          clear ha hw hk hr hi9
          have HK10 := Lib.hid (HK9.out.trans (Kx.set wr bi 0 (.int .i64 ((t : Int) + 1)) (by have := HSB.out; omega)))
          have HW10 := Lib.hid ((HW9.out.grown (gb_set wr ⟨bi, 0, none⟩ (.int .i64 ((t : Int) + 1))) (fun b e hs => by cases e; exact hs.1.2.2.2.2.1 rfl)).sep (Sp' := Sep w nb kb bw bi w6.heap.size) (fun b h => h.1))
          clear HK9 HW9 HA9
          by_cases hgt : (c : Int) / 2 < (t : Int) + 1
          · gi_wp2
            exact ⟨HK10.out.1, rfl, _, _, HI9.out⟩
          · have hgt' : (t : Int) + 1 ≤ (c : Int) / 2 := by omega
            gi_wp2
            exact ⟨HK10.out.1, HK10.out.2.1, by omega, _, HI9.out, HW10.out⟩
  case done =>
    rintro D t W rfl ⟨s, rfl, -, -⟩ ⟨-, wv, ha, -⟩ hD
    have hDl : (w6.heap.size) < W.heap.size := (Array.getElem?_eq_some_iff.1 hD).1
    obtain ⟨u0, u0'⟩ := ha.cw
    obtain ⟨u1, u1'⟩ := ha.ci
    have u2 := ha.cn
    have u3 := ha.ck
    have HA := Lib.hid ha
    have HD := Lib.hid hD
    clear ha hD
    gi_wp2
    refine ⟨trivial, (callsIn_wide.2 (Some_good K N W hN hK)).mono ?_⟩
    rintro e w7 ⟨hb7, g7, cap7, rfl, hwl7⟩
    have HA7 := Lib.hid (HA.out.below hb7)
    have HD7 := Lib.hid ((hb7.block (w6.heap.size) hDl).trans HD.out)
    have hA8 := (HA7.out.putw (.slice (some ⟨g7, 0, none⟩) 1 cap7)).puti ((0 : Nat) : Int)
    have hk8 := (KeepsOthers.setCell w7 ⟨bw, 0, none⟩ (.slice (some ⟨g7, 0, none⟩) 1 cap7)).trans (KeepsOthers.setCell _ ⟨bi, 0, none⟩ (.int .i64 ((0 : Nat) : Int)))
    have HA8 := Lib.hid hA8
    have HD8 := Lib.hid (hk8.same _ _ HD7.out rfl)
    have hW7 := hb7.size
    have hsz8 : w7.heap.size = ((w7.setCell ⟨bw, 0, none⟩ (.slice (some ⟨g7, 0, none⟩) 1 cap7)).setCell ⟨bi, 0, none⟩ (.int .i64 ((0 : Nat) : Int))).heap.size := by simp [World.setCell]
    obtain ⟨u4, u4'⟩ := HA7.out.cw
    obtain ⟨u5, u5'⟩ := (HA7.out.putw (.slice (some ⟨g7, 0, none⟩) 1 cap7)).ci
    have HWL := Lib.hid hwl7
    have hbwl : bw < w7.heap.size := World.block_lt_of_cell? _ _ u4
    have hbil : bi < w7.heap.size := by have := World.block_lt_of_cell? _ _ HA7.out.ci.1; exact this
    have hnbl : nb < w7.heap.size := by have := World.block_lt_of_cell? _ _ HA7.out.nn; exact this
    have hkbl : kb < w7.heap.size := by have := World.block_lt_of_cell? _ _ HA7.out.kk; exact this
    have HSB7 := Lib.hid (show bi < W.heap.size ∧ bw < W.heap.size ∧ nb < W.heap.size ∧ kb < W.heap.size from ⟨World.block_lt_of_cell? _ _ u1, World.block_lt_of_cell? _ _ u0, World.block_lt_of_cell? _ _ HA.out.nn, World.block_lt_of_cell? _ _ HA.out.kk⟩)
    have HSZ8 := Lib.hid hsz8
    clear hb7 hwl7 hA8 hk8 hsz8 u0 u0' u1 u1' u2 u3
    gi_wp2
    have HWN8 := Lib.hid (show Wn1 ((w7.setCell ⟨bw, 0, none⟩ (.slice (some ⟨g7, 0, none⟩) 1 cap7)).setCell ⟨bi, 0, none⟩ (.int .i64 ((0 : Nat) : Int))) w.heap.size (Sep w nb kb bw bi w7.heap.size) (.slice (some ⟨g7, 0, none⟩) 1 cap7) K (setS N K 0) from
      ((wn1_start HWL.out (Below.refl _ _) (by have := HA.out.bel.size; omega) (fun b h1 h2 => ⟨by have := HSB7.out; have := HA.out.lw; omega, by have := HSB7.out; omega, by have := HSB7.out; omega, by have := HSB7.out; omega, by have := HSB7.out; omega, by omega, by omega, by omega⟩)).grown (gb_set _ _ _) (fun b e hs => by cases e; exact hs.2.2.2.1 rfl)).grown (gb_set _ _ _) (fun b e hs => by cases e; exact hs.2.2.2.2.1 rfl))
    rw [HSZ8.out] at HWN8 hbwl hbil hnbl hkbl hW7
    have e0 : (Value.int IntKind.i64 ((0 : Nat) : Int)) = Value.int IntKind.i64 0 := rfl
    rw [e0] at HA8 HD8 HWN8 hbwl hbil hnbl hkbl hW7
    generalize (w7.setCell ⟨bw, 0, none⟩ (.slice (some ⟨g7, 0, none⟩) 1 cap7)).setCell ⟨bi, 0, none⟩ (.int .i64 0) = w8 at *
    have HBWL := Lib.hid (show w.heap.size + 4 ≤ bw from HA8.out.lw)
    have HDL := Lib.hid (show (w6.heap.size) < w8.heap.size by omega)
    have HSB2 := Lib.hid (show bi < w8.heap.size ∧ bw < w8.heap.size ∧ nb < w8.heap.size ∧ kb < w8.heap.size by omega)
    clear HSZ8 u4 u4' u5 u5' HWL HA HD HA7 HD7 hDl hbwl hbil hnbl hkbl hW7 HSB7 e0
    refine range_stops (n := 9) (by omega) (gf := 71) (lb := #[.pointer (some ⟨nb, 0, none⟩), .pointer (some ⟨kb, 0, none⟩)]) rfl (enters_of Try.func71 (by kernel_rfl) rfl) rfl
      (fun t => ∃ s, t = s + 1 ∧ (∀ r, r < s → ¬ LastS N K r) ∧ LastS N K s) (RowS (w8.heap.size + 1) N K) (fun t W0 W W' v h hg => h.put hg)
      (fun t W => t ≤ 100002 ∧ W.heap[(w6.heap.size)]? = some (.deferred (some [])) ∧ ∃ wv, AgB w nb kb bw bi N K c (t : Nat) wv W ∧ Wnt W w.heap.size (Sep w nb kb bw bi w8.heap.size) wv N K t)
      (fun j W => j = .ret ∧ W.heap[(w6.heap.size)]? = some (.deferred (some [])) ∧ Below w.heap.size w W ∧ W.cell? ⟨w.heap.size + 1 + 1 + 1, 0, none⟩ = some (.bool true)) ?inv2 ?invx2 ?seq2 ⟨Nat.zero_le _, HD8.out, _, HA8.out, ⟨fun _ => HWN8.out, fun ⟨s, hs, _⟩ => absurd hs (by omega)⟩⟩ ?round2 ?done2 ?stop2
    case inv2 =>
      rintro t W W' r ⟨ht, hd, wv, h1, h2⟩ hg hr
      have hb := HSB2.out
      have hb2 := HDL.out
      have hl := h1.li
      exact ⟨ht, (hg.block (w6.heap.size) (Array.getElem?_eq_some_iff.1 hd).1 (fun e => by rcases hr (w6.heap.size) e.symm with h | h <;> omega)).trans hd, wv, h1.grown hg (fun b e => by rcases hr b e with h | h <;> (have := h1.lw; have := h1.ln; have := h1.lk; omega)), h2.grown hg (fun b e hs => by
        obtain ⟨-, -, -, -, -, -, k1, k2⟩ := hs
        rcases hr b e with h | h
        · exact k1 h
        · exact k2 h)⟩
    case invx2 =>
      rintro j W W' r ⟨rfl, hd, hbl, h1⟩ hg hr
      have hb := HSB2.out
      have hb2 := HDL.out
      have hb3 := HA8.out.lw
      exact ⟨rfl, (hg.block (w6.heap.size) (Array.getElem?_eq_some_iff.1 hd).1 (fun e => by have := hr (w6.heap.size) e.symm; omega)).trans hd, hbl.grown hg hbl.size (fun b e => by have := hr b e; omega), hg.cell h1 (fun e => by have := hr _ e.symm; have h : w.heap.size + 1 + 1 + 1 = w8.heap.size + 1 := this; omega)⟩
    case seq2 =>
      intro l J Jx W hW j1 j2 j3 j4
      refine (sets1_in 8 (by omega) nb kb N K (w8.heap.size + 2) hN hK l J Jx W hW.symm j1 (fun t W h => ?_) (fun t W0 W h1 h2 h3 h4 h5 h6 h7 => j3 t W0 W _ ⟨h1, h4, h6, rfl, h7, gb_below h5 _⟩ h2 h3) j4).mono ?_
      · obtain ⟨-, -, wv, h, -⟩ := j2 t W h
        exact ⟨h.nn, h.kk⟩
      · rintro e W' ⟨hv, (⟨t, h1, h2, h3⟩ | h)⟩
        · exact ⟨hv, Or.inl ⟨t + 1, ⟨t, rfl, h1, h2⟩, h3⟩⟩
        · exact ⟨hv, Or.inr h⟩
    case round2 =>
      intro l t v
      refine ⟨_, fun W K0 hK => by gi_wp2; exact hK, ?_⟩
      rintro W0 W ⟨ht, hD0, wv, ha0, hw0⟩ - ⟨hl, hX, hlt, rfl, hv, hgr⟩
      have hmix : Try.prog.follows .mixedOrders = true := by kernel_rfl
      have hK64 : K ≤ 64 := by omega
      have ha := ha0.grown hgr (fun b e => by cases e; have := HSB2.out; have := ha0.lw; have := ha0.ln; have := ha0.lk; omega)
      have hw := ((hw0.1 hl).sep (Sp' := fun b => Sep w nb kb bw bi w8.heap.size b ∧ b ≠ W0.heap.size) (fun b h1 h2 => ⟨h2, by omega⟩)).grown hgr (fun b e hs => by cases e; exact hs.1.2.2.2.2.2.2.1 rfl)
      have HDW := Lib.hid ((hgr.block (w6.heap.size) (by have := HDL.out; omega) (fun e => by injection e with e; have := HDL.out; omega)).trans hD0)
      clear hD0
      obtain ⟨u, g, cap, rfl, gu, hu, hsp⟩ := hw.elem
      have hXW : w8.heap.size + 2 < W.heap.size := by omega
      have HLN := Lib.hid (LikeNums_yes _ _ K (setS N K t) W hK64 (hv.read hK64) (hu.read hK64))
      obtain ⟨s0, s0'⟩ := ha.cw
      have HA := Lib.hid ha
      have HW := Lib.hid hw
      have HL := Lib.hid hl
      have HU := Lib.hid hu
      have HV := Lib.hid hv
      clear ha hw hl hu hv ha0 hw0 hgr
      gi_wp2
      refine ⟨trivial, (CallsIn.inRound l (callsIn_wide.2 HLN.out)).mono ?_⟩
      rintro e W2 ⟨rfl, hb2⟩
      have HA2 := Lib.hid (HA.out.below hb2)
      have HW2 := Lib.hid (HW.out.grown (gb_below hb2 none) (fun _ e => by cases e))
      have HU2 := Lib.hid (HU.out.below hb2)
      have HK2 := Lib.hid (Kx.below hb2 hXW)
      have HNX := Lib.hid (Next_any u K N (setS N K t) W2.drew hN hK ((HU2.out.read hK64).below (bl_drew _)) (setS_ris hK t HL.out))
      have HV2 := Lib.hid (HV.out.below hb2)
      have hlt2 := Nat.lt_of_lt_of_le hXW hb2.size
      have hgW : g < W2.heap.size := Nat.lt_of_lt_of_le (World.block_lt_of_cell? _ _ gu) hb2.size
      have hlt3 : W0.heap.size < W2.heap.size := Nat.lt_of_lt_of_le hlt hb2.size
      replace gu := cell_stays hb2 gu
      obtain ⟨s0, s0'⟩ := HA2.out.cw
      have s1 := HA2.out.cn
      clear hb2 HLN HA HW HU HV
      gi_wp2
      refine region_round (fun x => x.cell? ⟨bw, 0, none⟩ = some (.slice (some ⟨g, 0, none⟩) 1 cap) ∧ x.cell? ⟨g, 0, none⟩ = some u ∧ x.cell? ⟨w.heap.size, 0, none⟩ = some (.int .i64 N)) 5 hmix (by kernel_rfl) (by rintro ⟨a', w', h'⟩; exact h') ?_
      have hS : W2.drew.cell? ⟨bw, 0, none⟩ = some (.slice (some ⟨g, 0, none⟩) 1 cap) ∧ W2.drew.cell? ⟨g, 0, none⟩ = some u ∧ W2.drew.cell? ⟨w.heap.size, 0, none⟩ = some (.int .i64 N) := ⟨s0, gu, s1⟩
      refine anyL_take (i := 0) (v := .slice (some ⟨g, 0, none⟩) 1 cap) rfl (by kernel_rfl) (by kernel_rfl) (by kernel_rfl) (by kernel_rfl) (fun _ _ _ h => h) (Or.inl ⟨by rfl, ?_⟩) hS ?_
      · intro u hu
        obtain ⟨u1, u2, u3⟩ := hu
        go_simp
      simp only [Act.put, List.setIfInBounds_toArray, List.set_cons_zero, List.set_cons_succ]
      refine anyL_pure (i := 1) (v := .pointer (some ⟨g, 0, none⟩)) rfl (by kernel_rfl) (by kernel_rfl) (by kernel_rfl) (by kernel_rfl) (fun _ _ _ h => h) (Or.inl ⟨by rfl, ?_⟩) hS ?_
      · intro u hu
        go_simp
      simp only [Act.put, List.setIfInBounds_toArray, List.set_cons_zero, List.set_cons_succ]
      refine anyL_take (i := 2) (v := u) rfl (by kernel_rfl) (by kernel_rfl) (by kernel_rfl) (by kernel_rfl) (fun _ _ _ h => h) (Or.inl ⟨by rfl, ?_⟩) hS ?_
      · intro u hu
        obtain ⟨u1, u2, u3⟩ := hu
        go_simp
      simp only [Act.put, List.setIfInBounds_toArray, List.set_cons_zero, List.set_cons_succ]
      refine anyL_take (i := 3) (v := .int .i64 N) rfl (by kernel_rfl) (by kernel_rfl) (by kernel_rfl) (by kernel_rfl) (fun _ _ _ h => h) (Or.inl ⟨by rfl, ?_⟩) hS ?_
      · intro u hu
        obtain ⟨u1, u2, u3⟩ := hu
        go_simp
      simp only [Act.put, List.setIfInBounds_toArray, List.set_cons_zero, List.set_cons_succ]
      refine anyL_one (i := 4) (by kernel_rfl) rfl rfl fun K0 hK0 => ?_
      go_simp
      refine HNX.out.mono ?_
      rintro e W4 ⟨hb4a, hnx⟩
      have hb4 : Below W2.heap.size W2 W4 := below_via (bl_drew _) hb4a
      have HS4 := Lib.hid (show W4.cell? ⟨bw, 0, none⟩ = some (.slice (some ⟨g, 0, none⟩) 1 cap) ∧ W4.cell? ⟨g, 0, none⟩ = some u ∧ W4.cell? ⟨w.heap.size, 0, none⟩ = some (.int .i64 N) from ⟨cell_stays hb4 s0, cell_stays hb4 gu, cell_stays hb4 s1⟩)
      have HA4 := Lib.hid (HA2.out.below hb4)
      have HW4 := Lib.hid (HW2.out.grown (gb_below hb4 none) (fun _ e => by cases e))
      have HK4 := Lib.hid (HK2.out.trans (Kx.below hb4 hlt2))
      have HV4 := Lib.hid (HV2.out.below hb4)
      have HZ4 := Lib.hid hb4.size
      clear hb4a hb4 hS HNX HA2 HW2 HK2 HV2 HU2 s0 s0' gu s1
      obtain ⟨vn, rfl, hnv⟩ : ∃ vn, e = .returned vn ∧ ((hiI N K (setS N K t) K = 0 ∧ vn = .slice none 0 0) ∨ (0 < hiI N K (setS N K t) K ∧ ∃ g cap, vn = .slice (some ⟨g, 0, none⟩) K cap ∧ NumL W4 W2.heap.size (.slice (some ⟨g, 0, none⟩) K cap) K (setS N K (t + 1)))) := by
        rcases hnx with ⟨h1, rfl⟩ | ⟨h1, g, cap, rfl, h2⟩
        · exact ⟨_, rfl, Or.inl ⟨h1, rfl⟩⟩
        · exact ⟨_, rfl, Or.inr ⟨h1, g, cap, rfl, h2⟩⟩
      have HNX := Lib.hid hnv
      clear hnx hnv
      refine hK0 _ _ (fun _ => HS4.out) ?_
      clear hK0 K0
      try simp only [Act.put, List.setIfInBounds_toArray, List.set_cons_zero, List.set_cons_succ]
      refine anyL_one (i := 5) (by kernel_rfl) rfl rfl fun K0 hK0 => ?_
      go_simp
      refine hK0 _ _ (fun e => absurd e (by decide)) ?_
      clear hK0 K0
      refine anyL_done (by kernel_rfl) ?_ _
      obtain ⟨s0, s0'⟩ := HA4.out.cw
      have HA5 := Lib.hid (HA4.out.putw (.slice (some ⟨g, 0, none⟩) 0 cap))
      have HW5 := Lib.hid ((HW4.out.grown (gb_set W4 ⟨bw, 0, none⟩ (.slice (some ⟨g, 0, none⟩) 0 cap)) (fun b e hs => by cases e; exact hs.1.2.2.2.1 rfl)).cut)
      have HK5 := Lib.hid (HK4.out.trans (Kx.set W4 bw 0 (.slice (some ⟨g, 0, none⟩) 0 cap) (by have := HSB2.out; omega)))
      have HV5 := Lib.hid (show NumL (W4.setCell ⟨bw, 0, none⟩ (.slice (some ⟨g, 0, none⟩) 0 cap)) W0.heap.size _ K (setS N K t) from World.ownsRow.kept HV4.out (gb_set W4 ⟨bw, 0, none⟩ (.slice (some ⟨g, 0, none⟩) 0 cap)) (Or.inr fun e => by simp [Value.ownBlock] at e; have := HSB2.out; omega))
      have HZ5 := Lib.hid (Nat.le_trans HZ4.out (gb_set W4 ⟨bw, 0, none⟩ (.slice (some ⟨g, 0, none⟩) 0 cap)).size)
      have HNX5 := Lib.hid (show (hiI N K (setS N K t) K = 0 ∧ vn = .slice none 0 0) ∨ (0 < hiI N K (setS N K t) K ∧ ∃ g' cap', vn = .slice (some ⟨g', 0, none⟩) K cap' ∧ NumL (W4.setCell ⟨bw, 0, none⟩ (.slice (some ⟨g, 0, none⟩) 0 cap)) W2.heap.size (.slice (some ⟨g', 0, none⟩) K cap') K (setS N K (t + 1))) from by
        rcases HNX.out with h | ⟨h1, g', cap', h2, h3⟩
        · exact Or.inl h
        · exact Or.inr ⟨h1, g', cap', h2, World.ownsRow.kept h3 (gb_set W4 ⟨bw, 0, none⟩ (.slice (some ⟨g, 0, none⟩) 0 cap)) (Or.inr fun e => by
            have e1 : g' = bw := by simpa [Value.ownBlock] using e
            have e2 : W2.heap.size ≤ g' := (World.ownsRow.lt h3 g' rfl).1
            have e3 := HSB2.out.2.1
            omega)⟩)
      have HW4' := Lib.hid HW4.out
      clear HA4 HW4 HK4 HV4 HZ4 HNX HS4
      have he0 : ∀ w : World, (binOp .neq 25 (.slice none 0 0) (.slice none 0 0)).run Try.prog w = .ok (.bool false) w := fun _ => rfl
      have he1 : ∀ (g n c : Nat) (w : World), (binOp .neq 25 (.slice (some ⟨g, 0, none⟩) n c) (.slice none 0 0)).run Try.prog w = .ok (.bool true) w := fun _ _ _ _ => rfl
      have r1 := HA5.out.ck
      have r2 := HA5.out.ci
      have HRM := Lib.hid (HW4'.out.room)
      gi_upto_region 31 with fail
      generalize W4.setCell ⟨bw, 0, none⟩ (.slice (some ⟨g, 0, none⟩) 0 cap) = W5 at *
      obtain ⟨s2, s2'⟩ := HA5.out.cw
      rcases HNX5.out with ⟨hh, rfl⟩ | ⟨hh, g', cap', rfl, hn'⟩
      · have HA8 := Lib.hid HA5.out
        have HW8 := Lib.hid (wn0_next HW5.out hh)
        have HK8 := Lib.hid HK5.out
        have HV8 := Lib.hid HV5.out.cells
        clear HW5 HNX5 hh HA5 HK5 HV5 s2 s2'
        obtain ⟨s4, s4'⟩ := HA8.out.ci
        have s5 := HA8.out.cc
        have hi9 := HA8.out.puti ((t : Int) + 1)
        have s6 := hi9.cc
        obtain ⟨s7, s7'⟩ := hi9.ci
        obtain ⟨s9, s9'⟩ := hi9.cr
        have HI9 := Lib.hid hi9
        have HK10 := Lib.hid (HK8.out.trans (Kx.set W5 bi 0 (.int .i64 ((t : Int) + 1)) (by have := HSB2.out; omega)))
        have HW10 := Lib.hid ((HW8.out.grown (gb_set W5 ⟨bi, 0, none⟩ (.int .i64 ((t : Int) + 1))) (fun b e hs => by cases e; exact hs.1.2.2.2.2.1 rfl)).sep (Sp' := Sep w nb kb bw bi w8.heap.size) (fun b h => h.1))
        clear HK8 HW8 HV8 hi9
        by_cases hgt : (c : Int) < (t : Int) + 1
        · gi_wp2
          have hk := HK10.out.1.trans (KeepsOthers.setCell _ ⟨w.heap.size + 1 + 1 + 1, 0, none⟩ (.bool true))
          exact ⟨hk, rfl, hk.same _ _ HDW.out rfl, HI9.out.bel.grown (gb_set _ ⟨w.heap.size + 1 + 1 + 1, 0, none⟩ (.bool true)) HI9.out.bel.size (fun b hb => by cases hb; show w.heap.size ≤ w.heap.size + 1 + 1 + 1; omega), World.cell?_setCell_same _ _ _ s9⟩
        · have hgt' : (t : Int) + 1 ≤ (c : Int) := by omega
          gi_wp2
          exact ⟨HK10.out.1, HK10.out.2.1, by omega, HK10.out.1.same _ _ HDW.out rfl, _, HI9.out, HW10.out⟩
      · have hk0 : (0 : Int) < (K : Int) := by have := hiI_le N K (setS N K t) K; omega
        obtain ⟨i0, hi, hz0, hz1, hz2⟩ := info_parts infoNs
        have HI := Lib.hid (And.intro hi (And.intro hz0 (And.intro hz1 hz2)))
        obtain ⟨a0, c0, e0, ho, -⟩ := HW5.out
        simp only [Value.slice.injEq] at e0
        obtain ⟨rfl, -, rfl⟩ := e0
        have HO := Lib.hid (own_below ho (bl_alloc W5 (.cells #[.slice (some ⟨g', 0, none⟩) K cap'] 25)))
        have HN5 := Lib.hid hn'
        have HOO := Lib.hid ho
        have HST := Lib.hid (fun (W7 : World) (k1 : W7.ownsRow w.heap.size 25 1 (.slice (some ⟨g, 0, none⟩) (0 + 1) cap) (0 + 1) ([] ++ [.slice (some ⟨g', 0, none⟩) K cap'])) (k2 : (W5.alloc (.cells #[.slice (some ⟨g', 0, none⟩) K cap'] 25)).grownBy W7 (some g)) =>
          (show AgB w nb kb bw bi N K c (t : Nat) (.slice (some ⟨g, 0, none⟩) 0 cap) W7 ∧ Wn1 W7 w.heap.size (fun b => Sep w nb kb bw bi w8.heap.size b ∧ b ≠ W0.heap.size) (.slice (some ⟨g, 0, none⟩) 1 cap) K (setS N K (t + 1)) ∧ Kx (w8.heap.size + 2) W W7 ∧ NumL W7 W0.heap.size (.slice (some ⟨W0.heap.size, 0, none⟩) K K) K (setS N K t) from by
            have gb : W5.grownBy W7 (some g) := gb_trans (gb_below (bl_alloc W5 _) _) k2
            have hb1 := HSB2.out
            have hb2 := HA5.out.lw
            have hb3 := HA5.out.ln
            have hb4 := HA5.out.lk
            have hb5 := HA5.out.bel.size
            have hb6 := HZ5.out
            refine ⟨HA5.out.grown gb (fun b e => by cases e; exact ⟨hsp.1.1, hsp.1.2.1, hsp.1.2.2.1, hsp.1.2.2.2.1, hsp.1.2.2.2.2.1⟩), wn1_push HN5.out (by omega) hsp (fun b h1 h2 => ⟨⟨by omega, by omega, by omega, by omega, by omega, by omega, by omega, by omega⟩, by omega⟩) hgW k1 k2, HK5.out.trans ⟨KeepsOthers.of_grownBy gb (rowc_cells HOO.out), gb.block _ (by omega) (fun e => by cases e; exact hsp.1.2.2.2.2.2.2.2 rfl), gb.size⟩, World.ownsRow.kept HV5.out gb (Or.inr fun e => by simp [Value.ownBlock] at e; exact hsp.2 e.symm)⟩))
        clear hi hz0 hz1 hz2 ho hn' HW5 HNX5
        gi_upto_region 33 with (gi_at_builtin; refine wpListIn_append_fits _ (by rfl) _ _ 52 (by rfl) w.heap.size 25 i0 1 Try.underlying52 HI.out.1 HI.out.2.2.1 g 0 cap [] (by rfl) HO.out ⟨W5.heap.size, 0, none⟩ 1 1 [.slice (some ⟨g', 0, none⟩) K cap'] (by rfl) (by simp) (news_one _ _ _) (one_one rfl) HRM.out ?_; intro W7 k1 k2; have HKK := Lib.hid (HST.out W7 k1 k2); obtain ⟨t0, t0'⟩ := HKK.out.1.cw; clear k1 k2)
        have HA8 := Lib.hid (HKK.out.1.putw (.slice (some ⟨g, 0, none⟩) 1 cap))
        have HW8 := Lib.hid (wn1_next (HKK.out.2.1.grown (gb_set W7 ⟨bw, 0, none⟩ (.slice (some ⟨g, 0, none⟩) 1 cap)) (fun b e hs => by cases e; exact hs.1.2.2.2.1 rfl)) HL.out hh)
        have HK8 := Lib.hid (HKK.out.2.2.1.trans (Kx.set W7 bw 0 (.slice (some ⟨g, 0, none⟩) 1 cap) (by have := HSB2.out; omega)))
        have HV8 := Lib.hid (show RowAt .i64 (W7.setCell ⟨bw, 0, none⟩ (.slice (some ⟨g, 0, none⟩) 1 cap)) W0.heap.size 0 K (fun i => ((setS N K t i : Nat) : Int)) from HKK.out.2.2.2.cells.other (a := ⟨bw, 0, none⟩) (by have := HSB2.out; show bw ≠ W0.heap.size; omega) _)
        generalize W7.setCell ⟨bw, 0, none⟩ (.slice (some ⟨g, 0, none⟩) 1 cap) = W8 at *
        clear HKK HST HI HO HOO HN5 HA5 HK5 HV5 s2 s2' t0 t0' hk0
        obtain ⟨s4, s4'⟩ := HA8.out.ci
        have s5 := HA8.out.cc
        have hi9 := HA8.out.puti ((t : Int) + 1)
        have s6 := hi9.cc
        obtain ⟨s7, s7'⟩ := hi9.ci
        obtain ⟨s9, s9'⟩ := hi9.cr
        have HI9 := Lib.hid hi9
        have HK10 := Lib.hid (HK8.out.trans (Kx.set W8 bi 0 (.int .i64 ((t : Int) + 1)) (by have := HSB2.out; omega)))
        have HW10 := Lib.hid ((HW8.out.grown (gb_set W8 ⟨bi, 0, none⟩ (.int .i64 ((t : Int) + 1))) (fun b e hs => by cases e; exact hs.1.2.2.2.2.1 rfl)).sep (Sp' := Sep w nb kb bw bi w8.heap.size) (fun b h => h.1))
        clear HK8 HW8 HV8 hi9
        by_cases hgt : (c : Int) < (t : Int) + 1
        · gi_wp2
          have hk := HK10.out.1.trans (KeepsOthers.setCell _ ⟨w.heap.size + 1 + 1 + 1, 0, none⟩ (.bool true))
          exact ⟨hk, rfl, hk.same _ _ HDW.out rfl, HI9.out.bel.grown (gb_set _ ⟨w.heap.size + 1 + 1 + 1, 0, none⟩ (.bool true)) HI9.out.bel.size (fun b hb => by cases hb; show w.heap.size ≤ w.heap.size + 1 + 1 + 1; omega), World.cell?_setCell_same _ _ _ s9⟩
        · have hgt' : (t : Int) + 1 ≤ (c : Int) := by omega
          gi_wp2
          exact ⟨HK10.out.1, HK10.out.2.1, by omega, HK10.out.1.same _ _ HDW.out rfl, _, HI9.out, HW10.out⟩
    case done2 =>
      rintro D2 t W rfl ⟨s, rfl, -, hlast⟩ ⟨-, hd, wv, ha, hw⟩ hd2
      obtain ⟨a0, c0, rfl, -, -⟩ := hw.2 ⟨s, by omega, hlast⟩
      obtain ⟨v0, -⟩ := ha.cw
      obtain ⟨v1, v1'⟩ := ha.cr
      have HA9 := Lib.hid ha
      have HDD := Lib.hid (And.intro hd hd2)
      clear ha hw hd hd2
      gi_wp2
      have hk9 := KeepsOthers.setCell W ⟨w.heap.size + 1 + 1 + 1, 0, none⟩ (.bool true)
      have hdA := hk9.same _ _ HDD.out.1 rfl
      have hdB := hk9.same _ _ HDD.out.2 rfl
      have hcA := World.cell?_setCell_same W _ (Value.bool true) v1
      have hbA := HA9.out.bel.grown (gb_set W ⟨w.heap.size + 1 + 1 + 1, 0, none⟩ (.bool true)) HA9.out.bel.size (fun b hb => by cases hb; show w.heap.size ≤ w.heap.size + 1 + 1 + 1; omega)
      have gq := grownBy_putObj' (W.setCell ⟨w.heap.size + 1 + 1 + 1, 0, none⟩ (.bool true)) w8.heap.size (.deferred none)
      have hd3 : (((W.setCell ⟨w.heap.size + 1 + 1 + 1, 0, none⟩ (.bool true))).putObj w8.heap.size (.deferred none)).heap[w6.heap.size]? = some (.deferred (some [])) := (World.putObj_heap_other (by have := HDL.out; omega)).trans hdA
      have gq2 := grownBy_putObj' (((W.setCell ⟨w.heap.size + 1 + 1 + 1, 0, none⟩ (.bool true))).putObj w8.heap.size (.deferred none)) w6.heap.size (.deferred none)
      have hbr : w.heap.size + 1 + 1 + 1 < w6.heap.size := by have := HSB.out; have := HBWL.out; omega
      have hc5 := gq2.cell (gq.cell hcA (by intro e; injection e with e; have h : w.heap.size + 1 + 1 + 1 = w8.heap.size := e; have := HDL.out; omega)) (by intro e; injection e with e; have h : w.heap.size + 1 + 1 + 1 = w6.heap.size := e; omega)
      have hbA2 := (hbA.grown gq hbA.size (fun b e => by cases e; have := HDL.out; omega)).grown gq2 (hbA.grown gq hbA.size (fun b e => by cases e; have := HDL.out; omega)).size (fun b e => by cases e; omega)
      refine ⟨by simp, .inl ⟨_, _, rfl, run_takeDeferred hdB, by simp, .inl ⟨_, _, rfl, run_takeDeferred hd3, ?_⟩⟩⟩
      refine ⟨.bool true, ?_, rfl, hbA2⟩
      simp [results, Try.results6, go_sem, hc5]
    case stop2 =>
      rintro D2 j W rfl ⟨rfl, hd, hbl, hc1⟩ hd2
      gi_wp2
      have hdA := hd
      have hdB := hd2
      have hcA := hc1
      have hbA := hbl
      have gq := grownBy_putObj' W w8.heap.size (.deferred none)
      have hd3 : ((W).putObj w8.heap.size (.deferred none)).heap[w6.heap.size]? = some (.deferred (some [])) := (World.putObj_heap_other (by have := HDL.out; omega)).trans hdA
      have gq2 := grownBy_putObj' ((W).putObj w8.heap.size (.deferred none)) w6.heap.size (.deferred none)
      have hbr : w.heap.size + 1 + 1 + 1 < w6.heap.size := by have := HSB.out; have := HBWL.out; omega
      have hc5 := gq2.cell (gq.cell hcA (by intro e; injection e with e; have h : w.heap.size + 1 + 1 + 1 = w8.heap.size := e; have := HDL.out; omega)) (by intro e; injection e with e; have h : w.heap.size + 1 + 1 + 1 = w6.heap.size := e; omega)
      have hbA2 := (hbA.grown gq hbA.size (fun b e => by cases e; have := HDL.out; omega)).grown gq2 (hbA.grown gq hbA.size (fun b e => by cases e; have := HDL.out; omega)).size (fun b e => by cases e; omega)
      refine ⟨by simp, .inl ⟨_, _, rfl, run_takeDeferred hdB, by simp, .inl ⟨_, _, rfl, run_takeDeferred hd3, ?_⟩⟩⟩
      refine ⟨.bool true, ?_, rfl, hbA2⟩
      simp [results, Try.results6, go_sem, hc5]
  case stop =>
    rintro D j W rfl ⟨rfl, i, wv, ha⟩ hD
    have hDl : (w6.heap.size) < W.heap.size := (Array.getElem?_eq_some_iff.1 hD).1
    obtain ⟨u0, u0'⟩ := ha.cw
    obtain ⟨u1, u1'⟩ := ha.ci
    have u2 := ha.cn
    have u3 := ha.ck
    have HA := Lib.hid ha
    have HD := Lib.hid hD
    clear ha hD
    gi_wp2
    refine ⟨trivial, (callsIn_wide.2 (Some_good K N W hN hK)).mono ?_⟩
    rintro e w7 ⟨hb7, g7, cap7, rfl, hwl7⟩
    have HA7 := Lib.hid (HA.out.below hb7)
    have HD7 := Lib.hid ((hb7.block (w6.heap.size) hDl).trans HD.out)
    have hA8 := (HA7.out.putw (.slice (some ⟨g7, 0, none⟩) 1 cap7)).puti ((0 : Nat) : Int)
    have hk8 := (KeepsOthers.setCell w7 ⟨bw, 0, none⟩ (.slice (some ⟨g7, 0, none⟩) 1 cap7)).trans (KeepsOthers.setCell _ ⟨bi, 0, none⟩ (.int .i64 ((0 : Nat) : Int)))
    have HA8 := Lib.hid hA8
    have HD8 := Lib.hid (hk8.same _ _ HD7.out rfl)
    have hW7 := hb7.size
    have hsz8 : w7.heap.size = ((w7.setCell ⟨bw, 0, none⟩ (.slice (some ⟨g7, 0, none⟩) 1 cap7)).setCell ⟨bi, 0, none⟩ (.int .i64 ((0 : Nat) : Int))).heap.size := by simp [World.setCell]
    obtain ⟨u4, u4'⟩ := HA7.out.cw
    obtain ⟨u5, u5'⟩ := (HA7.out.putw (.slice (some ⟨g7, 0, none⟩) 1 cap7)).ci
    have HWL := Lib.hid hwl7
    have hbwl : bw < w7.heap.size := World.block_lt_of_cell? _ _ u4
    have hbil : bi < w7.heap.size := by have := World.block_lt_of_cell? _ _ HA7.out.ci.1; exact this
    have hnbl : nb < w7.heap.size := by have := World.block_lt_of_cell? _ _ HA7.out.nn; exact this
    have hkbl : kb < w7.heap.size := by have := World.block_lt_of_cell? _ _ HA7.out.kk; exact this
    have HSB7 := Lib.hid (show bi < W.heap.size ∧ bw < W.heap.size ∧ nb < W.heap.size ∧ kb < W.heap.size from ⟨World.block_lt_of_cell? _ _ u1, World.block_lt_of_cell? _ _ u0, World.block_lt_of_cell? _ _ HA.out.nn, World.block_lt_of_cell? _ _ HA.out.kk⟩)
    have HSZ8 := Lib.hid hsz8
    clear hb7 hwl7 hA8 hk8 hsz8 u0 u0' u1 u1' u2 u3
    gi_wp2
    have HWN8 := Lib.hid (show Wn1 ((w7.setCell ⟨bw, 0, none⟩ (.slice (some ⟨g7, 0, none⟩) 1 cap7)).setCell ⟨bi, 0, none⟩ (.int .i64 ((0 : Nat) : Int))) w.heap.size (Sep w nb kb bw bi w7.heap.size) (.slice (some ⟨g7, 0, none⟩) 1 cap7) K (setS N K 0) from
      ((wn1_start HWL.out (Below.refl _ _) (by have := HA.out.bel.size; omega) (fun b h1 h2 => ⟨by have := HSB7.out; have := HA.out.lw; omega, by have := HSB7.out; omega, by have := HSB7.out; omega, by have := HSB7.out; omega, by have := HSB7.out; omega, by omega, by omega, by omega⟩)).grown (gb_set _ _ _) (fun b e hs => by cases e; exact hs.2.2.2.1 rfl)).grown (gb_set _ _ _) (fun b e hs => by cases e; exact hs.2.2.2.2.1 rfl))
    rw [HSZ8.out] at HWN8 hbwl hbil hnbl hkbl hW7
    have e0 : (Value.int IntKind.i64 ((0 : Nat) : Int)) = Value.int IntKind.i64 0 := rfl
    rw [e0] at HA8 HD8 HWN8 hbwl hbil hnbl hkbl hW7
    generalize (w7.setCell ⟨bw, 0, none⟩ (.slice (some ⟨g7, 0, none⟩) 1 cap7)).setCell ⟨bi, 0, none⟩ (.int .i64 0) = w8 at *
    have HBWL := Lib.hid (show w.heap.size + 4 ≤ bw from HA8.out.lw)
    have HDL := Lib.hid (show (w6.heap.size) < w8.heap.size by omega)
    have HSB2 := Lib.hid (show bi < w8.heap.size ∧ bw < w8.heap.size ∧ nb < w8.heap.size ∧ kb < w8.heap.size by omega)
    clear HSZ8 u4 u4' u5 u5' HWL HA HD HA7 HD7 hDl hbwl hbil hnbl hkbl hW7 HSB7 e0
    refine range_stops (n := 9) (by omega) (gf := 71) (lb := #[.pointer (some ⟨nb, 0, none⟩), .pointer (some ⟨kb, 0, none⟩)]) rfl (enters_of Try.func71 (by kernel_rfl) rfl) rfl
      (fun t => ∃ s, t = s + 1 ∧ (∀ r, r < s → ¬ LastS N K r) ∧ LastS N K s) (RowS (w8.heap.size + 1) N K) (fun t W0 W W' v h hg => h.put hg)
      (fun t W => t ≤ 100002 ∧ W.heap[(w6.heap.size)]? = some (.deferred (some [])) ∧ ∃ wv, AgB w nb kb bw bi N K c (t : Nat) wv W ∧ Wnt W w.heap.size (Sep w nb kb bw bi w8.heap.size) wv N K t)
      (fun j W => j = .ret ∧ W.heap[(w6.heap.size)]? = some (.deferred (some [])) ∧ Below w.heap.size w W ∧ W.cell? ⟨w.heap.size + 1 + 1 + 1, 0, none⟩ = some (.bool true)) ?inv2 ?invx2 ?seq2 ⟨Nat.zero_le _, HD8.out, _, HA8.out, ⟨fun _ => HWN8.out, fun ⟨s, hs, _⟩ => absurd hs (by omega)⟩⟩ ?round2 ?done2 ?stop2
    case inv2 =>
      rintro t W W' r ⟨ht, hd, wv, h1, h2⟩ hg hr
      have hb := HSB2.out
      have hb2 := HDL.out
      have hl := h1.li
      exact ⟨ht, (hg.block (w6.heap.size) (Array.getElem?_eq_some_iff.1 hd).1 (fun e => by rcases hr (w6.heap.size) e.symm with h | h <;> omega)).trans hd, wv, h1.grown hg (fun b e => by rcases hr b e with h | h <;> (have := h1.lw; have := h1.ln; have := h1.lk; omega)), h2.grown hg (fun b e hs => by
        obtain ⟨-, -, -, -, -, -, k1, k2⟩ := hs
        rcases hr b e with h | h
        · exact k1 h
        · exact k2 h)⟩
    case invx2 =>
      rintro j W W' r ⟨rfl, hd, hbl, h1⟩ hg hr
      have hb := HSB2.out
      have hb2 := HDL.out
      have hb3 := HA8.out.lw
      exact ⟨rfl, (hg.block (w6.heap.size) (Array.getElem?_eq_some_iff.1 hd).1 (fun e => by have := hr (w6.heap.size) e.symm; omega)).trans hd, hbl.grown hg hbl.size (fun b e => by have := hr b e; omega), hg.cell h1 (fun e => by have := hr _ e.symm; have h : w.heap.size + 1 + 1 + 1 = w8.heap.size + 1 := this; omega)⟩
    case seq2 =>
      intro l J Jx W hW j1 j2 j3 j4
      refine (sets1_in 8 (by omega) nb kb N K (w8.heap.size + 2) hN hK l J Jx W hW.symm j1 (fun t W h => ?_) (fun t W0 W h1 h2 h3 h4 h5 h6 h7 => j3 t W0 W _ ⟨h1, h4, h6, rfl, h7, gb_below h5 _⟩ h2 h3) j4).mono ?_
      · obtain ⟨-, -, wv, h, -⟩ := j2 t W h
        exact ⟨h.nn, h.kk⟩
      · rintro e W' ⟨hv, (⟨t, h1, h2, h3⟩ | h)⟩
        · exact ⟨hv, Or.inl ⟨t + 1, ⟨t, rfl, h1, h2⟩, h3⟩⟩
        · exact ⟨hv, Or.inr h⟩
    case round2 =>
      intro l t v
      refine ⟨_, fun W K0 hK => by gi_wp2; exact hK, ?_⟩
      rintro W0 W ⟨ht, hD0, wv, ha0, hw0⟩ - ⟨hl, hX, hlt, rfl, hv, hgr⟩
      have hmix : Try.prog.follows .mixedOrders = true := by kernel_rfl
      have hK64 : K ≤ 64 := by omega
      have ha := ha0.grown hgr (fun b e => by cases e; have := HSB2.out; have := ha0.lw; have := ha0.ln; have := ha0.lk; omega)
      have hw := ((hw0.1 hl).sep (Sp' := fun b => Sep w nb kb bw bi w8.heap.size b ∧ b ≠ W0.heap.size) (fun b h1 h2 => ⟨h2, by omega⟩)).grown hgr (fun b e hs => by cases e; exact hs.1.2.2.2.2.2.2.1 rfl)
      have HDW := Lib.hid ((hgr.block (w6.heap.size) (by have := HDL.out; omega) (fun e => by injection e with e; have := HDL.out; omega)).trans hD0)
      clear hD0
      obtain ⟨u, g, cap, rfl, gu, hu, hsp⟩ := hw.elem
      have hXW : w8.heap.size + 2 < W.heap.size := by omega
      have HLN := Lib.hid (LikeNums_yes _ _ K (setS N K t) W hK64 (hv.read hK64) (hu.read hK64))
      obtain ⟨s0, s0'⟩ := ha.cw
      have HA := Lib.hid ha
      have HW := Lib.hid hw
      have HL := Lib.hid hl
      have HU := Lib.hid hu
      have HV := Lib.hid hv
      clear ha hw hl hu hv ha0 hw0 hgr
      gi_wp2
      refine ⟨trivial, (CallsIn.inRound l (callsIn_wide.2 HLN.out)).mono ?_⟩
      rintro e W2 ⟨rfl, hb2⟩
      have HA2 := Lib.hid (HA.out.below hb2)
      have HW2 := Lib.hid (HW.out.grown (gb_below hb2 none) (fun _ e => by cases e))
      have HU2 := Lib.hid (HU.out.below hb2)
      have HK2 := Lib.hid (Kx.below hb2 hXW)
      have HNX := Lib.hid (Next_any u K N (setS N K t) W2.drew hN hK ((HU2.out.read hK64).below (bl_drew _)) (setS_ris hK t HL.out))
      have HV2 := Lib.hid (HV.out.below hb2)
      have hlt2 := Nat.lt_of_lt_of_le hXW hb2.size
      have hgW : g < W2.heap.size := Nat.lt_of_lt_of_le (World.block_lt_of_cell? _ _ gu) hb2.size
      have hlt3 : W0.heap.size < W2.heap.size := Nat.lt_of_lt_of_le hlt hb2.size
      replace gu := cell_stays hb2 gu
      obtain ⟨s0, s0'⟩ := HA2.out.cw
      have s1 := HA2.out.cn
      clear hb2 HLN HA HW HU HV
      gi_wp2
      refine region_round (fun x => x.cell? ⟨bw, 0, none⟩ = some (.slice (some ⟨g, 0, none⟩) 1 cap) ∧ x.cell? ⟨g, 0, none⟩ = some u ∧ x.cell? ⟨w.heap.size, 0, none⟩ = some (.int .i64 N)) 5 hmix (by kernel_rfl) (by rintro ⟨a', w', h'⟩; exact h') ?_
      have hS : W2.drew.cell? ⟨bw, 0, none⟩ = some (.slice (some ⟨g, 0, none⟩) 1 cap) ∧ W2.drew.cell? ⟨g, 0, none⟩ = some u ∧ W2.drew.cell? ⟨w.heap.size, 0, none⟩ = some (.int .i64 N) := ⟨s0, gu, s1⟩
      refine anyL_take (i := 0) (v := .slice (some ⟨g, 0, none⟩) 1 cap) rfl (by kernel_rfl) (by kernel_rfl) (by kernel_rfl) (by kernel_rfl) (fun _ _ _ h => h) (Or.inl ⟨by rfl, ?_⟩) hS ?_
      · intro u hu
        obtain ⟨u1, u2, u3⟩ := hu
        go_simp
      simp only [Act.put, List.setIfInBounds_toArray, List.set_cons_zero, List.set_cons_succ]
      refine anyL_pure (i := 1) (v := .pointer (some ⟨g, 0, none⟩)) rfl (by kernel_rfl) (by kernel_rfl) (by kernel_rfl) (by kernel_rfl) (fun _ _ _ h => h) (Or.inl ⟨by rfl, ?_⟩) hS ?_
      · intro u hu
        go_simp
      simp only [Act.put, List.setIfInBounds_toArray, List.set_cons_zero, List.set_cons_succ]
      refine anyL_take (i := 2) (v := u) rfl (by kernel_rfl) (by kernel_rfl) (by kernel_rfl) (by kernel_rfl) (fun _ _ _ h => h) (Or.inl ⟨by rfl, ?_⟩) hS ?_
      · intro u hu
        obtain ⟨u1, u2, u3⟩ := hu
        go_simp
      simp only [Act.put, List.setIfInBounds_toArray, List.set_cons_zero, List.set_cons_succ]
      refine anyL_take (i := 3) (v := .int .i64 N) rfl (by kernel_rfl) (by kernel_rfl) (by kernel_rfl) (by kernel_rfl) (fun _ _ _ h => h) (Or.inl ⟨by rfl, ?_⟩) hS ?_
      · intro u hu
        obtain ⟨u1, u2, u3⟩ := hu
        go_simp
      simp only [Act.put, List.setIfInBounds_toArray, List.set_cons_zero, List.set_cons_succ]
      refine anyL_one (i := 4) (by kernel_rfl) rfl rfl fun K0 hK0 => ?_
      go_simp
      refine HNX.out.mono ?_
      rintro e W4 ⟨hb4a, hnx⟩
      have hb4 : Below W2.heap.size W2 W4 := below_via (bl_drew _) hb4a
      have HS4 := Lib.hid (show W4.cell? ⟨bw, 0, none⟩ = some (.slice (some ⟨g, 0, none⟩) 1 cap) ∧ W4.cell? ⟨g, 0, none⟩ = some u ∧ W4.cell? ⟨w.heap.size, 0, none⟩ = some (.int .i64 N) from ⟨cell_stays hb4 s0, cell_stays hb4 gu, cell_stays hb4 s1⟩)
      have HA4 := Lib.hid (HA2.out.below hb4)
      have HW4 := Lib.hid (HW2.out.grown (gb_below hb4 none) (fun _ e => by cases e))
      have HK4 := Lib.hid (HK2.out.trans (Kx.below hb4 hlt2))
      have HV4 := Lib.hid (HV2.out.below hb4)
      have HZ4 := Lib.hid hb4.size
      clear hb4a hb4 hS HNX HA2 HW2 HK2 HV2 HU2 s0 s0' gu s1
      obtain ⟨vn, rfl, hnv⟩ : ∃ vn, e = .returned vn ∧ ((hiI N K (setS N K t) K = 0 ∧ vn = .slice none 0 0) ∨ (0 < hiI N K (setS N K t) K ∧ ∃ g cap, vn = .slice (some ⟨g, 0, none⟩) K cap ∧ NumL W4 W2.heap.size (.slice (some ⟨g, 0, none⟩) K cap) K (setS N K (t + 1)))) := by
        rcases hnx with ⟨h1, rfl⟩ | ⟨h1, g, cap, rfl, h2⟩
        · exact ⟨_, rfl, Or.inl ⟨h1, rfl⟩⟩
        · exact ⟨_, rfl, Or.inr ⟨h1, g, cap, rfl, h2⟩⟩
      have HNX := Lib.hid hnv
      clear hnx hnv
      refine hK0 _ _ (fun _ => HS4.out) ?_
      clear hK0 K0
      try simp only [Act.put, List.setIfInBounds_toArray, List.set_cons_zero, List.set_cons_succ]
      refine anyL_one (i := 5) (by kernel_rfl) rfl rfl fun K0 hK0 => ?_
      go_simp
      refine hK0 _ _ (fun e => absurd e (by decide)) ?_
      clear hK0 K0
      refine anyL_done (by kernel_rfl) ?_ _
      obtain ⟨s0, s0'⟩ := HA4.out.cw
      have HA5 := Lib.hid (HA4.out.putw (.slice (some ⟨g, 0, none⟩) 0 cap))
      have HW5 := Lib.hid ((HW4.out.grown (gb_set W4 ⟨bw, 0, none⟩ (.slice (some ⟨g, 0, none⟩) 0 cap)) (fun b e hs => by cases e; exact hs.1.2.2.2.1 rfl)).cut)
      have HK5 := Lib.hid (HK4.out.trans (Kx.set W4 bw 0 (.slice (some ⟨g, 0, none⟩) 0 cap) (by have := HSB2.out; omega)))
      have HV5 := Lib.hid (show NumL (W4.setCell ⟨bw, 0, none⟩ (.slice (some ⟨g, 0, none⟩) 0 cap)) W0.heap.size _ K (setS N K t) from World.ownsRow.kept HV4.out (gb_set W4 ⟨bw, 0, none⟩ (.slice (some ⟨g, 0, none⟩) 0 cap)) (Or.inr fun e => by simp [Value.ownBlock] at e; have := HSB2.out; omega))
      have HZ5 := Lib.hid (Nat.le_trans HZ4.out (gb_set W4 ⟨bw, 0, none⟩ (.slice (some ⟨g, 0, none⟩) 0 cap)).size)
      have HNX5 := Lib.hid (show (hiI N K (setS N K t) K = 0 ∧ vn = .slice none 0 0) ∨ (0 < hiI N K (setS N K t) K ∧ ∃ g' cap', vn = .slice (some ⟨g', 0, none⟩) K cap' ∧ NumL (W4.setCell ⟨bw, 0, none⟩ (.slice (some ⟨g, 0, none⟩) 0 cap)) W2.heap.size (.slice (some ⟨g', 0, none⟩) K cap') K (setS N K (t + 1))) from by
        rcases HNX.out with h | ⟨h1, g', cap', h2, h3⟩
        · exact Or.inl h
        · exact Or.inr ⟨h1, g', cap', h2, World.ownsRow.kept h3 (gb_set W4 ⟨bw, 0, none⟩ (.slice (some ⟨g, 0, none⟩) 0 cap)) (Or.inr fun e => by
            have e1 : g' = bw := by simpa [Value.ownBlock] using e
            have e2 : W2.heap.size ≤ g' := (World.ownsRow.lt h3 g' rfl).1
            have e3 := HSB2.out.2.1
            omega)⟩)
      have HW4' := Lib.hid HW4.out
      clear HA4 HW4 HK4 HV4 HZ4 HNX HS4
      have he0 : ∀ w : World, (binOp .neq 25 (.slice none 0 0) (.slice none 0 0)).run Try.prog w = .ok (.bool false) w := fun _ => rfl
      have he1 : ∀ (g n c : Nat) (w : World), (binOp .neq 25 (.slice (some ⟨g, 0, none⟩) n c) (.slice none 0 0)).run Try.prog w = .ok (.bool true) w := fun _ _ _ _ => rfl
      have r1 := HA5.out.ck
      have r2 := HA5.out.ci
      have HRM := Lib.hid (HW4'.out.room)
      gi_upto_region 31 with fail
      generalize W4.setCell ⟨bw, 0, none⟩ (.slice (some ⟨g, 0, none⟩) 0 cap) = W5 at *
      obtain ⟨s2, s2'⟩ := HA5.out.cw
      rcases HNX5.out with ⟨hh, rfl⟩ | ⟨hh, g', cap', rfl, hn'⟩
      · have HA8 := Lib.hid HA5.out
        have HW8 := Lib.hid (wn0_next HW5.out hh)
        have HK8 := Lib.hid HK5.out
        have HV8 := Lib.hid HV5.out.cells
        clear HW5 HNX5 hh HA5 HK5 HV5 s2 s2'
        obtain ⟨s4, s4'⟩ := HA8.out.ci
        have s5 := HA8.out.cc
        have hi9 := HA8.out.puti ((t : Int) + 1)
        have s6 := hi9.cc
        obtain ⟨s7, s7'⟩ := hi9.ci
        obtain ⟨s9, s9'⟩ := hi9.cr
        have HI9 := Lib.hid hi9
        have HK10 := Lib.hid (HK8.out.trans (Kx.set W5 bi 0 (.int .i64 ((t : Int) + 1)) (by have := HSB2.out; omega)))
        have HW10 := Lib.hid ((HW8.out.grown (gb_set W5 ⟨bi, 0, none⟩ (.int .i64 ((t : Int) + 1))) (fun b e hs => by cases e; exact hs.1.2.2.2.2.1 rfl)).sep (Sp' := Sep w nb kb bw bi w8.heap.size) (fun b h => h.1))
        clear HK8 HW8 HV8 hi9
        by_cases hgt : (c : Int) < (t : Int) + 1
        · gi_wp2
          have hk := HK10.out.1.trans (KeepsOthers.setCell _ ⟨w.heap.size + 1 + 1 + 1, 0, none⟩ (.bool true))
          exact ⟨hk, rfl, hk.same _ _ HDW.out rfl, HI9.out.bel.grown (gb_set _ ⟨w.heap.size + 1 + 1 + 1, 0, none⟩ (.bool true)) HI9.out.bel.size (fun b hb => by cases hb; show w.heap.size ≤ w.heap.size + 1 + 1 + 1; omega), World.cell?_setCell_same _ _ _ s9⟩
        · have hgt' : (t : Int) + 1 ≤ (c : Int) := by omega
          gi_wp2
          exact ⟨HK10.out.1, HK10.out.2.1, by omega, HK10.out.1.same _ _ HDW.out rfl, _, HI9.out, HW10.out⟩
      · have hk0 : (0 : Int) < (K : Int) := by have := hiI_le N K (setS N K t) K; omega
        obtain ⟨i0, hi, hz0, hz1, hz2⟩ := info_parts infoNs
        have HI := Lib.hid (And.intro hi (And.intro hz0 (And.intro hz1 hz2)))
        obtain ⟨a0, c0, e0, ho, -⟩ := HW5.out
        simp only [Value.slice.injEq] at e0
        obtain ⟨rfl, -, rfl⟩ := e0
        have HO := Lib.hid (own_below ho (bl_alloc W5 (.cells #[.slice (some ⟨g', 0, none⟩) K cap'] 25)))
        have HN5 := Lib.hid hn'
        have HOO := Lib.hid ho
        have HST := Lib.hid (fun (W7 : World) (k1 : W7.ownsRow w.heap.size 25 1 (.slice (some ⟨g, 0, none⟩) (0 + 1) cap) (0 + 1) ([] ++ [.slice (some ⟨g', 0, none⟩) K cap'])) (k2 : (W5.alloc (.cells #[.slice (some ⟨g', 0, none⟩) K cap'] 25)).grownBy W7 (some g)) =>
          (show AgB w nb kb bw bi N K c (t : Nat) (.slice (some ⟨g, 0, none⟩) 0 cap) W7 ∧ Wn1 W7 w.heap.size (fun b => Sep w nb kb bw bi w8.heap.size b ∧ b ≠ W0.heap.size) (.slice (some ⟨g, 0, none⟩) 1 cap) K (setS N K (t + 1)) ∧ Kx (w8.heap.size + 2) W W7 ∧ NumL W7 W0.heap.size (.slice (some ⟨W0.heap.size, 0, none⟩) K K) K (setS N K t) from by
            have gb : W5.grownBy W7 (some g) := gb_trans (gb_below (bl_alloc W5 _) _) k2
            have hb1 := HSB2.out
            have hb2 := HA5.out.lw
            have hb3 := HA5.out.ln
            have hb4 := HA5.out.lk
            have hb5 := HA5.out.bel.size
            have hb6 := HZ5.out
            refine ⟨HA5.out.grown gb (fun b e => by cases e; exact ⟨hsp.1.1, hsp.1.2.1, hsp.1.2.2.1, hsp.1.2.2.2.1, hsp.1.2.2.2.2.1⟩), wn1_push HN5.out (by omega) hsp (fun b h1 h2 => ⟨⟨by omega, by omega, by omega, by omega, by omega, by omega, by omega, by omega⟩, by omega⟩) hgW k1 k2, HK5.out.trans ⟨KeepsOthers.of_grownBy gb (rowc_cells HOO.out), gb.block _ (by omega) (fun e => by cases e; exact hsp.1.2.2.2.2.2.2.2 rfl), gb.size⟩, World.ownsRow.kept HV5.out gb (Or.inr fun e => by simp [Value.ownBlock] at e; exact hsp.2 e.symm)⟩))
        clear hi hz0 hz1 hz2 ho hn' HW5 HNX5
        gi_upto_region 33 with (gi_at_builtin; refine wpListIn_append_fits _ (by rfl) _ _ 52 (by rfl) w.heap.size 25 i0 1 Try.underlying52 HI.out.1 HI.out.2.2.1 g 0 cap [] (by rfl) HO.out ⟨W5.heap.size, 0, none⟩ 1 1 [.slice (some ⟨g', 0, none⟩) K cap'] (by rfl) (by simp) (news_one _ _ _) (one_one rfl) HRM.out ?_; intro W7 k1 k2; have HKK := Lib.hid (HST.out W7 k1 k2); obtain ⟨t0, t0'⟩ := HKK.out.1.cw; clear k1 k2)
        have HA8 := Lib.hid (HKK.out.1.putw (.slice (some ⟨g, 0, none⟩) 1 cap))
        have HW8 := Lib.hid (wn1_next (HKK.out.2.1.grown (gb_set W7 ⟨bw, 0, none⟩ (.slice (some ⟨g, 0, none⟩) 1 cap)) (fun b e hs => by cases e; exact hs.1.2.2.2.1 rfl)) HL.out hh)
        have HK8 := Lib.hid (HKK.out.2.2.1.trans (Kx.set W7 bw 0 (.slice (some ⟨g, 0, none⟩) 1 cap) (by have := HSB2.out; omega)))
        have HV8 := Lib.hid (show RowAt .i64 (W7.setCell ⟨bw, 0, none⟩ (.slice (some ⟨g, 0, none⟩) 1 cap)) W0.heap.size 0 K (fun i => ((setS N K t i : Nat) : Int)) from HKK.out.2.2.2.cells.other (a := ⟨bw, 0, none⟩) (by have := HSB2.out; show bw ≠ W0.heap.size; omega) _)
        generalize W7.setCell ⟨bw, 0, none⟩ (.slice (some ⟨g, 0, none⟩) 1 cap) = W8 at *
        clear HKK HST HI HO HOO HN5 HA5 HK5 HV5 s2 s2' t0 t0' hk0
        obtain ⟨s4, s4'⟩ := HA8.out.ci
        have s5 := HA8.out.cc
        have hi9 := HA8.out.puti ((t : Int) + 1)
        have s6 := hi9.cc
        obtain ⟨s7, s7'⟩ := hi9.ci
        obtain ⟨s9, s9'⟩ := hi9.cr
        have HI9 := Lib.hid hi9
        have HK10 := Lib.hid (HK8.out.trans (Kx.set W8 bi 0 (.int .i64 ((t : Int) + 1)) (by have := HSB2.out; omega)))
        have HW10 := Lib.hid ((HW8.out.grown (gb_set W8 ⟨bi, 0, none⟩ (.int .i64 ((t : Int) + 1))) (fun b e hs => by cases e; exact hs.1.2.2.2.2.1 rfl)).sep (Sp' := Sep w nb kb bw bi w8.heap.size) (fun b h => h.1))
        clear HK8 HW8 HV8 hi9
        by_cases hgt : (c : Int) < (t : Int) + 1
        · gi_wp2
          have hk := HK10.out.1.trans (KeepsOthers.setCell _ ⟨w.heap.size + 1 + 1 + 1, 0, none⟩ (.bool true))
          exact ⟨hk, rfl, hk.same _ _ HDW.out rfl, HI9.out.bel.grown (gb_set _ ⟨w.heap.size + 1 + 1 + 1, 0, none⟩ (.bool true)) HI9.out.bel.size (fun b hb => by cases hb; show w.heap.size ≤ w.heap.size + 1 + 1 + 1; omega), World.cell?_setCell_same _ _ _ s9⟩
        · have hgt' : (t : Int) + 1 ≤ (c : Int) := by omega
          gi_wp2
          exact ⟨HK10.out.1, HK10.out.2.1, by omega, HK10.out.1.same _ _ HDW.out rfl, _, HI9.out, HW10.out⟩
    case done2 =>
      rintro D2 t W rfl ⟨s, rfl, -, hlast⟩ ⟨-, hd, wv, ha, hw⟩ hd2
      obtain ⟨a0, c0, rfl, -, -⟩ := hw.2 ⟨s, by omega, hlast⟩
      obtain ⟨v0, -⟩ := ha.cw
      obtain ⟨v1, v1'⟩ := ha.cr
      have HA9 := Lib.hid ha
      have HDD := Lib.hid (And.intro hd hd2)
      clear ha hw hd hd2
      gi_wp2
      have hk9 := KeepsOthers.setCell W ⟨w.heap.size + 1 + 1 + 1, 0, none⟩ (.bool true)
      have hdA := hk9.same _ _ HDD.out.1 rfl
      have hdB := hk9.same _ _ HDD.out.2 rfl
      have hcA := World.cell?_setCell_same W _ (Value.bool true) v1
      have hbA := HA9.out.bel.grown (gb_set W ⟨w.heap.size + 1 + 1 + 1, 0, none⟩ (.bool true)) HA9.out.bel.size (fun b hb => by cases hb; show w.heap.size ≤ w.heap.size + 1 + 1 + 1; omega)
      have gq := grownBy_putObj' (W.setCell ⟨w.heap.size + 1 + 1 + 1, 0, none⟩ (.bool true)) w8.heap.size (.deferred none)
      have hd3 : (((W.setCell ⟨w.heap.size + 1 + 1 + 1, 0, none⟩ (.bool true))).putObj w8.heap.size (.deferred none)).heap[w6.heap.size]? = some (.deferred (some [])) := (World.putObj_heap_other (by have := HDL.out; omega)).trans hdA
      have gq2 := grownBy_putObj' (((W.setCell ⟨w.heap.size + 1 + 1 + 1, 0, none⟩ (.bool true))).putObj w8.heap.size (.deferred none)) w6.heap.size (.deferred none)
      have hbr : w.heap.size + 1 + 1 + 1 < w6.heap.size := by have := HSB.out; have := HBWL.out; omega
      have hc5 := gq2.cell (gq.cell hcA (by intro e; injection e with e; have h : w.heap.size + 1 + 1 + 1 = w8.heap.size := e; have := HDL.out; omega)) (by intro e; injection e with e; have h : w.heap.size + 1 + 1 + 1 = w6.heap.size := e; omega)
      have hbA2 := (hbA.grown gq hbA.size (fun b e => by cases e; have := HDL.out; omega)).grown gq2 (hbA.grown gq hbA.size (fun b e => by cases e; have := HDL.out; omega)).size (fun b e => by cases e; omega)
      refine ⟨by simp, .inl ⟨_, _, rfl, run_takeDeferred hdB, by simp, .inl ⟨_, _, rfl, run_takeDeferred hd3, ?_⟩⟩⟩
      refine ⟨.bool true, ?_, rfl, hbA2⟩
      simp [results, Try.results6, go_sem, hc5]
    case stop2 =>
      rintro D2 j W rfl ⟨rfl, hd, hbl, hc1⟩ hd2
      gi_wp2
      have hdA := hd
      have hdB := hd2
      have hcA := hc1
      have hbA := hbl
      have gq := grownBy_putObj' W w8.heap.size (.deferred none)
      have hd3 : ((W).putObj w8.heap.size (.deferred none)).heap[w6.heap.size]? = some (.deferred (some [])) := (World.putObj_heap_other (by have := HDL.out; omega)).trans hdA
      have gq2 := grownBy_putObj' ((W).putObj w8.heap.size (.deferred none)) w6.heap.size (.deferred none)
      have hbr : w.heap.size + 1 + 1 + 1 < w6.heap.size := by have := HSB.out; have := HBWL.out; omega
      have hc5 := gq2.cell (gq.cell hcA (by intro e; injection e with e; have h : w.heap.size + 1 + 1 + 1 = w8.heap.size := e; have := HDL.out; omega)) (by intro e; injection e with e; have h : w.heap.size + 1 + 1 + 1 = w6.heap.size := e; omega)
      have hbA2 := (hbA.grown gq hbA.size (fun b e => by cases e; have := HDL.out; omega)).grown gq2 (hbA.grown gq hbA.size (fun b e => by cases e; have := HDL.out; omega)).size (fun b e => by cases e; omega)
      refine ⟨by simp, .inl ⟨_, _, rfl, run_takeDeferred hdB, by simp, .inl ⟨_, _, rfl, run_takeDeferred hd3, ?_⟩⟩⟩
      refine ⟨.bool true, ?_, rfl, hbA2⟩
      simp [results, Try.results6, go_sem, hc5]
end Go.Proofs.Ytncldpadakckjaa

namespace Go.Proofs.Ytncldpadakckjaa
open Go.RowKit Go.Shelf

attribute [local go_sem] Oper.semAt_some

set_option maxHeartbeats 1000000 in
set_option maxRecDepth 100000 in
theorem Some_bad (N K : Int) (w : World) (hbad : N < 0 ∨ 64 < N ∨ K < 0 ∨ N < K) :
    Calls Try.prog 30 #[.int .i64 N, .int .i64 K, .int .i64 1] w fun e w' => e = .returned (.slice none 0 0) ∧ w = w' := by
  go_enter Try.func30, Try.ntmps30
  by_cases h1 : N < 0
  · go_wp2_with fail
    go_ret
    exact ⟨rfl, rfl⟩
  by_cases h2 : 64 < N
  · go_wp2_with fail
    go_ret
    exact ⟨rfl, rfl⟩
  by_cases h3 : K < 0
  · go_wp2_with fail
    go_ret
    exact ⟨rfl, rfl⟩
  · have h4 : N < K := by omega
    go_wp2_with fail
    go_ret
    exact ⟨rfl, rfl⟩

set_option maxHeartbeats 1000000 in
set_option maxRecDepth 100000 in
theorem sets1_no (n : Nat) (hn : 1 ≤ n) (nb kb : Nat) (N K : Int) (hbad : N < 0 ∨ 64 < N ∨ K < 0 ∨ N < K) (l : Nat) (W : World)
    (c0 : W.cell? ⟨nb, 0, none⟩ = some (.int .i64 N)) (c1 : W.cell? ⟨kb, 0, none⟩ = some (.int .i64 K)) :
    CallsIn Fence.wide n Try.prog 71 #[.func (.yield l) #[] #[], .pointer (some ⟨nb, 0, none⟩), .pointer (some ⟨kb, 0, none⟩)] W fun e W' => (∃ v, e = .returned v) ∧ W = W' := by
  refine callsIn_of_wp Try.func71 rfl trivial ?_ rfl
  simp only [Try.ntmps71, List.size_toArray, List.length_cons, List.length_nil, Nat.reduceAdd, Nat.reduceSub, Array.replicate_succ, Array.replicate_zero, List.push_toArray, List.append_toArray, List.nil_append, List.cons_append]
  by_cases h1 : N < 0
  · gi_wp2
    refine bodyPost_ret (results_none rfl _ _ _) rfl ?_
    exact ⟨⟨_, rfl⟩, rfl⟩
  by_cases h2 : 64 < N
  · gi_wp2
    refine bodyPost_ret (results_none rfl _ _ _) rfl ?_
    exact ⟨⟨_, rfl⟩, rfl⟩
  by_cases h3 : K < 0
  · gi_wp2
    refine bodyPost_ret (results_none rfl _ _ _) rfl ?_
    exact ⟨⟨_, rfl⟩, rfl⟩
  · have h4 : N < K := by omega
    gi_wp2
    refine bodyPost_ret (results_none rfl _ _ _) rfl ?_
    exact ⟨⟨_, rfl⟩, rfl⟩

set_option maxHeartbeats 8000000 in
set_option maxRecDepth 100000 in
theorem SAgain_bad (N K : Int) (cut : Int) (hbad : N < 0 ∨ 64 < N ∨ K < 0 ∨ N < K) (hcut : -9223372036854775808 ≤ cut ∧ cut ≤ 9223372036854775807) (w : World) :
    Calls Try.prog 6 #[.int .i64 N, .int .i64 K, .int .i64 cut] w fun e w' => e = .returned (.bool true) ∧ Below w.heap.size w w' := by
  refine (callsIn_wide (n := 9)).1 ?_
  refine callsIn_of_wp_marks Try.func6 rfl trivial ?_ rfl
  simp only [Try.ntmps6, List.size_toArray, List.length_cons, List.length_nil, Nat.reduceAdd, Nat.reduceSub, Array.replicate_succ, Array.replicate_zero, List.push_toArray, List.append_toArray, List.nil_append, List.cons_append]
  obtain ⟨q0, q1, ⟨q2, q2'⟩, ⟨q3, q3'⟩, hB, hsz⟩ := four_boxes w (.int .i64 N) (.int .i64 K) (.int .i64 cut) (.bool false) 3 4
  have HB := Lib.hid hB
  have HSZ := Lib.hid hsz
  clear hB hsz
  gi_wp2
  generalize (((w.alloc (.cells #[.int .i64 N] 3)).alloc (.cells #[.int .i64 K] 3)).alloc (.cells #[.int .i64 cut] 3)).alloc (.cells #[.bool false] 4) = W at *
  refine ⟨trivial, (callsIn_wide.2 (awake14_any W)).mono ?_⟩
  rintro e w1 ⟨rfl, hb1⟩
  have HS1 := Lib.hid (show w.heap.size + 4 ≤ w1.heap.size by have := HSZ.out; have := hb1.size; omega)
  replace HB := Lib.hid (below_via HB.out hb1)
  replace q2' := froz_stays hb1 q2 q2'
  replace q3' := froz_stays hb1 q3 q3'
  replace q0 := cell_stays hb1 q0
  replace q1 := cell_stays hb1 q1
  replace q2 := cell_stays hb1 q2
  replace q3 := cell_stays hb1 q3
  clear hb1 HSZ
  gi_wp2
  refine ⟨trivial, (callsIn_wide.2 (below_any' cut hcut w1)).mono ?_⟩
  rintro e w2 ⟨⟨c, hc, rfl⟩, rfl⟩
  have g1 := gb_set w1 ⟨w.heap.size + 1 + 1, 0, none⟩ (.int .i64 c)
  have HB3 := Lib.hid (HB.out.grown g1 HB.out.size (fun b hb => by cases hb; show w.heap.size ≤ w.heap.size + 1 + 1; omega))
  have ho : ∀ {b : Nat} {x : Value}, w1.cell? ⟨b, 0, none⟩ = some x → b ≠ w.heap.size + 1 + 1 → (w1.setCell ⟨w.heap.size + 1 + 1, 0, none⟩ (.int .i64 c)).cell? ⟨b, 0, none⟩ = some x := fun hx hb => by
    rw [World.cell?_setCell_other _ _ _ _ (by intro e; injection e with e _ _; exact hb e.symm)]; exact hx
  have r0 := ho q0 (by omega)
  have r1 := ho q1 (by omega)
  have r2 := World.cell?_setCell_same _ _ (Value.int .i64 c) q2
  have r3 := ho q3 (by omega)
  have r3' : (w1.setCell ⟨w.heap.size + 1 + 1, 0, none⟩ (.int .i64 c)).frozen? ⟨w.heap.size + 1 + 1 + 1, 0, none⟩ = false := by rw [World.frozen?_setCell]; exact q3'
  have HS3 := Lib.hid (Nat.le_trans HS1.out g1.size)
  have HR := Lib.hid (And.intro r0 (And.intro r1 (And.intro r2 (And.intro r3 r3'))))
  clear r0 r1 r2 r3 r3' g1 ho HB HS1
  gi_wp2
  generalize w1.setCell ⟨w.heap.size + 1 + 1, 0, none⟩ (.int .i64 c) = w3 at *
  refine ⟨trivial, (callsIn_wide.2 (Sets_any N K w3)).mono ?_⟩
  rintro e w4 ⟨rfl, hw4⟩
  obtain ⟨⟨n0, -⟩, ⟨n1, -⟩, hb4, hs4⟩ := two_boxes w3 (.int .i64 N) (.int .i64 K) 3 3
  rw [← hw4] at n0 n1 hb4 hs4
  obtain ⟨r0, r1, r2, r3, r3'⟩ := HR.out
  replace r3' := froz_stays hb4 r3 r3'
  replace r0 := cell_stays hb4 r0
  replace r1 := cell_stays hb4 r1
  replace r2 := cell_stays hb4 r2
  replace r3 := cell_stays hb4 r3
  have HB4 := Lib.hid (below_via HB3.out hb4)
  have HS4 := Lib.hid (And.intro HS3.out hs4)
  clear hw4 hb4 hs4 HR HB3 HS3 q0 q1 q2 q2' q3 q3'
  have he : ∀ (lb : Array Value) (w : World), (binOp .eql 50 (.func (.func 71) #[] lb) .nilFunc).run Try.prog w = .ok (.bool false) w := fun _ _ => rfl
  gi_wp2
  refine ⟨trivial, (callsIn_wide.2 (Some_bad N K w4 hbad)).mono ?_⟩
  rintro e w5 ⟨rfl, rfl⟩
  obtain ⟨p0, p1, hb6, hs6⟩ := two_boxes w4 (.slice none 0 0) (.int .i64 0) 52 3
  have HT := Lib.hid (And.intro p0 (And.intro p1 (And.intro hb6 hs6)))
  clear p0 p1 hb6 hs6
  gi_wp2
  generalize hw6 : (w4.alloc (.cells #[.slice none 0 0] 52)).alloc (.cells #[.int .i64 0] 3) = w6 at *
  obtain ⟨p0, p1, hb6, hs6⟩ := HT.out
  obtain ⟨hs3, hs4⟩ := HS4.out
  replace r3' := froz_stays hb6 r3 r3'
  replace r0 := cell_stays hb6 r0
  replace r1 := cell_stays hb6 r1
  replace r2 := cell_stays hb6 r2
  replace r3 := cell_stays hb6 r3
  replace n0 := cell_stays hb6 n0
  replace n1 := cell_stays hb6 n1
  obtain ⟨nb, hnb⟩ : ∃ nb, nb = w3.heap.size := ⟨_, rfl⟩
  obtain ⟨kb, hkb⟩ : ∃ kb, kb = w3.heap.size + 1 := ⟨_, rfl⟩
  obtain ⟨bw, hbw⟩ : ∃ bw, bw = w4.heap.size := ⟨_, rfl⟩
  obtain ⟨bi, hbi⟩ : ∃ bi, bi = w4.heap.size + 1 := ⟨_, rfl⟩
  rw [← hnb] at n0
  rw [← hkb] at n1
  rw [← hbw] at p0
  rw [← hbi] at p1
  have hI0 : AgB w nb kb bw bi N K c 0 (.slice none 0 0) w6 := ⟨below_via HB4.out hb6, by omega, by omega, by omega, ⟨by omega, by omega, by omega⟩, ⟨by omega, by omega, by omega⟩, r0, r1, r2, ⟨r3, r3'⟩, p1, p0, n0, n1⟩
  have HI0 := Lib.hid hI0
  have HSB := Lib.hid (show bi < w6.heap.size ∧ bw < w6.heap.size ∧ nb < w6.heap.size ∧ kb < w6.heap.size by omega)
  rw [← hkb, ← hnb, ← hbi, ← hbw]
  clear hnb hkb hbw hbi hI0 r0 r1 r2 r3 r3' n0 n1 p0 p1 hb6 hs6 hs3 hs4 HT HS4 HB4 hw6
  refine range_stops (n := 9) (by omega) (gf := 71) (lb := #[.pointer (some ⟨nb, 0, none⟩), .pointer (some ⟨kb, 0, none⟩)]) rfl (enters_of Try.func71 (by kernel_rfl) rfl) rfl
    (fun t => t = 0) (fun _ _ _ _ => False) (fun t W0 W W' v h hg => h)
    (fun t W => AgB w nb kb bw bi N K c 0 (.slice none 0 0) W)
    (fun j W => False) ?inv ?invx ?seq HI0.out ?round ?done ?stop
  case inv =>
    rintro t W W' r h1 hg hr
    have hb := HSB.out
    have hl := h1.li
    exact h1.grown hg (fun b e => by rcases hr b e with h | h <;> (have := h1.lw; have := h1.ln; have := h1.lk; omega))
  case invx => exact fun j W W' r h _ _ => h
  case seq =>
    intro l J Jx W hW j1 j2 j3 j4
    have h := j2 0 W j4
    refine (sets1_no 8 (by omega) nb kb N K hbad l W h.nn h.kk).mono ?_
    rintro e W' ⟨hv, rfl⟩
    exact ⟨hv, Or.inl ⟨0, rfl, j4⟩⟩
  case round =>
    intro l t v
    exact ⟨_, fun W K0 hK => by gi_wp2; exact hK, fun W0 W _ _ h => h.elim⟩
  case stop => exact fun D c W _ h _ => h.elim
  case done =>
    rintro D t W rfl rfl ha hD
    obtain ⟨u0, u0'⟩ := ha.cw
    obtain ⟨u1, u1'⟩ := ha.ci
    have u2 := ha.cn
    have u3 := ha.ck
    have HA := Lib.hid ha
    have HD := Lib.hid hD
    clear ha hD
    gi_wp2
    refine ⟨trivial, (callsIn_wide.2 (Some_bad N K W hbad)).mono ?_⟩
    rintro e w7 ⟨rfl, rfl⟩
    have hA8 := (HA.out.putw (.slice none 0 0)).puti 0
    have hk8 := (KeepsOthers.setCell W ⟨bw, 0, none⟩ (.slice none 0 0)).trans (KeepsOthers.setCell _ ⟨bi, 0, none⟩ (.int .i64 0))
    have HA8 := Lib.hid hA8
    have HD8 := Lib.hid (hk8.same _ _ HD.out rfl)
    obtain ⟨u5, u5'⟩ := (HA.out.putw (.slice none 0 0)).ci
    clear hA8 hk8 u1 u1' u2 u3
    gi_wp2
    generalize (W.setCell ⟨bw, 0, none⟩ (.slice none 0 0)).setCell ⟨bi, 0, none⟩ (.int .i64 0) = w8 at *
    have HBWL := Lib.hid (show w.heap.size + 4 ≤ bw from HA8.out.lw)
    have HDL := Lib.hid (show w6.heap.size < w8.heap.size from (Array.getElem?_eq_some_iff.1 HD8.out).1)
    have HSB2 := Lib.hid (show bi < w8.heap.size ∧ bw < w8.heap.size ∧ nb < w8.heap.size ∧ kb < w8.heap.size by have := HSB.out; have := HDL.out; omega)
    clear u0 u0' u5 u5' HA HD
    refine range_stops (n := 9) (by omega) (gf := 71) (lb := #[.pointer (some ⟨nb, 0, none⟩), .pointer (some ⟨kb, 0, none⟩)]) rfl (enters_of Try.func71 (by kernel_rfl) rfl) rfl
      (fun t => t = 0) (fun _ _ _ _ => False) (fun t W0 W W' v h hg => h)
      (fun t W => W.heap[w6.heap.size]? = some (.deferred (some [])) ∧ AgB w nb kb bw bi N K c 0 (.slice none 0 0) W)
      (fun j W => False) ?inv2 ?invx2 ?seq2 ⟨HD8.out, HA8.out⟩ ?round2 ?done2 ?stop2
    case inv2 =>
      rintro t W W' r ⟨hd, h1⟩ hg hr
      have hb := HSB2.out
      have hb2 := HDL.out
      have hl := h1.li
      exact ⟨(hg.block (w6.heap.size) (Array.getElem?_eq_some_iff.1 hd).1 (fun e => by rcases hr (w6.heap.size) e.symm with h | h <;> omega)).trans hd, h1.grown hg (fun b e => by rcases hr b e with h | h <;> (have := h1.lw; have := h1.ln; have := h1.lk; omega))⟩
    case invx2 => exact fun j W W' r h _ _ => h
    case seq2 =>
      intro l J Jx W hW j1 j2 j3 j4
      have h := (j2 0 W j4).2
      refine (sets1_no 8 (by omega) nb kb N K hbad l W h.nn h.kk).mono ?_
      rintro e W' ⟨hv, rfl⟩
      exact ⟨hv, Or.inl ⟨0, rfl, j4⟩⟩
    case round2 =>
      intro l t v
      exact ⟨_, fun W K0 hK => by gi_wp2; exact hK, fun W0 W _ _ h => h.elim⟩
    case stop2 => exact fun D c W _ h _ => h.elim
    case done2 =>
      rintro D2 t W rfl rfl ⟨hd, ha⟩ hd2
      obtain ⟨v0, -⟩ := ha.cw
      obtain ⟨v1, v1'⟩ := ha.cr
      have HA9 := Lib.hid ha
      have HDD := Lib.hid (And.intro hd hd2)
      clear ha hd hd2
      gi_wp2
      have hk9 := KeepsOthers.setCell W ⟨w.heap.size + 1 + 1 + 1, 0, none⟩ (.bool true)
      have hdA := hk9.same _ _ HDD.out.1 rfl
      have hdB := hk9.same _ _ HDD.out.2 rfl
      have hcA := World.cell?_setCell_same W _ (Value.bool true) v1
      have hbA := HA9.out.bel.grown (gb_set W ⟨w.heap.size + 1 + 1 + 1, 0, none⟩ (.bool true)) HA9.out.bel.size (fun b hb => by cases hb; show w.heap.size ≤ w.heap.size + 1 + 1 + 1; omega)
      have gq := grownBy_putObj' (W.setCell ⟨w.heap.size + 1 + 1 + 1, 0, none⟩ (.bool true)) w8.heap.size (.deferred none)
      have hd3 : (((W.setCell ⟨w.heap.size + 1 + 1 + 1, 0, none⟩ (.bool true))).putObj w8.heap.size (.deferred none)).heap[w6.heap.size]? = some (.deferred (some [])) := (World.putObj_heap_other (by have := HDL.out; omega)).trans hdA
      have gq2 := grownBy_putObj' (((W.setCell ⟨w.heap.size + 1 + 1 + 1, 0, none⟩ (.bool true))).putObj w8.heap.size (.deferred none)) w6.heap.size (.deferred none)
      have hbr : w.heap.size + 1 + 1 + 1 < w6.heap.size := by have := HSB.out; have := HBWL.out; omega
      have hc5 := gq2.cell (gq.cell hcA (by intro e; injection e with e; have h : w.heap.size + 1 + 1 + 1 = w8.heap.size := e; have := HDL.out; omega)) (by intro e; injection e with e; have h : w.heap.size + 1 + 1 + 1 = w6.heap.size := e; omega)
      have hbA2 := (hbA.grown gq hbA.size (fun b e => by cases e; have := HDL.out; omega)).grown gq2 (hbA.grown gq hbA.size (fun b e => by cases e; have := HDL.out; omega)).size (fun b e => by cases e; omega)
      refine ⟨by simp, .inl ⟨_, _, rfl, run_takeDeferred hdB, by simp, .inl ⟨_, _, rfl, run_takeDeferred hd3, ?_⟩⟩⟩
      refine ⟨.bool true, ?_, rfl, hbA2⟩
      simp [results, Try.results6, go_sem, hc5]

/-- the law, for any arguments -/
theorem SAgain_law (N K cut : Int) (hcut : -9223372036854775808 ≤ cut ∧ cut ≤ 9223372036854775807) (w : World) :
    Calls Try.prog 6 #[.int .i64 N, .int .i64 K, .int .i64 cut] w fun e w' => e = .returned (.bool true) ∧ Below w.heap.size w w' := by
  by_cases h : N < 0 ∨ 64 < N ∨ K < 0 ∨ N < K
  · exact SAgain_bad N K cut h hcut w
  · obtain ⟨n, rfl⟩ := Int.eq_ofNat_of_zero_le (show 0 ≤ N by omega)
    obtain ⟨k, rfl⟩ := Int.eq_ofNat_of_zero_le (show 0 ≤ K by omega)
    exact SAgain_good n k cut (by omega) (by omega) hcut w
end Go.Proofs.Ytncldpadakckjaa

namespace Go.Proofs.Ytncldpadakckjaa
open Go.RowKit Go.Shelf

theorem rdI64_drewN {w : World} {v : Value} {n : Nat} {P : Nat → Nat} (h : RdI64 w v n P) (k : Nat) : RdI64 (w.drewN k) v n P := h.below ⟨rfl, rfl, rfl, Nat.le_refl _, fun _ _ => rfl⟩

set_option maxHeartbeats 2000000 in
set_option maxRecDepth 100000 in
theorem LikeNums_quiet (x y : Value) (K : Nat) (P : Nat → Nat) (w : World) (hK : K ≤ 64) (hx : RdI64 w x K P) (hy : RdI64 w y K P) :
    Calls Try.prog 31 #[x, y] w fun e w' => e = .returned (.bool true) ∧ ∃ m, w' = w.drewN m := by
  obtain ⟨a, ca, rfl, h1, h2, h3⟩ := wd_get hx
  obtain ⟨b, cb, rfl, k1, k2, k3⟩ := wd_get hy
  have H3 := Lib.hid h3
  have K3 := Lib.hid k3
  clear hx hy h3 k3
  go_enter Try.func31, Try.ntmps31
  go_wp2_with fail
  go_loopw [5] (fun iv wr => (∃ i : Nat, i ≤ K ∧ iv = .int .i64 i) ∧ ∃ m, wr = w.drewN m) (fun iv _ => K - (intOf iv).toNat)
  case atStart => exact ⟨⟨0, Nat.zero_le _, rfl⟩, 0, rfl⟩
  case round =>
    obtain ⟨⟨i, hi, rfl⟩, m, hm⟩ := hrel
    by_cases hc : i < K
    · have hc' : (i : Int) < (K : Int) := by omega
      have hi0 : (0 : Int) ≤ (i : Int) := by omega
      obtain ⟨g1, o1, rfl, d1⟩ := H3.out i hc
      obtain ⟨g2, o2, rfl, d2⟩ := K3.out i hc
      have hdr : ∀ a, wr.cell? a = w.cell? a := fun a => by rw [hm]; rfl
      replace d1 := (hdr _).trans d1
      replace d2 := (hdr _).trans d2
      clear hdr
      generalize P i = p at *
      have HB := Lib.hid hm
      clear hm
      go_wp2_with fail
      go_quiet (fail)
      have HB2 := Lib.hid (show ∃ m, wr.drewN nq = w.drewN m from ⟨m + nq, by rw [HB.out, World.drewN_drewN]⟩)
      go_wp2_with fail
      go_roundw
      case rel => exact ⟨⟨i + 1, by omega, by go_num⟩, HB2.out⟩
      case measure => simp [intOf] <;> omega
    · obtain rfl : i = K := by omega
      have hc' : ¬ (i : Int) < (i : Int) := by omega
      have HB := Lib.hid hm
      clear hm
      go_wp2_with fail
      go_ret
      exact ⟨rfl, m, HB.out⟩
end Go.Proofs.Ytncldpadakckjaa

namespace Go.Proofs.Ytncldpadakckjaa
open Go.RowKit Go.Shelf

set_option maxHeartbeats 1000000 in
theorem ApartN_grown (B bk nW : Nat) (W : Nat → Value) (N : Nat → Nat) (vW : Value) (F : Nat → Nat → Int) (hnW : nW ≤ 16777216) (hN : ∀ k, k < nW → N k ≤ 17592186044000)
    (w : World) (h : NsR w w B bk nW W N vW (.slice none 0 0) 0 (fun _ => .slice none 0 0) F) (hB : B ≤ w.heap.size) :
    Calls Try.prog 34 #[.pointer (some ⟨bk, 0, none⟩)] w fun e w' => e = .returned (.bool true) ∧ GrownS (SNs nW W) w w' := by
  have HW := Lib.hid (words_nil bk w h.book.c2)
  have hI := fun (w1 : World) (hb : Below w.heap.size w w1) => ints_nil bk w1 (h.book.below hb).c1.1
  have hU := fun (w1 : World) (hb : Below w.heap.size w w1) => nums_yes B bk nW W N vW (.slice none 0 0) 0 (fun _ => .slice none 0 0) F hnW hN w1 { h.below hb with gr := GrownS.refl _ _ } (Nat.le_trans hB hb.size)
  have hfin : ∀ w1 w2, Below w.heap.size w w1 → NsR w1 w2 B bk nW W N vW (.slice none 0 0) 0 (fun _ => .slice none 0 0) mkS → GrownS (SNs nW W) w w2 := fun w1 w2 hb h2 => ((GrownS.refl _ _).below hb).trans h2.gr
  have HI := Lib.hid hI
  have HU := Lib.hid hU
  have HF := Lib.hid hfin
  clear hI hU hfin h
  go_enter Try.func34, Try.ntmps34
  go_wp2_with fail
  refine HW.out.mono ?_
  rintro e w1 ⟨rfl, hb1⟩
  have H1 := Lib.hid hb1
  clear hb1
  go_wp2_with fail
  refine (HI.out w1 H1.out).mono ?_
  rintro e w2 ⟨rfl, hb2⟩
  have H2 := Lib.hid (below_via H1.out hb2)
  clear hb2
  go_wp2_with fail
  refine (HU.out w2 H2.out).mono ?_
  rintro e w3 ⟨rfl, h3⟩
  have HB := Lib.hid (HF.out w2 w3 H2.out h3)
  clear h3
  go_wp2_with fail
  go_ret
  exact ⟨rfl, HB.out⟩

theorem BookN.start (w : World) (t : TypeId) (W : Nat → Value) : BookN (w.alloc (.cells #[.slice none 0 0, .slice none 0 0, .slice none 0 0] t)) w.heap.size (.slice none 0 0) 0 W (.slice none 0 0) 0 (fun _ => .slice none 0 0) := by
  have hc : ∀ j, j < 3 → (w.alloc (.cells #[.slice none 0 0, .slice none 0 0, .slice none 0 0] t)).cell? ⟨w.heap.size, j, none⟩ = some (.slice none 0 0) ∧ (w.alloc (.cells #[.slice none 0 0, .slice none 0 0, .slice none 0 0] t)).frozen? ⟨w.heap.size, j, none⟩ = false := fun j hj => by
    match j, hj with
    | 0, _ => exact ⟨by simp, by simp⟩
    | 1, _ => exact ⟨by simp, by simp⟩
    | 2, _ => exact ⟨by simp, by simp⟩
  exact ⟨hc 2 (by omega), hc 1 (by omega), (hc 0 (by omega)).1, ⟨rfl, Or.inl ⟨rfl, rfl⟩⟩, ⟨rfl, Or.inl ⟨rfl, rfl⟩⟩⟩

theorem GotS.book {W : World} {base bk m K N : Nat} {Sp : Nat → Prop} {gv vW : Value} {L : Nat → Value} (h : GotS W base Sp gv m K N L) {W' : World} (hb : Below bk W W') (hbk : W.heap.size ≤ bk) (hB : BookN W' bk vW m L (.slice none 0 0) 0 (fun _ => .slice none 0 0)) :
    NsR W' W' base bk m L (fun _ => K) vW (.slice none 0 0) 0 (fun _ => .slice none 0 0) (fun k c => (setS N K k c : Nat)) := by
  refine ⟨hB, fun k hk => ?_, GrownS.refl _ _, fun k hk b e => Nat.lt_of_lt_of_le (World.ownsRow.lt (h.ls k hk) b e).2 hbk, h.ap⟩
  have h1 : NumL W' base (L k) K (setS N K k) := own_below (h.ls k hk) (hb.mono hbk)
  exact OwnR.of h1
end Go.Proofs.Ytncldpadakckjaa
