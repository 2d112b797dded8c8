/- The state of the law MinorsSetsAgain: its boxes, and the list of the choice that is wanted next. The walk of the law MinorsSetsAgain. The law MinorsSetsAgain where there is nothing to choose, and for any arguments. 'MinorsSetsAgain': for all numbers n, k and cut the law returns true and its arguments read as before. No condition. -/
import Derived.Test.YtncldpadakckjaaGN
import Derived.Test.YtncldpadakckjaaGM
import Derived.Sort.CutIn
import Derived.Test.YtncldpadakckjaaRows
import Derived.Test.YtncldpadakckjaaGH
import Derived.ProofKit
import Derived.OpenShut
import Derived.Carry
set_option linter.unusedVariables false
set_option linter.unusedSimpArgs false
namespace Go.Proofs.Ytncldpadakckjaa
open Go.RowKit Go.Shelf

/-- the law's boxes: the numbers n, k, cut, its result, what is wanted, how many came -/
structure AgB (w : World) (nb kb bw bi : Nat) (N K c : Int) (i : Int) (wv : Value) (W : World) : Prop where
  bel : Below w.heap.size w W
  lw : w.heap.size + 4 ≤ bw
  li : w.heap.size + 4 ≤ bi
  ne : bw ≠ bi
  ln : w.heap.size + 4 ≤ nb ∧ nb ≠ bw ∧ nb ≠ bi
  lk : w.heap.size + 4 ≤ kb ∧ kb ≠ bw ∧ kb ≠ bi
  cn : W.cell? ⟨w.heap.size, 0, none⟩ = some (.int .i64 N)
  ck : W.cell? ⟨w.heap.size + 1, 0, none⟩ = some (.int .i64 K)
  cc : W.cell? ⟨w.heap.size + 1 + 1, 0, none⟩ = some (.int .i64 c)
  cr : W.cell? ⟨w.heap.size + 1 + 1 + 1, 0, none⟩ = some (.bool false) ∧ W.frozen? ⟨w.heap.size + 1 + 1 + 1, 0, none⟩ = false
  ci : W.cell? ⟨bi, 0, none⟩ = some (.int .i64 i) ∧ W.frozen? ⟨bi, 0, none⟩ = false
  cw : W.cell? ⟨bw, 0, none⟩ = some wv ∧ W.frozen? ⟨bw, 0, none⟩ = false
  nn : W.cell? ⟨nb, 0, none⟩ = some (.int .i64 N)
  kk : W.cell? ⟨kb, 0, none⟩ = some (.int .i64 K)
/-- a place that is none of the law's boxes, and none of the loop's blocks -/
def Sep (w : World) (nb kb bw bi B b : Nat) : Prop := w.heap.size + 4 ≤ b ∧ b ≠ nb ∧ b ≠ kb ∧ b ≠ bw ∧ b ≠ bi ∧ b ≠ B ∧ b ≠ B + 1 ∧ b ≠ B + 2
section
variable {w W W' : World} {nb kb bw bi B : Nat} {N K c i : Int} {wv : Value}
theorem AgB.grown (h : AgB w nb kb bw bi N K c i wv W) {r : Option Nat} (hg : W.grownBy W' r) (hr : ∀ b, r = some b → w.heap.size + 4 ≤ b ∧ b ≠ nb ∧ b ≠ kb ∧ b ≠ bw ∧ b ≠ bi) : AgB w nb kb bw bi N K c i wv W' := by
  have hc : ∀ {b : Nat} {u : Value}, W.cell? ⟨b, 0, none⟩ = some u → (b < w.heap.size + 4 ∨ b = nb ∨ b = kb ∨ b = bw ∨ b = bi) → W'.cell? ⟨b, 0, none⟩ = some u := fun hu hb => hg.cell hu (fun e => by
    obtain ⟨h1, h4, h5, h2, h3⟩ := hr _ e.symm
    rcases hb with hb | hb | hb | hb | hb
    · have : _ < w.heap.size + 4 := hb
      simp at h1; omega
    · exact h4 hb
    · exact h5 hb
    · exact h2 hb
    · exact h3 hb)
  have hf : ∀ {b : Nat} {u : Value}, W.cell? ⟨b, 0, none⟩ = some u → W.frozen? ⟨b, 0, none⟩ = false → (b < w.heap.size + 4 ∨ b = nb ∨ b = kb ∨ b = bw ∨ b = bi) → W'.frozen? ⟨b, 0, none⟩ = false := fun {b u} hu hz hb => by
    refine (World.frozen?_of_block (w := W) (a := ⟨b, 0, none⟩) (hg.block b (World.block_lt_of_cell? _ _ hu) (fun e => ?_))).trans hz
    obtain ⟨h1, h4, h5, h2, h3⟩ := hr _ e.symm
    rcases hb with hb | hb | hb | hb | hb
    · omega
    · exact h4 hb
    · exact h5 hb
    · exact h2 hb
    · exact h3 hb
  exact ⟨h.bel.grown hg h.bel.size (fun b hb => by have := (hr b hb).1; omega), h.lw, h.li, h.ne, h.ln, h.lk, hc h.cn (by omega), hc h.ck (by omega), hc h.cc (by omega), ⟨hc h.cr.1 (by omega), hf h.cr.1 h.cr.2 (by omega)⟩, ⟨hc h.ci.1 (by omega), hf h.ci.1 h.ci.2 (by omega)⟩, ⟨hc h.cw.1 (by omega), hf h.cw.1 h.cw.2 (by omega)⟩, hc h.nn (by omega), hc h.kk (by omega)⟩
theorem AgB.below (h : AgB w nb kb bw bi N K c i wv W) (hb : Below W.heap.size W W') : AgB w nb kb bw bi N K c i wv W' := h.grown (gb_below hb none) (fun _ e => by cases e)
theorem AgB.putw (h : AgB w nb kb bw bi N K c i wv W) (u : Value) : AgB w nb kb bw bi N K c i u (W.setCell ⟨bw, 0, none⟩ u) := by
  have ho : ∀ {b : Nat} {x : Value}, W.cell? ⟨b, 0, none⟩ = some x → b ≠ bw → (W.setCell ⟨bw, 0, none⟩ u).cell? ⟨b, 0, none⟩ = some x := fun hx hb => by
    rw [World.cell?_setCell_other _ _ _ _ (by intro e; injection e with e _ _; exact hb e.symm)]; exact hx
  have h1 := h.lw
  refine ⟨h.bel.grown (gb_set W ⟨bw, 0, none⟩ u) h.bel.size (fun b hb => by cases hb; show w.heap.size ≤ bw; omega), h.lw, h.li, h.ne, h.ln, h.lk, ho h.cn (by omega), ho h.ck (by omega), ho h.cc (by omega), ⟨ho h.cr.1 (by omega), by rw [World.frozen?_setCell]; exact h.cr.2⟩, ⟨ho h.ci.1 (Ne.symm h.ne), by rw [World.frozen?_setCell]; exact h.ci.2⟩, ⟨?_, by rw [World.frozen?_setCell]; exact h.cw.2⟩, ho h.nn h.ln.2.1, ho h.kk h.lk.2.1⟩
  exact World.cell?_setCell_same _ _ _ h.cw.1
theorem AgB.puti (h : AgB w nb kb bw bi N K c i wv W) (u : Int) : AgB w nb kb bw bi N K c u wv (W.setCell ⟨bi, 0, none⟩ (.int .i64 u)) := by
  have ho : ∀ {b : Nat} {x : Value}, W.cell? ⟨b, 0, none⟩ = some x → b ≠ bi → (W.setCell ⟨bi, 0, none⟩ (.int .i64 u)).cell? ⟨b, 0, none⟩ = some x := fun hx hb => by
    rw [World.cell?_setCell_other _ _ _ _ (by intro e; injection e with e _ _; exact hb e.symm)]; exact hx
  have h1 := h.li
  refine ⟨h.bel.grown (gb_set W ⟨bi, 0, none⟩ (.int .i64 u)) h.bel.size (fun b hb => by cases hb; show w.heap.size ≤ bi; omega), h.lw, h.li, h.ne, h.ln, h.lk, ho h.cn (by omega), ho h.ck (by omega), ho h.cc (by omega), ⟨ho h.cr.1 (by omega), by rw [World.frozen?_setCell]; exact h.cr.2⟩, ⟨?_, by rw [World.frozen?_setCell]; exact h.ci.2⟩, ⟨ho h.cw.1 h.ne, by rw [World.frozen?_setCell]; exact h.cw.2⟩, ho h.nn h.ln.2.2, ho h.kk h.lk.2.2⟩
  exact World.cell?_setCell_same _ _ _ h.ci.1
end

/-- the list with one choice; the empty list -/
def Wn1 (W : World) (base : Nat) (Sp : Nat → Prop) (wv : Value) (K : Nat) (P : Nat → Nat) : Prop :=
  ∃ u g cap, wv = .slice (some ⟨g, 0, none⟩) 1 cap ∧ W.ownsRow base 25 1 wv 1 [u] ∧ NumL W base u K P ∧ Sp g ∧ ∀ b, u.ownBlock = some b → Sp b
def Wn0 (W : World) (base : Nat) (Sp : Nat → Prop) (wv : Value) : Prop :=
  ∃ a cap, wv = .slice a 0 cap ∧ W.ownsRow base 25 1 wv 0 [] ∧ ∀ b, wv.ownBlock = some b → Sp b
section
variable {W W' : World} {base : Nat} {Sp Sp' : Nat → Prop} {wv : Value} {K : Nat} {P P' : Nat → Nat}
theorem Wn1.grown (h : Wn1 W base Sp wv K P) {r : Option Nat} (hg : W.grownBy W' r) (hr : ∀ b, r = some b → ¬ Sp b) : Wn1 W' base Sp wv K P := by
  obtain ⟨u, g, cap, rfl, h1, h2, h3, h4⟩ := h
  refine ⟨u, g, cap, rfl, World.ownsRow.kept h1 hg (Or.inr fun e => hr g e.symm h3), World.ownsRow.kept h2 hg ?_, h3, h4⟩
  cases hu : u.ownBlock with
  | none => exact Or.inl rfl
  | some b => exact Or.inr fun e => hr b e.symm (h4 b hu)
theorem Wn1.below (h : Wn1 W base Sp wv K P) (hb : Below W.heap.size W W') : Wn1 W' base Sp wv K P := h.grown (gb_below hb none) (fun _ e => by cases e)
theorem Wn0.grown (h : Wn0 W base Sp wv) {r : Option Nat} (hg : W.grownBy W' r) (hr : ∀ b, r = some b → ¬ Sp b) : Wn0 W' base Sp wv := by
  obtain ⟨a, cap, rfl, h1, h2⟩ := h
  refine ⟨a, cap, rfl, World.ownsRow.kept h1 hg ?_, h2⟩
  cases hu : (Value.slice a 0 cap).ownBlock with
  | none => exact Or.inl rfl
  | some b => exact Or.inr fun e => hr b e.symm (h2 b hu)
theorem Wn0.below (h : Wn0 W base Sp wv) (hb : Below W.heap.size W W') : Wn0 W' base Sp wv := h.grown (gb_below hb none) (fun _ e => by cases e)
theorem Wn1.sep (h : Wn1 W base Sp wv K P) (hs : ∀ b, b < W.heap.size → Sp b → Sp' b) : Wn1 W base Sp' wv K P := by
  obtain ⟨u, g, cap, rfl, h1, h2, h3, h4⟩ := h
  exact ⟨u, g, cap, rfl, h1, h2, hs _ (World.ownsRow.lt h1 g rfl).2 h3, fun b hb => hs _ (World.ownsRow.lt h2 b hb).2 (h4 b hb)⟩
/-- its one element: where it stands, and what it reads -/
theorem Wn1.elem (h : Wn1 W base Sp wv K P) : ∃ u g cap, wv = .slice (some ⟨g, 0, none⟩) 1 cap ∧ W.cell? ⟨g, 0, none⟩ = some u ∧ NumL W base u K P ∧ Sp g := by
  obtain ⟨u, g, cap, rfl, h1, h2, h3, h4⟩ := h
  obtain ⟨h0, h1⟩ := h1
  rcases h1 with ⟨e, -⟩ | ⟨g', cap', cur, e, k1, k2, k3, k4, k5, k6⟩
  · simp at e
  · simp only [Value.slice.injEq, Option.some.injEq, Addr.mk.injEq, and_true, true_and] at e
    obtain ⟨rfl, rfl⟩ := e
    refine ⟨u, g, cap, rfl, ?_, h2, h3⟩
    rw [cell_of_row _ _ _ _ _ _ k2]
    have := congrArg (·[0]?) k6
    simpa using this
theorem Wn1.room {g cap : Nat} (h : Wn1 W base Sp (.slice (some ⟨g, 0, none⟩) 1 cap) K P) : 1 ≤ cap := by
  obtain ⟨u, g, cap, e, h1, -⟩ := h
  simp only [Value.slice.injEq, Option.some.injEq, Addr.mk.injEq, and_true, true_and] at e
  obtain ⟨rfl, rfl⟩ := e
  rcases h1.2 with ⟨e, -⟩ | ⟨g', cap', cur, e, k1, k2, k3, k4, k5, k6⟩
  · simp at e
  · simp only [Value.slice.injEq, Option.some.injEq, Addr.mk.injEq, and_true, true_and] at e
    obtain ⟨rfl, rfl⟩ := e
    exact k3
/-- cut to nothing -/
theorem Wn1.cut {g cap : Nat} (h : Wn1 W base Sp (.slice (some ⟨g, 0, none⟩) 1 cap) K P) : Wn0 W base Sp (.slice (some ⟨g, 0, none⟩) 0 cap) := by
  obtain ⟨u, g, cap, e, h1, h2, h3, h4⟩ := h
  simp only [Value.slice.injEq, Option.some.injEq, Addr.mk.injEq, and_true, true_and] at e
  obtain ⟨rfl, rfl⟩ := e
  refine ⟨_, _, rfl, ?_, fun b hb => by simp [Value.ownBlock] at hb; subst hb; exact h3⟩
  obtain ⟨h0, h1⟩ := h1
  rcases h1 with ⟨e, -⟩ | ⟨g', cap', cur, e, k1, k2, k3, k4, k5, k6⟩
  · simp at e
  · simp only [Value.slice.injEq, Option.some.injEq, Addr.mk.injEq, and_true, true_and] at e
    obtain ⟨rfl, rfl⟩ := e
    exact ⟨by simp, Or.inr ⟨g, cap, cur, rfl, k1, k2, Nat.zero_le _, k4, k5, by simp⟩⟩
end
theorem wn1_start {w5 w6 : World} {b4 base g cap K : Nat} {P : Nat → Nat} {Sp : Nat → Prop} (h : WL1 w5 b4 (.slice (some ⟨g, 0, none⟩) 1 cap) K P) (hb : Below w5.heap.size w5 w6) (h4 : base ≤ b4) (hS : ∀ b, b4 ≤ b → b < w5.heap.size → Sp b) : Wn1 w6 base Sp (.slice (some ⟨g, 0, none⟩) 1 cap) K P := by
  obtain ⟨u, h1, h2⟩ := h
  have m1 : ∀ {e : TypeId} {v : Value} {n : Nat} {xs : List Value}, w5.ownsRow b4 e 1 v n xs → w5.ownsRow base e 1 v n xs := fun h => by
    obtain ⟨h0, h⟩ := h
    rcases h with h | ⟨g, cap, cur, k0, k1, k2⟩
    · exact ⟨h0, Or.inl h⟩
    · exact ⟨h0, Or.inr ⟨g, cap, cur, k0, Nat.le_trans h4 k1, k2⟩⟩
  refine ⟨u, g, cap, rfl, own_below (m1 h1) hb, own_below (m1 h2) hb, hS _ (World.ownsRow.lt h1 g rfl).1 (World.ownsRow.lt h1 g rfl).2, fun b hb => hS _ (World.ownsRow.lt h2 b hb).1 (World.ownsRow.lt h2 b hb).2⟩
/-- what is wanted when t have come -/
def Wnt (W : World) (base : Nat) (Sp : Nat → Prop) (wv : Value) (N K t : Nat) : Prop :=
  ((∀ s, s < t → ¬ LastS N K s) → Wn1 W base Sp wv K (setS N K t)) ∧ ((∃ s, s < t ∧ LastS N K s) → Wn0 W base Sp wv)
theorem Wnt.grown {W W' : World} {base : Nat} {Sp : Nat → Prop} {wv : Value} {N K t : Nat} (h : Wnt W base Sp wv N K t) {r : Option Nat} (hg : W.grownBy W' r) (hr : ∀ b, r = some b → ¬ Sp b) : Wnt W' base Sp wv N K t :=
  ⟨fun a => (h.1 a).grown hg hr, fun a => (h.2 a).grown hg hr⟩

theorem wn0_next {W : World} {base : Nat} {Sp : Nat → Prop} {wv : Value} {N K t : Nat} (h : Wn0 W base Sp wv) (hl : LastS N K t) : Wnt W base Sp wv N K (t + 1) :=
  ⟨fun a => absurd hl (a t (by omega)), fun _ => h⟩
theorem wn1_next {W : World} {base : Nat} {Sp : Nat → Prop} {wv : Value} {N K t : Nat} (h : Wn1 W base Sp wv K (setS N K (t + 1))) (hl : ∀ s, s < t → ¬ LastS N K s) (hh : 0 < hiI N K (setS N K t) K) : Wnt W base Sp wv N K (t + 1) :=
  ⟨fun _ => h, fun ⟨s, h1, h2⟩ => by
    exfalso
    rcases Nat.lt_succ_iff_lt_or_eq.1 h1 with h3 | h3
    · exact hl s h3 h2
    · rw [h3] at h2; unfold LastS at h2; omega⟩
/-- the next choice laid into the room of the empty list -/
theorem wn1_push {W W' : World} {base b2 g cap g' cap' K : Nat} {Sp : Nat → Prop} {P : Nat → Nat} (hn : NumL W b2 (.slice (some ⟨g', 0, none⟩) K cap') K P) (hb2 : base ≤ b2) (hS : Sp g) (hS' : ∀ b, b2 ≤ b → b < W.heap.size → Sp b) (hne : g < b2)
    (h1 : W'.ownsRow base 25 1 (.slice (some ⟨g, 0, none⟩) (0 + 1) cap) (0 + 1) ([] ++ [.slice (some ⟨g', 0, none⟩) K cap'])) (h2 : (W.alloc (.cells #[.slice (some ⟨g', 0, none⟩) K cap'] 25)).grownBy W' (some g)) : Wn1 W' base Sp (.slice (some ⟨g, 0, none⟩) 1 cap) K P := by
  have hlt := World.ownsRow.lt hn g' rfl
  refine ⟨_, g, cap, rfl, h1, ?_, hS, fun b hb => ?_⟩
  · have m1 : W.ownsRow base 3 1 (.slice (some ⟨g', 0, none⟩) K cap') K ((List.range K).map fun i => .int .i64 (P i : Nat)) := by
      obtain ⟨h0, h⟩ := hn
      rcases h with h | ⟨x, cap, cur, k0, k1, k2⟩
      · exact ⟨h0, Or.inl h⟩
      · exact ⟨h0, Or.inr ⟨x, cap, cur, k0, Nat.le_trans hb2 k1, k2⟩⟩
    exact World.ownsRow.kept (m1.alloc _) h2 (Or.inr fun e => by simp [Value.ownBlock] at e; omega)
  · simp [Value.ownBlock] at hb
    subst hb
    exact hS' _ hlt.1 hlt.2

/-- a round keeps the block X and whatever is no cells -/
def Kx (X : Nat) (W W' : World) : Prop := KeepsOthers W W' ∧ W'.heap[X]? = W.heap[X]? ∧ W.heap.size ≤ W'.heap.size
theorem Kx.refl (X : Nat) (W : World) : Kx X W W := ⟨KeepsOthers.refl _, rfl, Nat.le_refl _⟩
theorem Kx.trans {X : Nat} {A B C : World} (h : Kx X A B) (k : Kx X B C) : Kx X A C := ⟨h.1.trans k.1, k.2.1.trans h.2.1, Nat.le_trans h.2.2 k.2.2⟩
theorem Kx.below {X : Nat} {W W' : World} (hb : Below W.heap.size W W') (hX : X < W.heap.size) : Kx X W W' := ⟨KeepsOthers.of_grownBy (gb_below hb none) (fun _ _ e => by cases e), hb.block X hX, hb.size⟩
theorem Kx.set {X : Nat} (W : World) (b i : Nat) (v : Value) (hb : b ≠ X) : Kx X W (W.setCell ⟨b, i, none⟩ v) := ⟨KeepsOthers.setCell _ _ _, heap_setCell_other W ⟨b, i, none⟩ X v (fun e => hb e.symm), by simp [World.setCell]⟩
/-- what a round is told: W stands behind W0, but for the loop's own record D -/
def RowS (D N K t : Nat) (W0 W : World) (v : Value) : Prop := (∀ s, s < t → ¬ LastS N K s) ∧ D + 1 < W0.heap.size ∧ W0.heap.size < W.heap.size ∧ v = .slice (some ⟨W0.heap.size, 0, none⟩) K K ∧ NumL W W0.heap.size v K (setS N K t) ∧ W0.grownBy W (some D)
theorem RowS.put {D N K t : Nat} {W0 W W' : World} {v : Value} (h : RowS D N K t W0 W v) (hg : W.grownBy W' (some D)) : RowS D N K t W0 W' v := by
  obtain ⟨h1, h2, h3, h4, h5, h6⟩ := h
  refine ⟨h1, h2, Nat.lt_of_lt_of_le h3 hg.size, h4, World.ownsRow.kept h5 hg (Or.inr fun e => ?_), gb_trans h6 hg⟩
  rw [h4] at e
  simp [Value.ownBlock] at e
  omega
theorem NumL.cells {w : World} {base g cap n : Nat} {P : Nat → Nat} (h : NumL w base (.slice (some ⟨g, 0, none⟩) n cap) n P) : RowAt .i64 w g 0 n (fun i => (P i : Int)) := by
  rcases Nat.eq_zero_or_pos n with rfl | hn
  · exact fun i hi => absurd hi (by omega)
  · obtain ⟨g', cap', e, -, -, -, hr, -⟩ := h.row hn
    simp only [Value.slice.injEq, Option.some.injEq, Addr.mk.injEq, and_true, true_and] at e
    obtain ⟨rfl, rfl⟩ := e
    exact hr
theorem Wn0.sep {W : World} {base : Nat} {Sp Sp' : Nat → Prop} {wv : Value} (h : Wn0 W base Sp wv) (hs : ∀ b, Sp b → Sp' b) : Wn0 W base Sp' wv := by
  obtain ⟨a, cap, e, h1, h2⟩ := h
  exact ⟨a, cap, e, h1, fun b hb => hs b (h2 b hb)⟩
theorem Wnt.sep {W : World} {base : Nat} {Sp Sp' : Nat → Prop} {wv : Value} {N K t : Nat} (h : Wnt W base Sp wv N K t) (hs : ∀ b, Sp b → Sp' b) : Wnt W base Sp' wv N K t :=
  ⟨fun a => (h.1 a).sep fun b _ hb => hs b hb, fun a => (h.2 a).sep hs⟩
end Go.Proofs.Ytncldpadakckjaa

namespace Go.Proofs.Ytncldpadakckjaa
open Go.RowKit Go.Shelf

attribute [local go_sem] Oper.semAt_some

theorem one_cell (w : World) (a : Value) (t : TypeId) : (w.alloc (.cells #[a] t)).cell? ⟨w.heap.size, 0, none⟩ = some a ∧ (w.alloc (.cells #[a] t)).frozen? ⟨w.heap.size, 0, none⟩ = false := by
  have h := heap_alloc_new w (.cells #[a] t)
  refine ⟨by rw [cell_of_row _ _ _ _ _ _ h]; rfl, ?_⟩
  unfold World.frozen?
  simp only [h]; simp
theorem four_boxes (w : World) (a b c d : Value) (t u : TypeId) :
    let W := (((w.alloc (.cells #[a] t)).alloc (.cells #[b] t)).alloc (.cells #[c] t)).alloc (.cells #[d] u)
    W.cell? ⟨w.heap.size, 0, none⟩ = some a ∧ W.cell? ⟨w.heap.size + 1, 0, none⟩ = some b ∧ (W.cell? ⟨w.heap.size + 1 + 1, 0, none⟩ = some c ∧ W.frozen? ⟨w.heap.size + 1 + 1, 0, none⟩ = false) ∧ (W.cell? ⟨w.heap.size + 1 + 1 + 1, 0, none⟩ = some d ∧ W.frozen? ⟨w.heap.size + 1 + 1 + 1, 0, none⟩ = false) ∧ Below w.heap.size w W ∧ W.heap.size = w.heap.size + 4 := by
  have h1 := one_cell w a t
  have b1 := bl_alloc w (.cells #[a] t)
  have s1 : (w.alloc (.cells #[a] t)).heap.size = w.heap.size + 1 := by simp
  have h2 := one_cell (w.alloc (.cells #[a] t)) b t
  have b2 := bl_alloc (w.alloc (.cells #[a] t)) (.cells #[b] t)
  have s2 : ((w.alloc (.cells #[a] t)).alloc (.cells #[b] t)).heap.size = w.heap.size + 1 + 1 := by simp
  rw [s1] at h2
  have h3 := one_cell ((w.alloc (.cells #[a] t)).alloc (.cells #[b] t)) c t
  have b3 := bl_alloc ((w.alloc (.cells #[a] t)).alloc (.cells #[b] t)) (.cells #[c] t)
  have s3 : (((w.alloc (.cells #[a] t)).alloc (.cells #[b] t)).alloc (.cells #[c] t)).heap.size = w.heap.size + 1 + 1 + 1 := by simp
  rw [s2] at h3
  have h4 := one_cell (((w.alloc (.cells #[a] t)).alloc (.cells #[b] t)).alloc (.cells #[c] t)) d u
  have b4 := bl_alloc (((w.alloc (.cells #[a] t)).alloc (.cells #[b] t)).alloc (.cells #[c] t)) (.cells #[d] u)
  rw [s3] at h4
  exact ⟨cell_stays b4 (cell_stays b3 (cell_stays b2 h1.1)), cell_stays b4 (cell_stays b3 h2.1), ⟨cell_stays b4 h3.1, froz_stays b4 h3.1 h3.2⟩, h4, below_via (below_via (below_via b1 b2) b3) b4, by simp⟩
theorem two_boxes (w : World) (a b : Value) (t u : TypeId) :
    let W := (w.alloc (.cells #[a] t)).alloc (.cells #[b] u)
    (W.cell? ⟨w.heap.size, 0, none⟩ = some a ∧ W.frozen? ⟨w.heap.size, 0, none⟩ = false) ∧ (W.cell? ⟨w.heap.size + 1, 0, none⟩ = some b ∧ W.frozen? ⟨w.heap.size + 1, 0, none⟩ = false) ∧ Below w.heap.size w W ∧ W.heap.size = w.heap.size + 2 := by
  have h1 := one_cell w a t
  have b1 := bl_alloc w (.cells #[a] t)
  have s1 : (w.alloc (.cells #[a] t)).heap.size = w.heap.size + 1 := by simp
  have h2 := one_cell (w.alloc (.cells #[a] t)) b u
  have b2 := bl_alloc (w.alloc (.cells #[a] t)) (.cells #[b] u)
  rw [s1] at h2
  exact ⟨⟨cell_stays b2 h1.1, froz_stays b2 h1.1 h1.2⟩, h2, below_via b1 b2, by simp⟩

set_option maxHeartbeats 8000000 in
set_option maxRecDepth 100000 in
theorem SAgain_good (N K : Nat) (cut : Int) (hN : N ≤ 64) (hK : K ≤ N) (hcut : -9223372036854775808 ≤ cut ∧ cut ≤ 9223372036854775807) (w : World) :
    Calls Try.prog 6 #[.int .i64 N, .int .i64 K, .int .i64 cut] w fun e w' => e = .returned (.bool true) ∧ Below w.heap.size w w' := by
  refine (callsIn_wide (n := 9)).1 ?_
  refine callsIn_of_wp_marks Try.func6 rfl trivial ?_ rfl
  simp only [Try.ntmps6, List.size_toArray, List.length_cons, List.length_nil, Nat.reduceAdd, Nat.reduceSub, Array.replicate_succ, Array.replicate_zero, List.push_toArray, List.append_toArray, List.nil_append, List.cons_append]
  obtain ⟨q0, q1, ⟨q2, q2'⟩, ⟨q3, q3'⟩, hB, hsz⟩ := four_boxes w (.int .i64 N) (.int .i64 K) (.int .i64 cut) (.bool false) 3 4
  have HB := Lib.hid hB
  have HSZ := Lib.hid hsz
  clear hB hsz
  gi_wp2
  generalize (((w.alloc (.cells #[.int .i64 N] 3)).alloc (.cells #[.int .i64 K] 3)).alloc (.cells #[.int .i64 cut] 3)).alloc (.cells #[.bool false] 4) = W at *
  refine ⟨trivial, (callsIn_wide.2 (awake14_any W)).mono ?_⟩
  rintro e w1 ⟨rfl, hb1⟩
  have HS1 := Lib.hid (show w.heap.size + 4 ≤ w1.heap.size by have := HSZ.out; have := hb1.size; omega)
  replace HB := Lib.hid (below_via HB.out hb1)
  replace q2' := froz_stays hb1 q2 q2'
  replace q3' := froz_stays hb1 q3 q3'
  replace q0 := cell_stays hb1 q0
  replace q1 := cell_stays hb1 q1
  replace q2 := cell_stays hb1 q2
  replace q3 := cell_stays hb1 q3
  clear hb1 HSZ
  gi_wp2
  refine ⟨trivial, (callsIn_wide.2 (below_any' cut hcut w1)).mono ?_⟩
  rintro e w2 ⟨⟨c, hc, rfl⟩, rfl⟩
  have g1 := gb_set w1 ⟨w.heap.size + 1 + 1, 0, none⟩ (.int .i64 c)
  have HB3 := Lib.hid (HB.out.grown g1 HB.out.size (fun b hb => by cases hb; show w.heap.size ≤ w.heap.size + 1 + 1; omega))
  have ho : ∀ {b : Nat} {x : Value}, w1.cell? ⟨b, 0, none⟩ = some x → b ≠ w.heap.size + 1 + 1 → (w1.setCell ⟨w.heap.size + 1 + 1, 0, none⟩ (.int .i64 c)).cell? ⟨b, 0, none⟩ = some x := fun hx hb => by
    rw [World.cell?_setCell_other _ _ _ _ (by intro e; injection e with e _ _; exact hb e.symm)]; exact hx
  have r0 := ho q0 (by omega)
  have r1 := ho q1 (by omega)
  have r2 := World.cell?_setCell_same _ _ (Value.int .i64 c) q2
  have r3 := ho q3 (by omega)
  have r3' : (w1.setCell ⟨w.heap.size + 1 + 1, 0, none⟩ (.int .i64 c)).frozen? ⟨w.heap.size + 1 + 1 + 1, 0, none⟩ = false := by rw [World.frozen?_setCell]; exact q3'
  have HS3 := Lib.hid (Nat.le_trans HS1.out g1.size)
  have HR := Lib.hid (And.intro r0 (And.intro r1 (And.intro r2 (And.intro r3 r3'))))
  clear r0 r1 r2 r3 r3' g1 ho HB HS1
  gi_wp2
  generalize w1.setCell ⟨w.heap.size + 1 + 1, 0, none⟩ (.int .i64 c) = w3 at *
  refine ⟨trivial, (callsIn_wide.2 (Sets_any N K w3)).mono ?_⟩
  rintro e w4 ⟨rfl, hw4⟩
  obtain ⟨⟨n0, -⟩, ⟨n1, -⟩, hb4, hs4⟩ := two_boxes w3 (.int .i64 N) (.int .i64 K) 3 3
  rw [← hw4] at n0 n1 hb4 hs4
  obtain ⟨r0, r1, r2, r3, r3'⟩ := HR.out
  replace r3' := froz_stays hb4 r3 r3'
  replace r0 := cell_stays hb4 r0
  replace r1 := cell_stays hb4 r1
  replace r2 := cell_stays hb4 r2
  replace r3 := cell_stays hb4 r3
  have HB4 := Lib.hid (below_via HB3.out hb4)
  have HS4 := Lib.hid (And.intro HS3.out hs4)
  clear hw4 hb4 hs4 HR HB3 HS3 q0 q1 q2 q2' q3 q3'
  have he : ∀ (lb : Array Value) (w : World), (binOp .eql 50 (.func (.func 71) #[] lb) .nilFunc).run Try.prog w = .ok (.bool false) w := fun _ _ => rfl
  gi_wp2
  refine ⟨trivial, (callsIn_wide.2 (Some_good K N w4 hN hK)).mono ?_⟩
  rintro e w5 ⟨hb5, g0, cap0, rfl, hwl⟩
  obtain ⟨p0, p1, hb6, hs6⟩ := two_boxes w5 (.slice (some ⟨g0, 0, none⟩) 1 cap0) (.int .i64 0) 52 3
  have hs5 := hb5.size
  replace r3' := froz_stays hb5 r3 r3'
  replace r0 := cell_stays hb5 r0
  replace r1 := cell_stays hb5 r1
  replace r2 := cell_stays hb5 r2
  replace r3 := cell_stays hb5 r3
  replace n0 := cell_stays hb5 n0
  replace n1 := cell_stays hb5 n1
  have HB5 := Lib.hid (below_via HB4.out hb5)
  have HWL := Lib.hid hwl
  have HT := Lib.hid (And.intro p0 (And.intro p1 (And.intro hb6 (And.intro hs6 hs5))))
  clear hb5 hwl p0 p1 hb6 hs6 hs5 HB4
  gi_wp2
  generalize hw6 : (w5.alloc (.cells #[.slice (some ⟨g0, 0, none⟩) 1 cap0] 52)).alloc (.cells #[.int .i64 0] 3) = w6 at *
  obtain ⟨p0, p1, hb6, hs6, hs5⟩ := HT.out
  obtain ⟨hs3, hs4⟩ := HS4.out
  replace r3' := froz_stays hb6 r3 r3'
  replace r0 := cell_stays hb6 r0
  replace r1 := cell_stays hb6 r1
  replace r2 := cell_stays hb6 r2
  replace r3 := cell_stays hb6 r3
  replace n0 := cell_stays hb6 n0
  replace n1 := cell_stays hb6 n1
  obtain ⟨nb, hnb⟩ : ∃ nb, nb = w3.heap.size := ⟨_, rfl⟩
  obtain ⟨kb, hkb⟩ : ∃ kb, kb = w3.heap.size + 1 := ⟨_, rfl⟩
  obtain ⟨bw, hbw⟩ : ∃ bw, bw = w5.heap.size := ⟨_, rfl⟩
  obtain ⟨bi, hbi⟩ : ∃ bi, bi = w5.heap.size + 1 := ⟨_, rfl⟩
  rw [← hnb] at n0
  rw [← hkb] at n1
  rw [← hbw] at p0
  rw [← hbi] at p1
  have hI0 : AgB w nb kb bw bi N K c ((0 : Nat) : Int) (.slice (some ⟨g0, 0, none⟩) 1 cap0) w6 := ⟨below_via HB5.out hb6, by omega, by omega, by omega, ⟨by omega, by omega, by omega⟩, ⟨by omega, by omega, by omega⟩, r0, r1, r2, ⟨r3, r3'⟩, p1, p0, n0, n1⟩
  have hWn : Wnt w6 w.heap.size (Sep w nb kb bw bi w6.heap.size) (.slice (some ⟨g0, 0, none⟩) 1 cap0) N K 0 :=
    ⟨fun _ => wn1_start HWL.out hb6 (by omega) (fun b h1 h2 => ⟨by omega, by omega, by omega, by omega, by omega, by omega, by omega, by omega⟩), fun ⟨s, hs, _⟩ => absurd hs (by omega)⟩
  have HI0 := Lib.hid hI0
  have HWN := Lib.hid hWn
  have HSB := Lib.hid (show bi < w6.heap.size ∧ bw < w6.heap.size ∧ nb < w6.heap.size ∧ kb < w6.heap.size by omega)
  rw [← hkb, ← hnb, ← hbi, ← hbw]
  clear hnb hkb hbw hbi hI0 hWn r0 r1 r2 r3 r3' n0 n1 p0 p1 hb6 hs6 hs5 hs3 hs4 HT HS4 HWL HB5 hw6
  refine range_stops (n := 9) (by omega) (gf := 71) (lb := #[.pointer (some ⟨nb, 0, none⟩), .pointer (some ⟨kb, 0, none⟩)]) rfl (enters_of Try.func71 (by kernel_rfl) rfl) rfl
    (fun t => ∃ s, t = s + 1 ∧ (∀ r, r < s → ¬ LastS N K r) ∧ LastS N K s) (RowS (w6.heap.size + 1) N K) (fun t W0 W W' v h hg => h.put hg)
    (fun t W => t ≤ 100002 ∧ ∃ wv, AgB w nb kb bw bi N K c (t : Nat) wv W ∧ Wnt W w.heap.size (Sep w nb kb bw bi w6.heap.size) wv N K t)
    (fun j W => j = .exit 0 ∧ ∃ (i : Int) (wv : Value), AgB w nb kb bw bi N K c i wv W) ?inv ?invx ?seq ⟨Nat.zero_le _, _, HI0.out, HWN.out⟩ ?round ?done ?stop
  case inv =>
    rintro t W W' r ⟨ht, wv, h1, h2⟩ hg hr
    have hb := HSB.out
    have hl := h1.li
    exact ⟨ht, wv, h1.grown hg (fun b e => by rcases hr b e with h | h <;> (have := h1.lw; have := h1.ln; have := h1.lk; omega)), h2.grown hg (fun b e hs => by
      obtain ⟨-, -, -, -, -, -, k1, k2⟩ := hs
      rcases hr b e with h | h
      · exact k1 h
      · exact k2 h)⟩
  case invx =>
    rintro j W W' r ⟨rfl, i, wv, h1⟩ hg hr
    have hb := HSB.out
    exact ⟨rfl, i, wv, h1.grown hg (fun b e => by have := hr b e; have := h1.lw; have := h1.ln; have := h1.lk; have := h1.li; omega)⟩
  case seq =>
    intro l J Jx W hW j1 j2 j3 j4
    refine (sets1_in 8 (by omega) nb kb N K (w6.heap.size + 2) hN hK l J Jx W hW.symm j1 (fun t W h => ?_) (fun t W0 W h1 h2 h3 h4 h5 h6 h7 => j3 t W0 W _ ⟨h1, h4, h6, rfl, h7, gb_below h5 _⟩ h2 h3) j4).mono ?_
    · obtain ⟨-, wv, h, -⟩ := j2 t W h
      exact ⟨h.nn, h.kk⟩
    · rintro e W' ⟨hv, (⟨t, h1, h2, h3⟩ | h)⟩
      · exact ⟨hv, Or.inl ⟨t + 1, ⟨t, rfl, h1, h2⟩, h3⟩⟩
      · exact ⟨hv, Or.inr h⟩
  case round =>
    intro l t v
    refine ⟨_, fun W K0 hK => by gi_wp2; exact hK, ?_⟩
    rintro W0 W ⟨ht, wv, ha0, hw0⟩ - ⟨hl, hX, hlt, rfl, hv, hgr⟩
    have hmix : Try.prog.follows .mixedOrders = true := by kernel_rfl
    have hK64 : K ≤ 64 := by omega
    have ha := ha0.grown hgr (fun b e => by cases e; have := HSB.out; have := ha0.lw; have := ha0.ln; have := ha0.lk; omega)
    have hw := ((hw0.1 hl).sep (Sp' := fun b => Sep w nb kb bw bi w6.heap.size b ∧ b ≠ W0.heap.size) (fun b h1 h2 => ⟨h2, by omega⟩)).grown hgr (fun b e hs => by cases e; exact hs.1.2.2.2.2.2.2.1 rfl)
    obtain ⟨u, g, cap, rfl, gu, hu, hsp⟩ := hw.elem
    have hXW : w6.heap.size + 2 < W.heap.size := by omega
    have HLN := Lib.hid (LikeNums_yes _ _ K (setS N K t) W hK64 (hv.read hK64) (hu.read hK64))
    obtain ⟨s0, s0'⟩ := ha.cw
    have HA := Lib.hid ha
    have HW := Lib.hid hw
    have HL := Lib.hid hl
    have HU := Lib.hid hu
    have HV := Lib.hid hv
    clear ha hw hl hu hv ha0 hw0 hgr
    gi_wp2
    refine ⟨trivial, (CallsIn.inRound l (callsIn_wide.2 HLN.out)).mono ?_⟩
    rintro e W2 ⟨rfl, hb2⟩
    have HA2 := Lib.hid (HA.out.below hb2)
    have HW2 := Lib.hid (HW.out.grown (gb_below hb2 none) (fun _ e => by cases e))
    have HU2 := Lib.hid (HU.out.below hb2)
    have HK2 := Lib.hid (Kx.below hb2 hXW)
    have HNX := Lib.hid (Next_any u K N (setS N K t) W2.drew hN hK ((HU2.out.read hK64).below (bl_drew _)) (setS_ris hK t HL.out))
    have HV2 := Lib.hid (HV.out.below hb2)
    have hlt2 := Nat.lt_of_lt_of_le hXW hb2.size
    have hgW : g < W2.heap.size := Nat.lt_of_lt_of_le (World.block_lt_of_cell? _ _ gu) hb2.size
    have hlt3 : W0.heap.size < W2.heap.size := Nat.lt_of_lt_of_le hlt hb2.size
    replace gu := cell_stays hb2 gu
    obtain ⟨s0, s0'⟩ := HA2.out.cw
    have s1 := HA2.out.cn
    clear hb2 HLN HA HW HU HV
    gi_wp2
    refine region_round (fun x => x.cell? ⟨bw, 0, none⟩ = some (.slice (some ⟨g, 0, none⟩) 1 cap) ∧ x.cell? ⟨g, 0, none⟩ = some u ∧ x.cell? ⟨w.heap.size, 0, none⟩ = some (.int .i64 N)) 5 hmix (by kernel_rfl) (by rintro ⟨a', w', h'⟩; exact h') ?_
    have hS : W2.drew.cell? ⟨bw, 0, none⟩ = some (.slice (some ⟨g, 0, none⟩) 1 cap) ∧ W2.drew.cell? ⟨g, 0, none⟩ = some u ∧ W2.drew.cell? ⟨w.heap.size, 0, none⟩ = some (.int .i64 N) := ⟨s0, gu, s1⟩
    refine anyL_take (i := 0) (v := .slice (some ⟨g, 0, none⟩) 1 cap) rfl (by kernel_rfl) (by kernel_rfl) (by kernel_rfl) (by kernel_rfl) (fun _ _ _ h => h) (Or.inl ⟨by rfl, ?_⟩) hS ?_
    · intro u hu
      obtain ⟨u1, u2, u3⟩ := hu
      go_simp
    simp only [Act.put, List.setIfInBounds_toArray, List.set_cons_zero, List.set_cons_succ]
    refine anyL_pure (i := 1) (v := .pointer (some ⟨g, 0, none⟩)) rfl (by kernel_rfl) (by kernel_rfl) (by kernel_rfl) (by kernel_rfl) (fun _ _ _ h => h) (Or.inl ⟨by rfl, ?_⟩) hS ?_
    · intro u hu
      go_simp
    simp only [Act.put, List.setIfInBounds_toArray, List.set_cons_zero, List.set_cons_succ]
    refine anyL_take (i := 2) (v := u) rfl (by kernel_rfl) (by kernel_rfl) (by kernel_rfl) (by kernel_rfl) (fun _ _ _ h => h) (Or.inl ⟨by rfl, ?_⟩) hS ?_
    · intro u hu
      obtain ⟨u1, u2, u3⟩ := hu
      go_simp
    simp only [Act.put, List.setIfInBounds_toArray, List.set_cons_zero, List.set_cons_succ]
    refine anyL_take (i := 3) (v := .int .i64 N) rfl (by kernel_rfl) (by kernel_rfl) (by kernel_rfl) (by kernel_rfl) (fun _ _ _ h => h) (Or.inl ⟨by rfl, ?_⟩) hS ?_
    · intro u hu
      obtain ⟨u1, u2, u3⟩ := hu
      go_simp
    simp only [Act.put, List.setIfInBounds_toArray, List.set_cons_zero, List.set_cons_succ]
    refine anyL_one (i := 4) (by kernel_rfl) rfl rfl fun K0 hK0 => ?_
    go_simp
    refine HNX.out.mono ?_
    rintro e W4 ⟨hb4a, hnx⟩
    have hb4 : Below W2.heap.size W2 W4 := below_via (bl_drew _) hb4a
    have HS4 := Lib.hid (show W4.cell? ⟨bw, 0, none⟩ = some (.slice (some ⟨g, 0, none⟩) 1 cap) ∧ W4.cell? ⟨g, 0, none⟩ = some u ∧ W4.cell? ⟨w.heap.size, 0, none⟩ = some (.int .i64 N) from ⟨cell_stays hb4 s0, cell_stays hb4 gu, cell_stays hb4 s1⟩)
    have HA4 := Lib.hid (HA2.out.below hb4)
    have HW4 := Lib.hid (HW2.out.grown (gb_below hb4 none) (fun _ e => by cases e))
    have HK4 := Lib.hid (HK2.out.trans (Kx.below hb4 hlt2))
    have HV4 := Lib.hid (HV2.out.below hb4)
    have HZ4 := Lib.hid hb4.size
    clear hb4a hb4 hS HNX HA2 HW2 HK2 HV2 HU2 s0 s0' gu s1
    obtain ⟨vn, rfl, hnv⟩ : ∃ vn, e = .returned vn ∧ ((hiI N K (setS N K t) K = 0 ∧ vn = .slice none 0 0) ∨ (0 < hiI N K (setS N K t) K ∧ ∃ g cap, vn = .slice (some ⟨g, 0, none⟩) K cap ∧ NumL W4 W2.heap.size (.slice (some ⟨g, 0, none⟩) K cap) K (setS N K (t + 1)))) := by
      rcases hnx with ⟨h1, rfl⟩ | ⟨h1, g, cap, rfl, h2⟩
      · exact ⟨_, rfl, Or.inl ⟨h1, rfl⟩⟩
      · exact ⟨_, rfl, Or.inr ⟨h1, g, cap, rfl, h2⟩⟩
    have HNX := Lib.hid hnv
    clear hnx hnv
    refine hK0 _ _ (fun _ => HS4.out) ?_
    clear hK0 K0
    try simp only [Act.put, List.setIfInBounds_toArray, List.set_cons_zero, List.set_cons_succ]
    refine anyL_one (i := 5) (by kernel_rfl) rfl rfl fun K0 hK0 => ?_
    go_simp
    refine hK0 _ _ (fun e => absurd e (by decide)) ?_
    clear hK0 K0
    refine anyL_done (by kernel_rfl) ?_ _
    obtain ⟨s0, s0'⟩ := HA4.out.cw
    have HA5 := Lib.hid (HA4.out.putw (.slice (some ⟨g, 0, none⟩) 0 cap))
    have HW5 := Lib.hid ((HW4.out.grown (gb_set W4 ⟨bw, 0, none⟩ (.slice (some ⟨g, 0, none⟩) 0 cap)) (fun b e hs => by cases e; exact hs.1.2.2.2.1 rfl)).cut)
    have HK5 := Lib.hid (HK4.out.trans (Kx.set W4 bw 0 (.slice (some ⟨g, 0, none⟩) 0 cap) (by have := HSB.out; omega)))
    have HV5 := Lib.hid (show NumL (W4.setCell ⟨bw, 0, none⟩ (.slice (some ⟨g, 0, none⟩) 0 cap)) W0.heap.size _ K (setS N K t) from World.ownsRow.kept HV4.out (gb_set W4 ⟨bw, 0, none⟩ (.slice (some ⟨g, 0, none⟩) 0 cap)) (Or.inr fun e => by simp [Value.ownBlock] at e; have := HSB.out; omega))
    have HZ5 := Lib.hid (Nat.le_trans HZ4.out (gb_set W4 ⟨bw, 0, none⟩ (.slice (some ⟨g, 0, none⟩) 0 cap)).size)
    have HNX5 := Lib.hid (show (hiI N K (setS N K t) K = 0 ∧ vn = .slice none 0 0) ∨ (0 < hiI N K (setS N K t) K ∧ ∃ g' cap', vn = .slice (some ⟨g', 0, none⟩) K cap' ∧ NumL (W4.setCell ⟨bw, 0, none⟩ (.slice (some ⟨g, 0, none⟩) 0 cap)) W2.heap.size (.slice (some ⟨g', 0, none⟩) K cap') K (setS N K (t + 1))) from by
      rcases HNX.out with h | ⟨h1, g', cap', h2, h3⟩
      · exact Or.inl h
      · exact Or.inr ⟨h1, g', cap', h2, World.ownsRow.kept h3 (gb_set W4 ⟨bw, 0, none⟩ (.slice (some ⟨g, 0, none⟩) 0 cap)) (Or.inr fun e => by
          have e1 : g' = bw := by simpa [Value.ownBlock] using e
          have e2 : W2.heap.size ≤ g' := (World.ownsRow.lt h3 g' rfl).1
          have e3 := HSB.out.2.1
          omega)⟩)
    have HW4' := Lib.hid HW4.out
    clear HA4 HW4 HK4 HV4 HZ4 HNX HS4
    have he0 : ∀ w : World, (binOp .neq 25 (.slice none 0 0) (.slice none 0 0)).run Try.prog w = .ok (.bool false) w := fun _ => rfl
    have he1 : ∀ (g n c : Nat) (w : World), (binOp .neq 25 (.slice (some ⟨g, 0, none⟩) n c) (.slice none 0 0)).run Try.prog w = .ok (.bool true) w := fun _ _ _ _ => rfl
    have r1 := HA5.out.ck
    have r2 := HA5.out.ci
    have HRM := Lib.hid (HW4'.out.room)
    gi_upto_region 15 with fail
    generalize W4.setCell ⟨bw, 0, none⟩ (.slice (some ⟨g, 0, none⟩) 0 cap) = W5 at *
    obtain ⟨s2, s2'⟩ := HA5.out.cw
    rcases HNX5.out with ⟨hh, rfl⟩ | ⟨hh, g', cap', rfl, hn'⟩
    · have HA8 := Lib.hid HA5.out
      have HW8 := Lib.hid (wn0_next HW5.out hh)
      have HK8 := Lib.hid HK5.out
      have HV8 := Lib.hid HV5.out.cells
      clear HW5 HNX5 hh HA5 HK5 HV5 s2 s2'
      obtain ⟨s4, s4'⟩ := HA8.out.ci
      have s5 := HA8.out.cc
      gi_wp2
      gi_loopw [12] (fun jv wr => ∃ (j : Nat) (f : Nat → Int), j ≤ K ∧ jv = .int .i64 j ∧ AgB w nb kb bw bi N K c (t : Nat) (.slice (some ⟨g, 0, none⟩) 0 cap) wr ∧ Wnt wr w.heap.size (fun b => Sep w nb kb bw bi w6.heap.size b ∧ b ≠ W0.heap.size) (.slice (some ⟨g, 0, none⟩) 0 cap) N K (t + 1) ∧ Kx (w6.heap.size + 2) W wr ∧ RowAt .i64 wr W0.heap.size 0 K f) (fun jv _ => K - (intOf jv).toNat)
      case atStart => exact ⟨0, _, Nat.zero_le _, rfl, HA8.out, HW8.out, HK8.out, HV8.out⟩
      case round =>
        clear s4 s4' s5 HA8 HW8 HK8 HV8
        obtain ⟨j, f, hj, rfl, ha, hw, hk, hr⟩ := hrel
        by_cases hjK : j < K
        · have hj' : (j : Int) < (K : Int) := by omega
          obtain ⟨r0, r1⟩ := hr.get0 hjK rfl
          have hgb := gb_set wr ⟨W0.heap.size, j, none⟩ (.int .i64 (-7))
          have HA9 := Lib.hid (ha.grown hgb (fun b e => by cases e; have := HSB.out; have := ha.lw; have := ha.ln; have := ha.lk; show _ ≤ W0.heap.size ∧ W0.heap.size ≠ nb ∧ W0.heap.size ≠ kb ∧ W0.heap.size ≠ bw ∧ W0.heap.size ≠ bi; omega))
          have HW9 := Lib.hid (hw.grown hgb (fun b e hs => by cases e; exact hs.2 rfl))
          have HK9 := Lib.hid (hk.trans (Kx.set wr W0.heap.size j (.int .i64 (-7)) (by omega)))
          have HR9 := Lib.hid (hr.set0 hjK (-7))
          clear ha hw hk hr hgb
          gi_wp2
          go_roundw
          case rel => exact ⟨j + 1, _, by omega, by go_num, HA9.out, HW9.out, HK9.out, HR9.out⟩
          case measure => simp [intOf] <;> omega
        · have hj' : ¬ (j : Int) < (K : Int) := by omega
          obtain ⟨s4, s4'⟩ := ha.ci
          have s5 := ha.cc
          have HA9 := Lib.hid ha
          have HW9 := Lib.hid hw
          have HK9 := Lib.hid hk
          have hi9 := ha.puti ((t : Int) + 1)
          have s6 := hi9.cc
          obtain ⟨s7, s7'⟩ := hi9.ci
          have HI9 := Lib.hid hi9
          clear ha hw hk hr hi9
          have HK10 := Lib.hid (HK9.out.trans (Kx.set wr bi 0 (.int .i64 ((t : Int) + 1)) (by have := HSB.out; omega)))
          have HW10 := Lib.hid ((HW9.out.grown (gb_set wr ⟨bi, 0, none⟩ (.int .i64 ((t : Int) + 1))) (fun b e hs => by cases e; exact hs.1.2.2.2.2.1 rfl)).sep (Sp' := Sep w nb kb bw bi w6.heap.size) (fun b h => h.1))
          clear HK9 HW9 HA9
          by_cases hgt : (c : Int) / 2 < (t : Int) + 1
          · gi_wp2
            exact ⟨HK10.out.1, rfl, _, _, HI9.out⟩
          · have hgt' : (t : Int) + 1 ≤ (c : Int) / 2 := by omega
            gi_wp2
            exact ⟨HK10.out.1, HK10.out.2.1, by omega, _, HI9.out, HW10.out⟩
    · have hk0 : (0 : Int) < (K : Int) := by have := hiI_le N K (setS N K t) K; omega
      obtain ⟨i0, hi, hz0, hz1, hz2⟩ := info_parts infoNs
      have HI := Lib.hid (And.intro hi (And.intro hz0 (And.intro hz1 hz2)))
      obtain ⟨a0, c0, e0, ho, -⟩ := HW5.out
      simp only [Value.slice.injEq] at e0
      obtain ⟨rfl, -, rfl⟩ := e0
      have HO := Lib.hid (own_below ho (bl_alloc W5 (.cells #[.slice (some ⟨g', 0, none⟩) K cap'] 25)))
      have HN5 := Lib.hid hn'
      have HOO := Lib.hid ho
      have HST := Lib.hid (fun (W7 : World) (k1 : W7.ownsRow w.heap.size 25 1 (.slice (some ⟨g, 0, none⟩) (0 + 1) cap) (0 + 1) ([] ++ [.slice (some ⟨g', 0, none⟩) K cap'])) (k2 : (W5.alloc (.cells #[.slice (some ⟨g', 0, none⟩) K cap'] 25)).grownBy W7 (some g)) =>
        (show AgB w nb kb bw bi N K c (t : Nat) (.slice (some ⟨g, 0, none⟩) 0 cap) W7 ∧ Wn1 W7 w.heap.size (fun b => Sep w nb kb bw bi w6.heap.size b ∧ b ≠ W0.heap.size) (.slice (some ⟨g, 0, none⟩) 1 cap) K (setS N K (t + 1)) ∧ Kx (w6.heap.size + 2) W W7 ∧ NumL W7 W0.heap.size (.slice (some ⟨W0.heap.size, 0, none⟩) K K) K (setS N K t) from by
          have gb : W5.grownBy W7 (some g) := gb_trans (gb_below (bl_alloc W5 _) _) k2
          have hb1 := HSB.out
          have hb2 := HA5.out.lw
          have hb3 := HA5.out.ln
          have hb4 := HA5.out.lk
          have hb5 := HA5.out.bel.size
          have hb6 := HZ5.out
          refine ⟨HA5.out.grown gb (fun b e => by cases e; exact ⟨hsp.1.1, hsp.1.2.1, hsp.1.2.2.1, hsp.1.2.2.2.1, hsp.1.2.2.2.2.1⟩), wn1_push HN5.out (by omega) hsp (fun b h1 h2 => ⟨⟨by omega, by omega, by omega, by omega, by omega, by omega, by omega, by omega⟩, by omega⟩) hgW k1 k2, HK5.out.trans ⟨KeepsOthers.of_grownBy gb (rowc_cells HOO.out), gb.block _ (by omega) (fun e => by cases e; exact hsp.1.2.2.2.2.2.2.2 rfl), gb.size⟩, World.ownsRow.kept HV5.out gb (Or.inr fun e => by simp [Value.ownBlock] at e; exact hsp.2 e.symm)⟩))
      clear hi hz0 hz1 hz2 ho hn' HW5 HNX5
      gi_wp2_with (gi_at_builtin; refine wpListIn_append_fits _ (by rfl) _ _ 52 (by rfl) w.heap.size 25 i0 1 Try.underlying52 HI.out.1 HI.out.2.2.1 g 0 cap [] (by rfl) HO.out ⟨W5.heap.size, 0, none⟩ 1 1 [.slice (some ⟨g', 0, none⟩) K cap'] (by rfl) (by simp) (news_one _ _ _) (one_one rfl) HRM.out ?_; intro W7 k1 k2; have HKK := Lib.hid (HST.out W7 k1 k2); obtain ⟨t0, t0'⟩ := HKK.out.1.cw; clear k1 k2)
      have HA8 := Lib.hid (HKK.out.1.putw (.slice (some ⟨g, 0, none⟩) 1 cap))
      have HW8 := Lib.hid (wn1_next (HKK.out.2.1.grown (gb_set W7 ⟨bw, 0, none⟩ (.slice (some ⟨g, 0, none⟩) 1 cap)) (fun b e hs => by cases e; exact hs.1.2.2.2.1 rfl)) HL.out hh)
      have HK8 := Lib.hid (HKK.out.2.2.1.trans (Kx.set W7 bw 0 (.slice (some ⟨g, 0, none⟩) 1 cap) (by have := HSB.out; omega)))
      have HV8 := Lib.hid (show RowAt .i64 (W7.setCell ⟨bw, 0, none⟩ (.slice (some ⟨g, 0, none⟩) 1 cap)) W0.heap.size 0 K (fun i => ((setS N K t i : Nat) : Int)) from HKK.out.2.2.2.cells.other (a := ⟨bw, 0, none⟩) (by have := HSB.out; show bw ≠ W0.heap.size; omega) _)
      generalize W7.setCell ⟨bw, 0, none⟩ (.slice (some ⟨g, 0, none⟩) 1 cap) = W8 at *
      clear HKK HST HI HO HOO HN5 HA5 HK5 HV5 s2 s2' t0 t0' hk0
      obtain ⟨s4, s4'⟩ := HA8.out.ci
      have s5 := HA8.out.cc
      gi_wp2
      gi_loopw [12] (fun jv wr => ∃ (j : Nat) (f : Nat → Int), j ≤ K ∧ jv = .int .i64 j ∧ AgB w nb kb bw bi N K c (t : Nat) (.slice (some ⟨g, 0, none⟩) 1 cap) wr ∧ Wnt wr w.heap.size (fun b => Sep w nb kb bw bi w6.heap.size b ∧ b ≠ W0.heap.size) (.slice (some ⟨g, 0, none⟩) 1 cap) N K (t + 1) ∧ Kx (w6.heap.size + 2) W wr ∧ RowAt .i64 wr W0.heap.size 0 K f) (fun jv _ => K - (intOf jv).toNat)
      case atStart => exact ⟨0, _, Nat.zero_le _, rfl, HA8.out, HW8.out, HK8.out, HV8.out⟩
      case round =>
        clear s4 s4' s5 HA8 HW8 HK8 HV8
        obtain ⟨j, f, hj, rfl, ha, hw, hk, hr⟩ := hrel
        by_cases hjK : j < K
        · have hj' : (j : Int) < (K : Int) := by omega
          obtain ⟨r0, r1⟩ := hr.get0 hjK rfl
          have hgb := gb_set wr ⟨W0.heap.size, j, none⟩ (.int .i64 (-7))
          have HA9 := Lib.hid (ha.grown hgb (fun b e => by cases e; have := HSB.out; have := ha.lw; have := ha.ln; have := ha.lk; show _ ≤ W0.heap.size ∧ W0.heap.size ≠ nb ∧ W0.heap.size ≠ kb ∧ W0.heap.size ≠ bw ∧ W0.heap.size ≠ bi; omega))
          have HW9 := Lib.hid (hw.grown hgb (fun b e hs => by cases e; exact hs.2 rfl))
          have HK9 := Lib.hid (hk.trans (Kx.set wr W0.heap.size j (.int .i64 (-7)) (by omega)))
          have HR9 := Lib.hid (hr.set0 hjK (-7))
          clear ha hw hk hr hgb
          gi_wp2
          go_roundw
          case rel => exact ⟨j + 1, _, by omega, by go_num, HA9.out, HW9.out, HK9.out, HR9.out⟩
          case measure => simp [intOf] <;> omega
        · have hj' : ¬ (j : Int) < (K : Int) := by omega
          obtain ⟨s4, s4'⟩ := ha.ci
          have s5 := ha.cc
          have HA9 := Lib.hid ha
          have HW9 := Lib.hid hw
          have HK9 := Lib.hid hk
          have hi9 := ha.puti ((t : Int) + 1)
          have s6 := hi9.cc
          obtain ⟨s7, s7'⟩ := hi9.ci
          have HI9 := Lib.hid hi9
          clear ha hw hk hr hi9
          have HK10 := Lib.hid (HK9.out.trans (Kx.set wr bi 0 (.int .i64 ((t : Int) + 1)) (by have := HSB.out; omega)))
          have HW10 := Lib.hid ((HW9.out.grown (gb_set wr ⟨bi, 0, none⟩ (.int .i64 ((t : Int) + 1))) (fun b e hs => by cases e; exact hs.1.2.2.2.2.1 rfl)).sep (Sp' := Sep w nb kb bw bi w6.heap.size) (fun b h => h.1))
          clear HK9 HW9 HA9
          by_cases hgt : (c : Int) / 2 < (t : Int) + 1
          · gi_wp2
            exact ⟨HK10.out.1, rfl, _, _, HI9.out⟩
          · have hgt' : (t : Int) + 1 ≤ (c : Int) / 2 := by omega
            gi_wp2
            exact ⟨HK10.out.1, HK10.out.2.1, by omega, _, HI9.out, HW10.out⟩
  case done =>
    rintro D t W rfl ⟨s, rfl, -, -⟩ ⟨-, wv, ha, -⟩ hD
    have hDl : (w6.heap.size) < W.heap.size := (Array.getElem?_eq_some_iff.1 hD).1
    obtain ⟨u0, u0'⟩ := ha.cw
    obtain ⟨u1, u1'⟩ := ha.ci
    have u2 := ha.cn
    have u3 := ha.ck
    have HA := Lib.hid ha
    have HD := Lib.hid hD
    clear ha hD
    gi_wp2
    refine ⟨trivial, (callsIn_wide.2 (Some_good K N W hN hK)).mono ?_⟩
    rintro e w7 ⟨hb7, g7, cap7, rfl, hwl7⟩
    have HA7 := Lib.hid (HA.out.below hb7)
    have HD7 := Lib.hid ((hb7.block (w6.heap.size) hDl).trans HD.out)
    have hA8 := (HA7.out.putw (.slice (some ⟨g7, 0, none⟩) 1 cap7)).puti ((0 : Nat) : Int)
    have hk8 := (KeepsOthers.setCell w7 ⟨bw, 0, none⟩ (.slice (some ⟨g7, 0, none⟩) 1 cap7)).trans (KeepsOthers.setCell _ ⟨bi, 0, none⟩ (.int .i64 ((0 : Nat) : Int)))
    have HA8 := Lib.hid hA8
    have HD8 := Lib.hid (hk8.same _ _ HD7.out rfl)
    have hW7 := hb7.size
    have hsz8 : w7.heap.size = ((w7.setCell ⟨bw, 0, none⟩ (.slice (some ⟨g7, 0, none⟩) 1 cap7)).setCell ⟨bi, 0, none⟩ (.int .i64 ((0 : Nat) : Int))).heap.size := by simp [World.setCell]
    obtain ⟨u4, u4'⟩ := HA7.out.cw
    obtain ⟨u5, u5'⟩ := (HA7.out.putw (.slice (some ⟨g7, 0, none⟩) 1 cap7)).ci
    have HWL := Lib.hid hwl7
    have hbwl : bw < w7.heap.size := World.block_lt_of_cell? _ _ u4
    have hbil : bi < w7.heap.size := by have := World.block_lt_of_cell? _ _ HA7.out.ci.1; exact this
    have hnbl : nb < w7.heap.size := by have := World.block_lt_of_cell? _ _ HA7.out.nn; exact this
    have hkbl : kb < w7.heap.size := by have := World.block_lt_of_cell? _ _ HA7.out.kk; exact this
    have HSB7 := Lib.hid (show bi < W.heap.size ∧ bw < W.heap.size ∧ nb < W.heap.size ∧ kb < W.heap.size from ⟨World.block_lt_of_cell? _ _ u1, World.block_lt_of_cell? _ _ u0, World.block_lt_of_cell? _ _ HA.out.nn, World.block_lt_of_cell? _ _ HA.out.kk⟩)
    have HSZ8 := Lib.hid hsz8
    clear hb7 hwl7 hA8 hk8 hsz8 u0 u0' u1 u1' u2 u3
    gi_wp2
    have HWN8 := Lib.hid (show Wn1 ((w7.setCell ⟨bw, 0, none⟩ (.slice (some ⟨g7, 0, none⟩) 1 cap7)).setCell ⟨bi, 0, none⟩ (.int .i64 ((0 : Nat) : Int))) w.heap.size (Sep w nb kb bw bi w7.heap.size) (.slice (some ⟨g7, 0, none⟩) 1 cap7) K (setS N K 0) from
      ((wn1_start HWL.out (Below.refl _ _) (by have := HA.out.bel.size; omega) (fun b h1 h2 => ⟨by have := HSB7.out; have := HA.out.lw; omega, by have := HSB7.out; omega, by have := HSB7.out; omega, by have := HSB7.out; omega, by have := HSB7.out; omega, by omega, by omega, by omega⟩)).grown (gb_set _ _ _) (fun b e hs => by cases e; exact hs.2.2.2.1 rfl)).grown (gb_set _ _ _) (fun b e hs => by cases e; exact hs.2.2.2.2.1 rfl))
    rw [HSZ8.out] at HWN8 hbwl hbil hnbl hkbl hW7
    have e0 : (Value.int IntKind.i64 ((0 : Nat) : Int)) = Value.int IntKind.i64 0 := rfl
    rw [e0] at HA8 HD8 HWN8 hbwl hbil hnbl hkbl hW7
    generalize (w7.setCell ⟨bw, 0, none⟩ (.slice (some ⟨g7, 0, none⟩) 1 cap7)).setCell ⟨bi, 0, none⟩ (.int .i64 0) = w8 at *
    have HBWL := Lib.hid (show w.heap.size + 4 ≤ bw from HA8.out.lw)
    have HDL := Lib.hid (show (w6.heap.size) < w8.heap.size by omega)
    have HSB2 := Lib.hid (show bi < w8.heap.size ∧ bw < w8.heap.size ∧ nb < w8.heap.size ∧ kb < w8.heap.size by omega)
    clear HSZ8 u4 u4' u5 u5' HWL HA HD HA7 HD7 hDl hbwl hbil hnbl hkbl hW7 HSB7 e0
    refine range_stops (n := 9) (by omega) (gf := 71) (lb := #[.pointer (some ⟨nb, 0, none⟩), .pointer (some ⟨kb, 0, none⟩)]) rfl (enters_of Try.func71 (by kernel_rfl) rfl) rfl
      (fun t => ∃ s, t = s + 1 ∧ (∀ r, r < s → ¬ LastS N K r) ∧ LastS N K s) (RowS (w8.heap.size + 1) N K) (fun t W0 W W' v h hg => h.put hg)
      (fun t W => t ≤ 100002 ∧ W.heap[(w6.heap.size)]? = some (.deferred (some [])) ∧ ∃ wv, AgB w nb kb bw bi N K c (t : Nat) wv W ∧ Wnt W w.heap.size (Sep w nb kb bw bi w8.heap.size) wv N K t)
      (fun j W => j = .ret ∧ W.heap[(w6.heap.size)]? = some (.deferred (some [])) ∧ Below w.heap.size w W ∧ W.cell? ⟨w.heap.size + 1 + 1 + 1, 0, none⟩ = some (.bool true)) ?inv2 ?invx2 ?seq2 ⟨Nat.zero_le _, HD8.out, _, HA8.out, ⟨fun _ => HWN8.out, fun ⟨s, hs, _⟩ => absurd hs (by omega)⟩⟩ ?round2 ?done2 ?stop2
    case inv2 =>
      rintro t W W' r ⟨ht, hd, wv, h1, h2⟩ hg hr
      have hb := HSB2.out
      have hb2 := HDL.out
      have hl := h1.li
      exact ⟨ht, (hg.block (w6.heap.size) (Array.getElem?_eq_some_iff.1 hd).1 (fun e => by rcases hr (w6.heap.size) e.symm with h | h <;> omega)).trans hd, wv, h1.grown hg (fun b e => by rcases hr b e with h | h <;> (have := h1.lw; have := h1.ln; have := h1.lk; omega)), h2.grown hg (fun b e hs => by
        obtain ⟨-, -, -, -, -, -, k1, k2⟩ := hs
        rcases hr b e with h | h
        · exact k1 h
        · exact k2 h)⟩
    case invx2 =>
      rintro j W W' r ⟨rfl, hd, hbl, h1⟩ hg hr
      have hb := HSB2.out
      have hb2 := HDL.out
      have hb3 := HA8.out.lw
      exact ⟨rfl, (hg.block (w6.heap.size) (Array.getElem?_eq_some_iff.1 hd).1 (fun e => by have := hr (w6.heap.size) e.symm; omega)).trans hd, hbl.grown hg hbl.size (fun b e => by have := hr b e; omega), hg.cell h1 (fun e => by have := hr _ e.symm; have h : w.heap.size + 1 + 1 + 1 = w8.heap.size + 1 := this; omega)⟩
    case seq2 =>
      intro l J Jx W hW j1 j2 j3 j4
      refine (sets1_in 8 (by omega) nb kb N K (w8.heap.size + 2) hN hK l J Jx W hW.symm j1 (fun t W h => ?_) (fun t W0 W h1 h2 h3 h4 h5 h6 h7 => j3 t W0 W _ ⟨h1, h4, h6, rfl, h7, gb_below h5 _⟩ h2 h3) j4).mono ?_
      · obtain ⟨-, -, wv, h, -⟩ := j2 t W h
        exact ⟨h.nn, h.kk⟩
      · rintro e W' ⟨hv, (⟨t, h1, h2, h3⟩ | h)⟩
        · exact ⟨hv, Or.inl ⟨t + 1, ⟨t, rfl, h1, h2⟩, h3⟩⟩
        · exact ⟨hv, Or.inr h⟩
    case round2 =>
      intro l t v
      refine ⟨_, fun W K0 hK => by gi_wp2; exact hK, ?_⟩
      rintro W0 W ⟨ht, hD0, wv, ha0, hw0⟩ - ⟨hl, hX, hlt, rfl, hv, hgr⟩
      have hmix : Try.prog.follows .mixedOrders = true := by kernel_rfl
      have hK64 : K ≤ 64 := by omega
      have ha := ha0.grown hgr (fun b e => by cases e; have := HSB2.out; have := ha0.lw; have := ha0.ln; have := ha0.lk; omega)
      have hw := ((hw0.1 hl).sep (Sp' := fun b => Sep w nb kb bw bi w8.heap.size b ∧ b ≠ W0.heap.size) (fun b h1 h2 => ⟨h2, by omega⟩)).grown hgr (fun b e hs => by cases e; exact hs.1.2.2.2.2.2.2.1 rfl)
      have HDW := Lib.hid ((hgr.block (w6.heap.size) (by have := HDL.out; omega) (fun e => by injection e with e; have := HDL.out; omega)).trans hD0)
      clear hD0
      obtain ⟨u, g, cap, rfl, gu, hu, hsp⟩ := hw.elem
      have hXW : w8.heap.size + 2 < W.heap.size := by omega
      have HLN := Lib.hid (LikeNums_yes _ _ K (setS N K t) W hK64 (hv.read hK64) (hu.read hK64))
      obtain ⟨s0, s0'⟩ := ha.cw
      have HA := Lib.hid ha
      have HW := Lib.hid hw
      have HL := Lib.hid hl
      have HU := Lib.hid hu
      have HV := Lib.hid hv
      clear ha hw hl hu hv ha0 hw0 hgr
      gi_wp2
      refine ⟨trivial, (CallsIn.inRound l (callsIn_wide.2 HLN.out)).mono ?_⟩
      rintro e W2 ⟨rfl, hb2⟩
      have HA2 := Lib.hid (HA.out.below hb2)
      have HW2 := Lib.hid (HW.out.grown (gb_below hb2 none) (fun _ e => by cases e))
      have HU2 := Lib.hid (HU.out.below hb2)
      have HK2 := Lib.hid (Kx.below hb2 hXW)
      have HNX := Lib.hid (Next_any u K N (setS N K t) W2.drew hN hK ((HU2.out.read hK64).below (bl_drew _)) (setS_ris hK t HL.out))
      have HV2 := Lib.hid (HV.out.below hb2)
      have hlt2 := Nat.lt_of_lt_of_le hXW hb2.size
      have hgW : g < W2.heap.size := Nat.lt_of_lt_of_le (World.block_lt_of_cell? _ _ gu) hb2.size
      have hlt3 : W0.heap.size < W2.heap.size := Nat.lt_of_lt_of_le hlt hb2.size
      replace gu := cell_stays hb2 gu
      obtain ⟨s0, s0'⟩ := HA2.out.cw
      have s1 := HA2.out.cn
      clear hb2 HLN HA HW HU HV
      gi_wp2
      refine region_round (fun x => x.cell? ⟨bw, 0, none⟩ = some (.slice (some ⟨g, 0, none⟩) 1 cap) ∧ x.cell? ⟨g, 0, none⟩ = some u ∧ x.cell? ⟨w.heap.size, 0, none⟩ = some (.int .i64 N)) 5 hmix (by kernel_rfl) (by rintro ⟨a', w', h'⟩; exact h') ?_
      have hS : W2.drew.cell? ⟨bw, 0, none⟩ = some (.slice (some ⟨g, 0, none⟩) 1 cap) ∧ W2.drew.cell? ⟨g, 0, none⟩ = some u ∧ W2.drew.cell? ⟨w.heap.size, 0, none⟩ = some (.int .i64 N) := ⟨s0, gu, s1⟩
      refine anyL_take (i := 0) (v := .slice (some ⟨g, 0, none⟩) 1 cap) rfl (by kernel_rfl) (by kernel_rfl) (by kernel_rfl) (by kernel_rfl) (fun _ _ _ h => h) (Or.inl ⟨by rfl, ?_⟩) hS ?_
      · intro u hu
        obtain ⟨u1, u2, u3⟩ := hu
        go_simp
      simp only [Act.put, List.setIfInBounds_toArray, List.set_cons_zero, List.set_cons_succ]
      refine anyL_pure (i := 1) (v := .pointer (some ⟨g, 0, none⟩)) rfl (by kernel_rfl) (by kernel_rfl) (by kernel_rfl) (by kernel_rfl) (fun _ _ _ h => h) (Or.inl ⟨by rfl, ?_⟩) hS ?_
      · intro u hu
        go_simp
      simp only [Act.put, List.setIfInBounds_toArray, List.set_cons_zero, List.set_cons_succ]
      refine anyL_take (i := 2) (v := u) rfl (by kernel_rfl) (by kernel_rfl) (by kernel_rfl) (by kernel_rfl) (fun _ _ _ h => h) (Or.inl ⟨by rfl, ?_⟩) hS ?_
      · intro u hu
        obtain ⟨u1, u2, u3⟩ := hu
        go_simp
      simp only [Act.put, List.setIfInBounds_toArray, List.set_cons_zero, List.set_cons_succ]
      refine anyL_take (i := 3) (v := .int .i64 N) rfl (by kernel_rfl) (by kernel_rfl) (by kernel_rfl) (by kernel_rfl) (fun _ _ _ h => h) (Or.inl ⟨by rfl, ?_⟩) hS ?_
      · intro u hu
        obtain ⟨u1, u2, u3⟩ := hu
        go_simp
      simp only [Act.put, List.setIfInBounds_toArray, List.set_cons_zero, List.set_cons_succ]
      refine anyL_one (i := 4) (by kernel_rfl) rfl rfl fun K0 hK0 => ?_
      go_simp
      refine HNX.out.mono ?_
      rintro e W4 ⟨hb4a, hnx⟩
      have hb4 : Below W2.heap.size W2 W4 := below_via (bl_drew _) hb4a
      have HS4 := Lib.hid (show W4.cell? ⟨bw, 0, none⟩ = some (.slice (some ⟨g, 0, none⟩) 1 cap) ∧ W4.cell? ⟨g, 0, none⟩ = some u ∧ W4.cell? ⟨w.heap.size, 0, none⟩ = some (.int .i64 N) from ⟨cell_stays hb4 s0, cell_stays hb4 gu, cell_stays hb4 s1⟩)
      have HA4 := Lib.hid (HA2.out.below hb4)
      have HW4 := Lib.hid (HW2.out.grown (gb_below hb4 none) (fun _ e => by cases e))
      have HK4 := Lib.hid (HK2.out.trans (Kx.below hb4 hlt2))
      have HV4 := Lib.hid (HV2.out.below hb4)
      have HZ4 := Lib.hid hb4.size
      clear hb4a hb4 hS HNX HA2 HW2 HK2 HV2 HU2 s0 s0' gu s1
      obtain ⟨vn, rfl, hnv⟩ : ∃ vn, e = .returned vn ∧ ((hiI N K (setS N K t) K = 0 ∧ vn = .slice none 0 0) ∨ (0 < hiI N K (setS N K t) K ∧ ∃ g cap, vn = .slice (some ⟨g, 0, none⟩) K cap ∧ NumL W4 W2.heap.size (.slice (some ⟨g, 0, none⟩) K cap) K (setS N K (t + 1)))) := by
        rcases hnx with ⟨h1, rfl⟩ | ⟨h1, g, cap, rfl, h2⟩
        · exact ⟨_, rfl, Or.inl ⟨h1, rfl⟩⟩
        · exact ⟨_, rfl, Or.inr ⟨h1, g, cap, rfl, h2⟩⟩
      have HNX := Lib.hid hnv
      clear hnx hnv
      refine hK0 _ _ (fun _ => HS4.out) ?_
      clear hK0 K0
      try simp only [Act.put, List.setIfInBounds_toArray, List.set_cons_zero, List.set_cons_succ]
      refine anyL_one (i := 5) (by kernel_rfl) rfl rfl fun K0 hK0 => ?_
      go_simp
      refine hK0 _ _ (fun e => absurd e (by decide)) ?_
      clear hK0 K0
      refine anyL_done (by kernel_rfl) ?_ _
      obtain ⟨s0, s0'⟩ := HA4.out.cw
      have HA5 := Lib.hid (HA4.out.putw (.slice (some ⟨g, 0, none⟩) 0 cap))
      have HW5 := Lib.hid ((HW4.out.grown (gb_set W4 ⟨bw, 0, none⟩ (.slice (some ⟨g, 0, none⟩) 0 cap)) (fun b e hs => by cases e; exact hs.1.2.2.2.1 rfl)).cut)
      have HK5 := Lib.hid (HK4.out.trans (Kx.set W4 bw 0 (.slice (some ⟨g, 0, none⟩) 0 cap) (by have := HSB2.out; omega)))
      have HV5 := Lib.hid (show NumL (W4.setCell ⟨bw, 0, none⟩ (.slice (some ⟨g, 0, none⟩) 0 cap)) W0.heap.size _ K (setS N K t) from World.ownsRow.kept HV4.out (gb_set W4 ⟨bw, 0, none⟩ (.slice (some ⟨g, 0, none⟩) 0 cap)) (Or.inr fun e => by simp [Value.ownBlock] at e; have := HSB2.out; omega))
      have HZ5 := Lib.hid (Nat.le_trans HZ4.out (gb_set W4 ⟨bw, 0, none⟩ (.slice (some ⟨g, 0, none⟩) 0 cap)).size)
      have HNX5 := Lib.hid (show (hiI N K (setS N K t) K = 0 ∧ vn = .slice none 0 0) ∨ (0 < hiI N K (setS N K t) K ∧ ∃ g' cap', vn = .slice (some ⟨g', 0, none⟩) K cap' ∧ NumL (W4.setCell ⟨bw, 0, none⟩ (.slice (some ⟨g, 0, none⟩) 0 cap)) W2.heap.size (.slice (some ⟨g', 0, none⟩) K cap') K (setS N K (t + 1))) from by
        rcases HNX.out with h | ⟨h1, g', cap', h2, h3⟩
        · exact Or.inl h
        · exact Or.inr ⟨h1, g', cap', h2, World.ownsRow.kept h3 (gb_set W4 ⟨bw, 0, none⟩ (.slice (some ⟨g, 0, none⟩) 0 cap)) (Or.inr fun e => by
            have e1 : g' = bw := by simpa [Value.ownBlock] using e
            have e2 : W2.heap.size ≤ g' := (World.ownsRow.lt h3 g' rfl).1
            have e3 := HSB2.out.2.1
            omega)⟩)
      have HW4' := Lib.hid HW4.out
      clear HA4 HW4 HK4 HV4 HZ4 HNX HS4
      have he0 : ∀ w : World, (binOp .neq 25 (.slice none 0 0) (.slice none 0 0)).run Try.prog w = .ok (.bool false) w := fun _ => rfl
      have he1 : ∀ (g n c : Nat) (w : World), (binOp .neq 25 (.slice (some ⟨g, 0, none⟩) n c) (.slice none 0 0)).run Try.prog w = .ok (.bool true) w := fun _ _ _ _ => rfl
      have r1 := HA5.out.ck
      have r2 := HA5.out.ci
      have HRM := Lib.hid (HW4'.out.room)
      gi_upto_region 31 with fail
      generalize W4.setCell ⟨bw, 0, none⟩ (.slice (some ⟨g, 0, none⟩) 0 cap) = W5 at *
      obtain ⟨s2, s2'⟩ := HA5.out.cw
      rcases HNX5.out with ⟨hh, rfl⟩ | ⟨hh, g', cap', rfl, hn'⟩
      · have HA8 := Lib.hid HA5.out
        have HW8 := Lib.hid (wn0_next HW5.out hh)
        have HK8 := Lib.hid HK5.out
        have HV8 := Lib.hid HV5.out.cells
        clear HW5 HNX5 hh HA5 HK5 HV5 s2 s2'
        obtain ⟨s4, s4'⟩ := HA8.out.ci
        have s5 := HA8.out.cc
        have hi9 := HA8.out.puti ((t : Int) + 1)
        have s6 := hi9.cc
        obtain ⟨s7, s7'⟩ := hi9.ci
        obtain ⟨s9, s9'⟩ := hi9.cr
        have HI9 := Lib.hid hi9
        have HK10 := Lib.hid (HK8.out.trans (Kx.set W5 bi 0 (.int .i64 ((t : Int) + 1)) (by have := HSB2.out; omega)))
        have HW10 := Lib.hid ((HW8.out.grown (gb_set W5 ⟨bi, 0, none⟩ (.int .i64 ((t : Int) + 1))) (fun b e hs => by cases e; exact hs.1.2.2.2.2.1 rfl)).sep (Sp' := Sep w nb kb bw bi w8.heap.size) (fun b h => h.1))
        clear HK8 HW8 HV8 hi9
        by_cases hgt : (c : Int) < (t : Int) + 1
        · gi_wp2
          have hk := HK10.out.1.trans (KeepsOthers.setCell _ ⟨w.heap.size + 1 + 1 + 1, 0, none⟩ (.bool true))
          exact ⟨hk, rfl, hk.same _ _ HDW.out rfl, HI9.out.bel.grown (gb_set _ ⟨w.heap.size + 1 + 1 + 1, 0, none⟩ (.bool true)) HI9.out.bel.size (fun b hb => by cases hb; show w.heap.size ≤ w.heap.size + 1 + 1 + 1; omega), World.cell?_setCell_same _ _ _ s9⟩
        · have hgt' : (t : Int) + 1 ≤ (c : Int) := by omega
          gi_wp2
          exact ⟨HK10.out.1, HK10.out.2.1, by omega, HK10.out.1.same _ _ HDW.out rfl, _, HI9.out, HW10.out⟩
      · have hk0 : (0 : Int) < (K : Int) := by have := hiI_le N K (setS N K t) K; omega
        obtain ⟨i0, hi, hz0, hz1, hz2⟩ := info_parts infoNs
        have HI := Lib.hid (And.intro hi (And.intro hz0 (And.intro hz1 hz2)))
        obtain ⟨a0, c0, e0, ho, -⟩ := HW5.out
        simp only [Value.slice.injEq] at e0
        obtain ⟨rfl, -, rfl⟩ := e0
        have HO := Lib.hid (own_below ho (bl_alloc W5 (.cells #[.slice (some ⟨g', 0, none⟩) K cap'] 25)))
        have HN5 := Lib.hid hn'
        have HOO := Lib.hid ho
        have HST := Lib.hid (fun (W7 : World) (k1 : W7.ownsRow w.heap.size 25 1 (.slice (some ⟨g, 0, none⟩) (0 + 1) cap) (0 + 1) ([] ++ [.slice (some ⟨g', 0, none⟩) K cap'])) (k2 : (W5.alloc (.cells #[.slice (some ⟨g', 0, none⟩) K cap'] 25)).grownBy W7 (some g)) =>
          (show AgB w nb kb bw bi N K c (t : Nat) (.slice (some ⟨g, 0, none⟩) 0 cap) W7 ∧ Wn1 W7 w.heap.size (fun b => Sep w nb kb bw bi w8.heap.size b ∧ b ≠ W0.heap.size) (.slice (some ⟨g, 0, none⟩) 1 cap) K (setS N K (t + 1)) ∧ Kx (w8.heap.size + 2) W W7 ∧ NumL W7 W0.heap.size (.slice (some ⟨W0.heap.size, 0, none⟩) K K) K (setS N K t) from by
            have gb : W5.grownBy W7 (some g) := gb_trans (gb_below (bl_alloc W5 _) _) k2
            have hb1 := HSB2.out
            have hb2 := HA5.out.lw
            have hb3 := HA5.out.ln
            have hb4 := HA5.out.lk
            have hb5 := HA5.out.bel.size
            have hb6 := HZ5.out
            refine ⟨HA5.out.grown gb (fun b e => by cases e; exact ⟨hsp.1.1, hsp.1.2.1, hsp.1.2.2.1, hsp.1.2.2.2.1, hsp.1.2.2.2.2.1⟩), wn1_push HN5.out (by omega) hsp (fun b h1 h2 => ⟨⟨by omega, by omega, by omega, by omega, by omega, by omega, by omega, by omega⟩, by omega⟩) hgW k1 k2, HK5.out.trans ⟨KeepsOthers.of_grownBy gb (rowc_cells HOO.out), gb.block _ (by omega) (fun e => by cases e; exact hsp.1.2.2.2.2.2.2.2 rfl), gb.size⟩, World.ownsRow.kept HV5.out gb (Or.inr fun e => by simp [Value.ownBlock] at e; exact hsp.2 e.symm)⟩))
        clear hi hz0 hz1 hz2 ho hn' HW5 HNX5
        gi_upto_region 33 with (gi_at_builtin; refine wpListIn_append_fits _ (by rfl) _ _ 52 (by rfl) w.heap.size 25 i0 1 Try.underlying52 HI.out.1 HI.out.2.2.1 g 0 cap [] (by rfl) HO.out ⟨W5.heap.size, 0, none⟩ 1 1 [.slice (some ⟨g', 0, none⟩) K cap'] (by rfl) (by simp) (news_one _ _ _) (one_one rfl) HRM.out ?_; intro W7 k1 k2; have HKK := Lib.hid (HST.out W7 k1 k2); obtain ⟨t0, t0'⟩ := HKK.out.1.cw; clear k1 k2)
        have HA8 := Lib.hid (HKK.out.1.putw (.slice (some ⟨g, 0, none⟩) 1 cap))
        have HW8 := Lib.hid (wn1_next (HKK.out.2.1.grown (gb_set W7 ⟨bw, 0, none⟩ (.slice (some ⟨g, 0, none⟩) 1 cap)) (fun b e hs => by cases e; exact hs.1.2.2.2.1 rfl)) HL.out hh)
        have HK8 := Lib.hid (HKK.out.2.2.1.trans (Kx.set W7 bw 0 (.slice (some ⟨g, 0, none⟩) 1 cap) (by have := HSB2.out; omega)))
        have HV8 := Lib.hid (show RowAt .i64 (W7.setCell ⟨bw, 0, none⟩ (.slice (some ⟨g, 0, none⟩) 1 cap)) W0.heap.size 0 K (fun i => ((setS N K t i : Nat) : Int)) from HKK.out.2.2.2.cells.other (a := ⟨bw, 0, none⟩) (by have := HSB2.out; show bw ≠ W0.heap.size; omega) _)
        generalize W7.setCell ⟨bw, 0, none⟩ (.slice (some ⟨g, 0, none⟩) 1 cap) = W8 at *
        clear HKK HST HI HO HOO HN5 HA5 HK5 HV5 s2 s2' t0 t0' hk0
        obtain ⟨s4, s4'⟩ := HA8.out.ci
        have s5 := HA8.out.cc
        have hi9 := HA8.out.puti ((t : Int) + 1)
        have s6 := hi9.cc
        obtain ⟨s7, s7'⟩ := hi9.ci
        obtain ⟨s9, s9'⟩ := hi9.cr
        have HI9 := Lib.hid hi9
        have HK10 := Lib.hid (HK8.out.trans (Kx.set W8 bi 0 (.int .i64 ((t : Int) + 1)) (by have := HSB2.out; omega)))
        have HW10 := Lib.hid ((HW8.out.grown (gb_set W8 ⟨bi, 0, none⟩ (.int .i64 ((t : Int) + 1))) (fun b e hs => by cases e; exact hs.1.2.2.2.2.1 rfl)).sep (Sp' := Sep w nb kb bw bi w8.heap.size) (fun b h => h.1))
        clear HK8 HW8 HV8 hi9
        by_cases hgt : (c : Int) < (t : Int) + 1
        · gi_wp2
          have hk := HK10.out.1.trans (KeepsOthers.setCell _ ⟨w.heap.size + 1 + 1 + 1, 0, none⟩ (.bool true))
          exact ⟨hk, rfl, hk.same _ _ HDW.out rfl, HI9.out.bel.grown (gb_set _ ⟨w.heap.size + 1 + 1 + 1, 0, none⟩ (.bool true)) HI9.out.bel.size (fun b hb => by cases hb; show w.heap.size ≤ w.heap.size + 1 + 1 + 1; omega), World.cell?_setCell_same _ _ _ s9⟩
        · have hgt' : (t : Int) + 1 ≤ (c : Int) := by omega
          gi_wp2
          exact ⟨HK10.out.1, HK10.out.2.1, by omega, HK10.out.1.same _ _ HDW.out rfl, _, HI9.out, HW10.out⟩
    case done2 =>
      rintro D2 t W rfl ⟨s, rfl, -, hlast⟩ ⟨-, hd, wv, ha, hw⟩ hd2
      obtain ⟨a0, c0, rfl, -, -⟩ := hw.2 ⟨s, by omega, hlast⟩
      obtain ⟨v0, -⟩ := ha.cw
      obtain ⟨v1, v1'⟩ := ha.cr
      have HA9 := Lib.hid ha
      have HDD := Lib.hid (And.intro hd hd2)
      clear ha hw hd hd2
      gi_wp2
      have hk9 := KeepsOthers.setCell W ⟨w.heap.size + 1 + 1 + 1, 0, none⟩ (.bool true)
      have hdA := hk9.same _ _ HDD.out.1 rfl
      have hdB := hk9.same _ _ HDD.out.2 rfl
      have hcA := World.cell?_setCell_same W _ (Value.bool true) v1
      have hbA := HA9.out.bel.grown (gb_set W ⟨w.heap.size + 1 + 1 + 1, 0, none⟩ (.bool true)) HA9.out.bel.size (fun b hb => by cases hb; show w.heap.size ≤ w.heap.size + 1 + 1 + 1; omega)
      have gq := grownBy_putObj' (W.setCell ⟨w.heap.size + 1 + 1 + 1, 0, none⟩ (.bool true)) w8.heap.size (.deferred none)
      have hd3 : (((W.setCell ⟨w.heap.size + 1 + 1 + 1, 0, none⟩ (.bool true))).putObj w8.heap.size (.deferred none)).heap[w6.heap.size]? = some (.deferred (some [])) := (World.putObj_heap_other (by have := HDL.out; omega)).trans hdA
      have gq2 := grownBy_putObj' (((W.setCell ⟨w.heap.size + 1 + 1 + 1, 0, none⟩ (.bool true))).putObj w8.heap.size (.deferred none)) w6.heap.size (.deferred none)
      have hbr : w.heap.size + 1 + 1 + 1 < w6.heap.size := by have := HSB.out; have := HBWL.out; omega
      have hc5 := gq2.cell (gq.cell hcA (by intro e; injection e with e; have h : w.heap.size + 1 + 1 + 1 = w8.heap.size := e; have := HDL.out; omega)) (by intro e; injection e with e; have h : w.heap.size + 1 + 1 + 1 = w6.heap.size := e; omega)
      have hbA2 := (hbA.grown gq hbA.size (fun b e => by cases e; have := HDL.out; omega)).grown gq2 (hbA.grown gq hbA.size (fun b e => by cases e; have := HDL.out; omega)).size (fun b e => by cases e; omega)
      refine ⟨by simp, .inl ⟨_, _, rfl, run_takeDeferred hdB, by simp, .inl ⟨_, _, rfl, run_takeDeferred hd3, ?_⟩⟩⟩
      refine ⟨.bool true, ?_, rfl, hbA2⟩
      simp [results, Try.results6, go_sem, hc5]
    case stop2 =>
      rintro D2 j W rfl ⟨rfl, hd, hbl, hc1⟩ hd2
      gi_wp2
      have hdA := hd
      have hdB := hd2
      have hcA := hc1
      have hbA := hbl
      have gq := grownBy_putObj' W w8.heap.size (.deferred none)
      have hd3 : ((W).putObj w8.heap.size (.deferred none)).heap[w6.heap.size]? = some (.deferred (some [])) := (World.putObj_heap_other (by have := HDL.out; omega)).trans hdA
      have gq2 := grownBy_putObj' ((W).putObj w8.heap.size (.deferred none)) w6.heap.size (.deferred none)
      have hbr : w.heap.size + 1 + 1 + 1 < w6.heap.size := by have := HSB.out; have := HBWL.out; omega
      have hc5 := gq2.cell (gq.cell hcA (by intro e; injection e with e; have h : w.heap.size + 1 + 1 + 1 = w8.heap.size := e; have := HDL.out; omega)) (by intro e; injection e with e; have h : w.heap.size + 1 + 1 + 1 = w6.heap.size := e; omega)
      have hbA2 := (hbA.grown gq hbA.size (fun b e => by cases e; have := HDL.out; omega)).grown gq2 (hbA.grown gq hbA.size (fun b e => by cases e; have := HDL.out; omega)).size (fun b e => by cases e; omega)
      refine ⟨by simp, .inl ⟨_, _, rfl, run_takeDeferred hdB, by simp, .inl ⟨_, _, rfl, run_takeDeferred hd3, ?_⟩⟩⟩
      refine ⟨.bool true, ?_, rfl, hbA2⟩
      simp [results, Try.results6, go_sem, hc5]
  case stop =>
    rintro D j W rfl ⟨rfl, i, wv, ha⟩ hD
    have hDl : (w6.heap.size) < W.heap.size := (Array.getElem?_eq_some_iff.1 hD).1
    obtain ⟨u0, u0'⟩ := ha.cw
    obtain ⟨u1, u1'⟩ := ha.ci
    have u2 := ha.cn
    have u3 := ha.ck
    have HA := Lib.hid ha
    have HD := Lib.hid hD
    clear ha hD
    gi_wp2
    refine ⟨trivial, (callsIn_wide.2 (Some_good K N W hN hK)).mono ?_⟩
    rintro e w7 ⟨hb7, g7, cap7, rfl, hwl7⟩
    have HA7 := Lib.hid (HA.out.below hb7)
    have HD7 := Lib.hid ((hb7.block (w6.heap.size) hDl).trans HD.out)
    have hA8 := (HA7.out.putw (.slice (some ⟨g7, 0, none⟩) 1 cap7)).puti ((0 : Nat) : Int)
    have hk8 := (KeepsOthers.setCell w7 ⟨bw, 0, none⟩ (.slice (some ⟨g7, 0, none⟩) 1 cap7)).trans (KeepsOthers.setCell _ ⟨bi, 0, none⟩ (.int .i64 ((0 : Nat) : Int)))
    have HA8 := Lib.hid hA8
    have HD8 := Lib.hid (hk8.same _ _ HD7.out rfl)
    have hW7 := hb7.size
    have hsz8 : w7.heap.size = ((w7.setCell ⟨bw, 0, none⟩ (.slice (some ⟨g7, 0, none⟩) 1 cap7)).setCell ⟨bi, 0, none⟩ (.int .i64 ((0 : Nat) : Int))).heap.size := by simp [World.setCell]
    obtain ⟨u4, u4'⟩ := HA7.out.cw
    obtain ⟨u5, u5'⟩ := (HA7.out.putw (.slice (some ⟨g7, 0, none⟩) 1 cap7)).ci
    have HWL := Lib.hid hwl7
    have hbwl : bw < w7.heap.size := World.block_lt_of_cell? _ _ u4
    have hbil : bi < w7.heap.size := by have := World.block_lt_of_cell? _ _ HA7.out.ci.1; exact this
    have hnbl : nb < w7.heap.size := by have := World.block_lt_of_cell? _ _ HA7.out.nn; exact this
    have hkbl : kb < w7.heap.size := by have := World.block_lt_of_cell? _ _ HA7.out.kk; exact this
    have HSB7 := Lib.hid (show bi < W.heap.size ∧ bw < W.heap.size ∧ nb < W.heap.size ∧ kb < W.heap.size from ⟨World.block_lt_of_cell? _ _ u1, World.block_lt_of_cell? _ _ u0, World.block_lt_of_cell? _ _ HA.out.nn, World.block_lt_of_cell? _ _ HA.out.kk⟩)
    have HSZ8 := Lib.hid hsz8
    clear hb7 hwl7 hA8 hk8 hsz8 u0 u0' u1 u1' u2 u3
    gi_wp2
    have HWN8 := Lib.hid (show Wn1 ((w7.setCell ⟨bw, 0, none⟩ (.slice (some ⟨g7, 0, none⟩) 1 cap7)).setCell ⟨bi, 0, none⟩ (.int .i64 ((0 : Nat) : Int))) w.heap.size (Sep w nb kb bw bi w7.heap.size) (.slice (some ⟨g7, 0, none⟩) 1 cap7) K (setS N K 0) from
      ((wn1_start HWL.out (Below.refl _ _) (by have := HA.out.bel.size; omega) (fun b h1 h2 => ⟨by have := HSB7.out; have := HA.out.lw; omega, by have := HSB7.out; omega, by have := HSB7.out; omega, by have := HSB7.out; omega, by have := HSB7.out; omega, by omega, by omega, by omega⟩)).grown (gb_set _ _ _) (fun b e hs => by cases e; exact hs.2.2.2.1 rfl)).grown (gb_set _ _ _) (fun b e hs => by cases e; exact hs.2.2.2.2.1 rfl))
    rw [HSZ8.out] at HWN8 hbwl hbil hnbl hkbl hW7
    have e0 : (Value.int IntKind.i64 ((0 : Nat) : Int)) = Value.int IntKind.i64 0 := rfl
    rw [e0] at HA8 HD8 HWN8 hbwl hbil hnbl hkbl hW7
    generalize (w7.setCell ⟨bw, 0, none⟩ (.slice (some ⟨g7, 0, none⟩) 1 cap7)).setCell ⟨bi, 0, none⟩ (.int .i64 0) = w8 at *
    have HBWL := Lib.hid (show w.heap.size + 4 ≤ bw from HA8.out.lw)
    have HDL := Lib.hid (show (w6.heap.size) < w8.heap.size by omega)
    have HSB2 := Lib.hid (show bi < w8.heap.size ∧ bw < w8.heap.size ∧ nb < w8.heap.size ∧ kb < w8.heap.size by omega)
    clear HSZ8 u4 u4' u5 u5' HWL HA HD HA7 HD7 hDl hbwl hbil hnbl hkbl hW7 HSB7 e0
    refine range_stops (n := 9) (by omega) (gf := 71) (lb := #[.pointer (some ⟨nb, 0, none⟩), .pointer (some ⟨kb, 0, none⟩)]) rfl (enters_of Try.func71 (by kernel_rfl) rfl) rfl
      (fun t => ∃ s, t = s + 1 ∧ (∀ r, r < s → ¬ LastS N K r) ∧ LastS N K s) (RowS (w8.heap.size + 1) N K) (fun t W0 W W' v h hg => h.put hg)
      (fun t W => t ≤ 100002 ∧ W.heap[(w6.heap.size)]? = some (.deferred (some [])) ∧ ∃ wv, AgB w nb kb bw bi N K c (t : Nat) wv W ∧ Wnt W w.heap.size (Sep w nb kb bw bi w8.heap.size) wv N K t)
      (fun j W => j = .ret ∧ W.heap[(w6.heap.size)]? = some (.deferred (some [])) ∧ Below w.heap.size w W ∧ W.cell? ⟨w.heap.size + 1 + 1 + 1, 0, none⟩ = some (.bool true)) ?inv2 ?invx2 ?seq2 ⟨Nat.zero_le _, HD8.out, _, HA8.out, ⟨fun _ => HWN8.out, fun ⟨s, hs, _⟩ => absurd hs (by omega)⟩⟩ ?round2 ?done2 ?stop2
    case inv2 =>
      rintro t W W' r ⟨ht, hd, wv, h1, h2⟩ hg hr
      have hb := HSB2.out
      have hb2 := HDL.out
      have hl := h1.li
      exact ⟨ht, (hg.block (w6.heap.size) (Array.getElem?_eq_some_iff.1 hd).1 (fun e => by rcases hr (w6.heap.size) e.symm with h | h <;> omega)).trans hd, wv, h1.grown hg (fun b e => by rcases hr b e with h | h <;> (have := h1.lw; have := h1.ln; have := h1.lk; omega)), h2.grown hg (fun b e hs => by
        obtain ⟨-, -, -, -, -, -, k1, k2⟩ := hs
        rcases hr b e with h | h
        · exact k1 h
        · exact k2 h)⟩
    case invx2 =>
      rintro j W W' r ⟨rfl, hd, hbl, h1⟩ hg hr
      have hb := HSB2.out
      have hb2 := HDL.out
      have hb3 := HA8.out.lw
      exact ⟨rfl, (hg.block (w6.heap.size) (Array.getElem?_eq_some_iff.1 hd).1 (fun e => by have := hr (w6.heap.size) e.symm; omega)).trans hd, hbl.grown hg hbl.size (fun b e => by have := hr b e; omega), hg.cell h1 (fun e => by have := hr _ e.symm; have h : w.heap.size + 1 + 1 + 1 = w8.heap.size + 1 := this; omega)⟩
    case seq2 =>
      intro l J Jx W hW j1 j2 j3 j4
      refine (sets1_in 8 (by omega) nb kb N K (w8.heap.size + 2) hN hK l J Jx W hW.symm j1 (fun t W h => ?_) (fun t W0 W h1 h2 h3 h4 h5 h6 h7 => j3 t W0 W _ ⟨h1, h4, h6, rfl, h7, gb_below h5 _⟩ h2 h3) j4).mono ?_
      · obtain ⟨-, -, wv, h, -⟩ := j2 t W h
        exact ⟨h.nn, h.kk⟩
      · rintro e W' ⟨hv, (⟨t, h1, h2, h3⟩ | h)⟩
        · exact ⟨hv, Or.inl ⟨t + 1, ⟨t, rfl, h1, h2⟩, h3⟩⟩
        · exact ⟨hv, Or.inr h⟩
    case round2 =>
      intro l t v
      refine ⟨_, fun W K0 hK => by gi_wp2; exact hK, ?_⟩
      rintro W0 W ⟨ht, hD0, wv, ha0, hw0⟩ - ⟨hl, hX, hlt, rfl, hv, hgr⟩
      have hmix : Try.prog.follows .mixedOrders = true := by kernel_rfl
      have hK64 : K ≤ 64 := by omega
      have ha := ha0.grown hgr (fun b e => by cases e; have := HSB2.out; have := ha0.lw; have := ha0.ln; have := ha0.lk; omega)
      have hw := ((hw0.1 hl).sep (Sp' := fun b => Sep w nb kb bw bi w8.heap.size b ∧ b ≠ W0.heap.size) (fun b h1 h2 => ⟨h2, by omega⟩)).grown hgr (fun b e hs => by cases e; exact hs.1.2.2.2.2.2.2.1 rfl)
      have HDW := Lib.hid ((hgr.block (w6.heap.size) (by have := HDL.out; omega) (fun e => by injection e with e; have := HDL.out; omega)).trans hD0)
      clear hD0
      obtain ⟨u, g, cap, rfl, gu, hu, hsp⟩ := hw.elem
      have hXW : w8.heap.size + 2 < W.heap.size := by omega
      have HLN := Lib.hid (LikeNums_yes _ _ K (setS N K t) W hK64 (hv.read hK64) (hu.read hK64))
      obtain ⟨s0, s0'⟩ := ha.cw
      have HA := Lib.hid ha
      have HW := Lib.hid hw
      have HL := Lib.hid hl
      have HU := Lib.hid hu
      have HV := Lib.hid hv
      clear ha hw hl hu hv ha0 hw0 hgr
      gi_wp2
      refine ⟨trivial, (CallsIn.inRound l (callsIn_wide.2 HLN.out)).mono ?_⟩
      rintro e W2 ⟨rfl, hb2⟩
      have HA2 := Lib.hid (HA.out.below hb2)
      have HW2 := Lib.hid (HW.out.grown (gb_below hb2 none) (fun _ e => by cases e))
      have HU2 := Lib.hid (HU.out.below hb2)
      have HK2 := Lib.hid (Kx.below hb2 hXW)
      have HNX := Lib.hid (Next_any u K N (setS N K t) W2.drew hN hK ((HU2.out.read hK64).below (bl_drew _)) (setS_ris hK t HL.out))
      have HV2 := Lib.hid (HV.out.below hb2)
      have hlt2 := Nat.lt_of_lt_of_le hXW hb2.size
      have hgW : g < W2.heap.size := Nat.lt_of_lt_of_le (World.block_lt_of_cell? _ _ gu) hb2.size
      have hlt3 : W0.heap.size < W2.heap.size := Nat.lt_of_lt_of_le hlt hb2.size
      replace gu := cell_stays hb2 gu
      obtain ⟨s0, s0'⟩ := HA2.out.cw
      have s1 := HA2.out.cn
      clear hb2 HLN HA HW HU HV
      gi_wp2
      refine region_round (fun x => x.cell? ⟨bw, 0, none⟩ = some (.slice (some ⟨g, 0, none⟩) 1 cap) ∧ x.cell? ⟨g, 0, none⟩ = some u ∧ x.cell? ⟨w.heap.size, 0, none⟩ = some (.int .i64 N)) 5 hmix (by kernel_rfl) (by rintro ⟨a', w', h'⟩; exact h') ?_
      have hS : W2.drew.cell? ⟨bw, 0, none⟩ = some (.slice (some ⟨g, 0, none⟩) 1 cap) ∧ W2.drew.cell? ⟨g, 0, none⟩ = some u ∧ W2.drew.cell? ⟨w.heap.size, 0, none⟩ = some (.int .i64 N) := ⟨s0, gu, s1⟩
      refine anyL_take (i := 0) (v := .slice (some ⟨g, 0, none⟩) 1 cap) rfl (by kernel_rfl) (by kernel_rfl) (by kernel_rfl) (by kernel_rfl) (fun _ _ _ h => h) (Or.inl ⟨by rfl, ?_⟩) hS ?_
      · intro u hu
        obtain ⟨u1, u2, u3⟩ := hu
        go_simp
      simp only [Act.put, List.setIfInBounds_toArray, List.set_cons_zero, List.set_cons_succ]
      refine anyL_pure (i := 1) (v := .pointer (some ⟨g, 0, none⟩)) rfl (by kernel_rfl) (by kernel_rfl) (by kernel_rfl) (by kernel_rfl) (fun _ _ _ h => h) (Or.inl ⟨by rfl, ?_⟩) hS ?_
      · intro u hu
        go_simp
      simp only [Act.put, List.setIfInBounds_toArray, List.set_cons_zero, List.set_cons_succ]
      refine anyL_take (i := 2) (v := u) rfl (by kernel_rfl) (by kernel_rfl) (by kernel_rfl) (by kernel_rfl) (fun _ _ _ h => h) (Or.inl ⟨by rfl, ?_⟩) hS ?_
      · intro u hu
        obtain ⟨u1, u2, u3⟩ := hu
        go_simp
      simp only [Act.put, List.setIfInBounds_toArray, List.set_cons_zero, List.set_cons_succ]
      refine anyL_take (i := 3) (v := .int .i64 N) rfl (by kernel_rfl) (by kernel_rfl) (by kernel_rfl) (by kernel_rfl) (fun _ _ _ h => h) (Or.inl ⟨by rfl, ?_⟩) hS ?_
      · intro u hu
        obtain ⟨u1, u2, u3⟩ := hu
        go_simp
      simp only [Act.put, List.setIfInBounds_toArray, List.set_cons_zero, List.set_cons_succ]
      refine anyL_one (i := 4) (by kernel_rfl) rfl rfl fun K0 hK0 => ?_
      go_simp
      refine HNX.out.mono ?_
      rintro e W4 ⟨hb4a, hnx⟩
      have hb4 : Below W2.heap.size W2 W4 := below_via (bl_drew _) hb4a
      have HS4 := Lib.hid (show W4.cell? ⟨bw, 0, none⟩ = some (.slice (some ⟨g, 0, none⟩) 1 cap) ∧ W4.cell? ⟨g, 0, none⟩ = some u ∧ W4.cell? ⟨w.heap.size, 0, none⟩ = some (.int .i64 N) from ⟨cell_stays hb4 s0, cell_stays hb4 gu, cell_stays hb4 s1⟩)
      have HA4 := Lib.hid (HA2.out.below hb4)
      have HW4 := Lib.hid (HW2.out.grown (gb_below hb4 none) (fun _ e => by cases e))
      have HK4 := Lib.hid (HK2.out.trans (Kx.below hb4 hlt2))
      have HV4 := Lib.hid (HV2.out.below hb4)
      have HZ4 := Lib.hid hb4.size
      clear hb4a hb4 hS HNX HA2 HW2 HK2 HV2 HU2 s0 s0' gu s1
      obtain ⟨vn, rfl, hnv⟩ : ∃ vn, e = .returned vn ∧ ((hiI N K (setS N K t) K = 0 ∧ vn = .slice none 0 0) ∨ (0 < hiI N K (setS N K t) K ∧ ∃ g cap, vn = .slice (some ⟨g, 0, none⟩) K cap ∧ NumL W4 W2.heap.size (.slice (some ⟨g, 0, none⟩) K cap) K (setS N K (t + 1)))) := by
        rcases hnx with ⟨h1, rfl⟩ | ⟨h1, g, cap, rfl, h2⟩
        · exact ⟨_, rfl, Or.inl ⟨h1, rfl⟩⟩
        · exact ⟨_, rfl, Or.inr ⟨h1, g, cap, rfl, h2⟩⟩
      have HNX := Lib.hid hnv
      clear hnx hnv
      refine hK0 _ _ (fun _ => HS4.out) ?_
      clear hK0 K0
      try simp only [Act.put, List.setIfInBounds_toArray, List.set_cons_zero, List.set_cons_succ]
      refine anyL_one (i := 5) (by kernel_rfl) rfl rfl fun K0 hK0 => ?_
      go_simp
      refine hK0 _ _ (fun e => absurd e (by decide)) ?_
      clear hK0 K0
      refine anyL_done (by kernel_rfl) ?_ _
      obtain ⟨s0, s0'⟩ := HA4.out.cw
      have HA5 := Lib.hid (HA4.out.putw (.slice (some ⟨g, 0, none⟩) 0 cap))
      have HW5 := Lib.hid ((HW4.out.grown (gb_set W4 ⟨bw, 0, none⟩ (.slice (some ⟨g, 0, none⟩) 0 cap)) (fun b e hs => by cases e; exact hs.1.2.2.2.1 rfl)).cut)
      have HK5 := Lib.hid (HK4.out.trans (Kx.set W4 bw 0 (.slice (some ⟨g, 0, none⟩) 0 cap) (by have := HSB2.out; omega)))
      have HV5 := Lib.hid (show NumL (W4.setCell ⟨bw, 0, none⟩ (.slice (some ⟨g, 0, none⟩) 0 cap)) W0.heap.size _ K (setS N K t) from World.ownsRow.kept HV4.out (gb_set W4 ⟨bw, 0, none⟩ (.slice (some ⟨g, 0, none⟩) 0 cap)) (Or.inr fun e => by simp [Value.ownBlock] at e; have := HSB2.out; omega))
      have HZ5 := Lib.hid (Nat.le_trans HZ4.out (gb_set W4 ⟨bw, 0, none⟩ (.slice (some ⟨g, 0, none⟩) 0 cap)).size)
      have HNX5 := Lib.hid (show (hiI N K (setS N K t) K = 0 ∧ vn = .slice none 0 0) ∨ (0 < hiI N K (setS N K t) K ∧ ∃ g' cap', vn = .slice (some ⟨g', 0, none⟩) K cap' ∧ NumL (W4.setCell ⟨bw, 0, none⟩ (.slice (some ⟨g, 0, none⟩) 0 cap)) W2.heap.size (.slice (some ⟨g', 0, none⟩) K cap') K (setS N K (t + 1))) from by
        rcases HNX.out with h | ⟨h1, g', cap', h2, h3⟩
        · exact Or.inl h
        · exact Or.inr ⟨h1, g', cap', h2, World.ownsRow.kept h3 (gb_set W4 ⟨bw, 0, none⟩ (.slice (some ⟨g, 0, none⟩) 0 cap)) (Or.inr fun e => by
            have e1 : g' = bw := by simpa [Value.ownBlock] using e
            have e2 : W2.heap.size ≤ g' := (World.ownsRow.lt h3 g' rfl).1
            have e3 := HSB2.out.2.1
            omega)⟩)
      have HW4' := Lib.hid HW4.out
      clear HA4 HW4 HK4 HV4 HZ4 HNX HS4
      have he0 : ∀ w : World, (binOp .neq 25 (.slice none 0 0) (.slice none 0 0)).run Try.prog w = .ok (.bool false) w := fun _ => rfl
      have he1 : ∀ (g n c : Nat) (w : World), (binOp .neq 25 (.slice (some ⟨g, 0, none⟩) n c) (.slice none 0 0)).run Try.prog w = .ok (.bool true) w := fun _ _ _ _ => rfl
      have r1 := HA5.out.ck
      have r2 := HA5.out.ci
      have HRM := Lib.hid (HW4'.out.room)
      gi_upto_region 31 with fail
      generalize W4.setCell ⟨bw, 0, none⟩ (.slice (some ⟨g, 0, none⟩) 0 cap) = W5 at *
      obtain ⟨s2, s2'⟩ := HA5.out.cw
      rcases HNX5.out with ⟨hh, rfl⟩ | ⟨hh, g', cap', rfl, hn'⟩
      · have HA8 := Lib.hid HA5.out
        have HW8 := Lib.hid (wn0_next HW5.out hh)
        have HK8 := Lib.hid HK5.out
        have HV8 := Lib.hid HV5.out.cells
        clear HW5 HNX5 hh HA5 HK5 HV5 s2 s2'
        obtain ⟨s4, s4'⟩ := HA8.out.ci
        have s5 := HA8.out.cc
        have hi9 := HA8.out.puti ((t : Int) + 1)
        have s6 := hi9.cc
        obtain ⟨s7, s7'⟩ := hi9.ci
        obtain ⟨s9, s9'⟩ := hi9.cr
        have HI9 := Lib.hid hi9
        have HK10 := Lib.hid (HK8.out.trans (Kx.set W5 bi 0 (.int .i64 ((t : Int) + 1)) (by have := HSB2.out; omega)))
        have HW10 := Lib.hid ((HW8.out.grown (gb_set W5 ⟨bi, 0, none⟩ (.int .i64 ((t : Int) + 1))) (fun b e hs => by cases e; exact hs.1.2.2.2.2.1 rfl)).sep (Sp' := Sep w nb kb bw bi w8.heap.size) (fun b h => h.1))
        clear HK8 HW8 HV8 hi9
        by_cases hgt : (c : Int) < (t : Int) + 1
        · gi_wp2
          have hk := HK10.out.1.trans (KeepsOthers.setCell _ ⟨w.heap.size + 1 + 1 + 1, 0, none⟩ (.bool true))
          exact ⟨hk, rfl, hk.same _ _ HDW.out rfl, HI9.out.bel.grown (gb_set _ ⟨w.heap.size + 1 + 1 + 1, 0, none⟩ (.bool true)) HI9.out.bel.size (fun b hb => by cases hb; show w.heap.size ≤ w.heap.size + 1 + 1 + 1; omega), World.cell?_setCell_same _ _ _ s9⟩
        · have hgt' : (t : Int) + 1 ≤ (c : Int) := by omega
          gi_wp2
          exact ⟨HK10.out.1, HK10.out.2.1, by omega, HK10.out.1.same _ _ HDW.out rfl, _, HI9.out, HW10.out⟩
      · have hk0 : (0 : Int) < (K : Int) := by have := hiI_le N K (setS N K t) K; omega
        obtain ⟨i0, hi, hz0, hz1, hz2⟩ := info_parts infoNs
        have HI := Lib.hid (And.intro hi (And.intro hz0 (And.intro hz1 hz2)))
        obtain ⟨a0, c0, e0, ho, -⟩ := HW5.out
        simp only [Value.slice.injEq] at e0
        obtain ⟨rfl, -, rfl⟩ := e0
        have HO := Lib.hid (own_below ho (bl_alloc W5 (.cells #[.slice (some ⟨g', 0, none⟩) K cap'] 25)))
        have HN5 := Lib.hid hn'
        have HOO := Lib.hid ho
        have HST := Lib.hid (fun (W7 : World) (k1 : W7.ownsRow w.heap.size 25 1 (.slice (some ⟨g, 0, none⟩) (0 + 1) cap) (0 + 1) ([] ++ [.slice (some ⟨g', 0, none⟩) K cap'])) (k2 : (W5.alloc (.cells #[.slice (some ⟨g', 0, none⟩) K cap'] 25)).grownBy W7 (some g)) =>
          (show AgB w nb kb bw bi N K c (t : Nat) (.slice (some ⟨g, 0, none⟩) 0 cap) W7 ∧ Wn1 W7 w.heap.size (fun b => Sep w nb kb bw bi w8.heap.size b ∧ b ≠ W0.heap.size) (.slice (some ⟨g, 0, none⟩) 1 cap) K (setS N K (t + 1)) ∧ Kx (w8.heap.size + 2) W W7 ∧ NumL W7 W0.heap.size (.slice (some ⟨W0.heap.size, 0, none⟩) K K) K (setS N K t) from by
            have gb : W5.grownBy W7 (some g) := gb_trans (gb_below (bl_alloc W5 _) _) k2
            have hb1 := HSB2.out
            have hb2 := HA5.out.lw
            have hb3 := HA5.out.ln
            have hb4 := HA5.out.lk
            have hb5 := HA5.out.bel.size
            have hb6 := HZ5.out
            refine ⟨HA5.out.grown gb (fun b e => by cases e; exact ⟨hsp.1.1, hsp.1.2.1, hsp.1.2.2.1, hsp.1.2.2.2.1, hsp.1.2.2.2.2.1⟩), wn1_push HN5.out (by omega) hsp (fun b h1 h2 => ⟨⟨by omega, by omega, by omega, by omega, by omega, by omega, by omega, by omega⟩, by omega⟩) hgW k1 k2, HK5.out.trans ⟨KeepsOthers.of_grownBy gb (rowc_cells HOO.out), gb.block _ (by omega) (fun e => by cases e; exact hsp.1.2.2.2.2.2.2.2 rfl), gb.size⟩, World.ownsRow.kept HV5.out gb (Or.inr fun e => by simp [Value.ownBlock] at e; exact hsp.2 e.symm)⟩))
        clear hi hz0 hz1 hz2 ho hn' HW5 HNX5
        gi_upto_region 33 with (gi_at_builtin; refine wpListIn_append_fits _ (by rfl) _ _ 52 (by rfl) w.heap.size 25 i0 1 Try.underlying52 HI.out.1 HI.out.2.2.1 g 0 cap [] (by rfl) HO.out ⟨W5.heap.size, 0, none⟩ 1 1 [.slice (some ⟨g', 0, none⟩) K cap'] (by rfl) (by simp) (news_one _ _ _) (one_one rfl) HRM.out ?_; intro W7 k1 k2; have HKK := Lib.hid (HST.out W7 k1 k2); obtain ⟨t0, t0'⟩ := HKK.out.1.cw; clear k1 k2)
        have HA8 := Lib.hid (HKK.out.1.putw (.slice (some ⟨g, 0, none⟩) 1 cap))
        have HW8 := Lib.hid (wn1_next (HKK.out.2.1.grown (gb_set W7 ⟨bw, 0, none⟩ (.slice (some ⟨g, 0, none⟩) 1 cap)) (fun b e hs => by cases e; exact hs.1.2.2.2.1 rfl)) HL.out hh)
        have HK8 := Lib.hid (HKK.out.2.2.1.trans (Kx.set W7 bw 0 (.slice (some ⟨g, 0, none⟩) 1 cap) (by have := HSB2.out; omega)))
        have HV8 := Lib.hid (show RowAt .i64 (W7.setCell ⟨bw, 0, none⟩ (.slice (some ⟨g, 0, none⟩) 1 cap)) W0.heap.size 0 K (fun i => ((setS N K t i : Nat) : Int)) from HKK.out.2.2.2.cells.other (a := ⟨bw, 0, none⟩) (by have := HSB2.out; show bw ≠ W0.heap.size; omega) _)
        generalize W7.setCell ⟨bw, 0, none⟩ (.slice (some ⟨g, 0, none⟩) 1 cap) = W8 at *
        clear HKK HST HI HO HOO HN5 HA5 HK5 HV5 s2 s2' t0 t0' hk0
        obtain ⟨s4, s4'⟩ := HA8.out.ci
        have s5 := HA8.out.cc
        have hi9 := HA8.out.puti ((t : Int) + 1)
        have s6 := hi9.cc
        obtain ⟨s7, s7'⟩ := hi9.ci
        obtain ⟨s9, s9'⟩ := hi9.cr
        have HI9 := Lib.hid hi9
        have HK10 := Lib.hid (HK8.out.trans (Kx.set W8 bi 0 (.int .i64 ((t : Int) + 1)) (by have := HSB2.out; omega)))
        have HW10 := Lib.hid ((HW8.out.grown (gb_set W8 ⟨bi, 0, none⟩ (.int .i64 ((t : Int) + 1))) (fun b e hs => by cases e; exact hs.1.2.2.2.2.1 rfl)).sep (Sp' := Sep w nb kb bw bi w8.heap.size) (fun b h => h.1))
        clear HK8 HW8 HV8 hi9
        by_cases hgt : (c : Int) < (t : Int) + 1
        · gi_wp2
          have hk := HK10.out.1.trans (KeepsOthers.setCell _ ⟨w.heap.size + 1 + 1 + 1, 0, none⟩ (.bool true))
          exact ⟨hk, rfl, hk.same _ _ HDW.out rfl, HI9.out.bel.grown (gb_set _ ⟨w.heap.size + 1 + 1 + 1, 0, none⟩ (.bool true)) HI9.out.bel.size (fun b hb => by cases hb; show w.heap.size ≤ w.heap.size + 1 + 1 + 1; omega), World.cell?_setCell_same _ _ _ s9⟩
        · have hgt' : (t : Int) + 1 ≤ (c : Int) := by omega
          gi_wp2
          exact ⟨HK10.out.1, HK10.out.2.1, by omega, HK10.out.1.same _ _ HDW.out rfl, _, HI9.out, HW10.out⟩
    case done2 =>
      rintro D2 t W rfl ⟨s, rfl, -, hlast⟩ ⟨-, hd, wv, ha, hw⟩ hd2
      obtain ⟨a0, c0, rfl, -, -⟩ := hw.2 ⟨s, by omega, hlast⟩
      obtain ⟨v0, -⟩ := ha.cw
      obtain ⟨v1, v1'⟩ := ha.cr
      have HA9 := Lib.hid ha
      have HDD := Lib.hid (And.intro hd hd2)
      clear ha hw hd hd2
      gi_wp2
      have hk9 := KeepsOthers.setCell W ⟨w.heap.size + 1 + 1 + 1, 0, none⟩ (.bool true)
      have hdA := hk9.same _ _ HDD.out.1 rfl
      have hdB := hk9.same _ _ HDD.out.2 rfl
      have hcA := World.cell?_setCell_same W _ (Value.bool true) v1
      have hbA := HA9.out.bel.grown (gb_set W ⟨w.heap.size + 1 + 1 + 1, 0, none⟩ (.bool true)) HA9.out.bel.size (fun b hb => by cases hb; show w.heap.size ≤ w.heap.size + 1 + 1 + 1; omega)
      have gq := grownBy_putObj' (W.setCell ⟨w.heap.size + 1 + 1 + 1, 0, none⟩ (.bool true)) w8.heap.size (.deferred none)
      have hd3 : (((W.setCell ⟨w.heap.size + 1 + 1 + 1, 0, none⟩ (.bool true))).putObj w8.heap.size (.deferred none)).heap[w6.heap.size]? = some (.deferred (some [])) := (World.putObj_heap_other (by have := HDL.out; omega)).trans hdA
      have gq2 := grownBy_putObj' (((W.setCell ⟨w.heap.size + 1 + 1 + 1, 0, none⟩ (.bool true))).putObj w8.heap.size (.deferred none)) w6.heap.size (.deferred none)
      have hbr : w.heap.size + 1 + 1 + 1 < w6.heap.size := by have := HSB.out; have := HBWL.out; omega
      have hc5 := gq2.cell (gq.cell hcA (by intro e; injection e with e; have h : w.heap.size + 1 + 1 + 1 = w8.heap.size := e; have := HDL.out; omega)) (by intro e; injection e with e; have h : w.heap.size + 1 + 1 + 1 = w6.heap.size := e; omega)
      have hbA2 := (hbA.grown gq hbA.size (fun b e => by cases e; have := HDL.out; omega)).grown gq2 (hbA.grown gq hbA.size (fun b e => by cases e; have := HDL.out; omega)).size (fun b e => by cases e; omega)
      refine ⟨by simp, .inl ⟨_, _, rfl, run_takeDeferred hdB, by simp, .inl ⟨_, _, rfl, run_takeDeferred hd3, ?_⟩⟩⟩
      refine ⟨.bool true, ?_, rfl, hbA2⟩
      simp [results, Try.results6, go_sem, hc5]
    case stop2 =>
      rintro D2 j W rfl ⟨rfl, hd, hbl, hc1⟩ hd2
      gi_wp2
      have hdA := hd
      have hdB := hd2
      have hcA := hc1
      have hbA := hbl
      have gq := grownBy_putObj' W w8.heap.size (.deferred none)
      have hd3 : ((W).putObj w8.heap.size (.deferred none)).heap[w6.heap.size]? = some (.deferred (some [])) := (World.putObj_heap_other (by have := HDL.out; omega)).trans hdA
      have gq2 := grownBy_putObj' ((W).putObj w8.heap.size (.deferred none)) w6.heap.size (.deferred none)
      have hbr : w.heap.size + 1 + 1 + 1 < w6.heap.size := by have := HSB.out; have := HBWL.out; omega
      have hc5 := gq2.cell (gq.cell hcA (by intro e; injection e with e; have h : w.heap.size + 1 + 1 + 1 = w8.heap.size := e; have := HDL.out; omega)) (by intro e; injection e with e; have h : w.heap.size + 1 + 1 + 1 = w6.heap.size := e; omega)
      have hbA2 := (hbA.grown gq hbA.size (fun b e => by cases e; have := HDL.out; omega)).grown gq2 (hbA.grown gq hbA.size (fun b e => by cases e; have := HDL.out; omega)).size (fun b e => by cases e; omega)
      refine ⟨by simp, .inl ⟨_, _, rfl, run_takeDeferred hdB, by simp, .inl ⟨_, _, rfl, run_takeDeferred hd3, ?_⟩⟩⟩
      refine ⟨.bool true, ?_, rfl, hbA2⟩
      simp [results, Try.results6, go_sem, hc5]
end Go.Proofs.Ytncldpadakckjaa

namespace Go.Proofs.Ytncldpadakckjaa
open Go.RowKit Go.Shelf

attribute [local go_sem] Oper.semAt_some

set_option maxHeartbeats 1000000 in
set_option maxRecDepth 100000 in
theorem Some_bad (N K : Int) (w : World) (hbad : N < 0 ∨ 64 < N ∨ K < 0 ∨ N < K) :
    Calls Try.prog 30 #[.int .i64 N, .int .i64 K, .int .i64 1] w fun e w' => e = .returned (.slice none 0 0) ∧ w = w' := by
  go_enter Try.func30, Try.ntmps30
  by_cases h1 : N < 0
  · go_wp2_with fail
    go_ret
    exact ⟨rfl, rfl⟩
  by_cases h2 : 64 < N
  · go_wp2_with fail
    go_ret
    exact ⟨rfl, rfl⟩
  by_cases h3 : K < 0
  · go_wp2_with fail
    go_ret
    exact ⟨rfl, rfl⟩
  · have h4 : N < K := by omega
    go_wp2_with fail
    go_ret
    exact ⟨rfl, rfl⟩

set_option maxHeartbeats 1000000 in
set_option maxRecDepth 100000 in
theorem sets1_no (n : Nat) (hn : 1 ≤ n) (nb kb : Nat) (N K : Int) (hbad : N < 0 ∨ 64 < N ∨ K < 0 ∨ N < K) (l : Nat) (W : World)
    (c0 : W.cell? ⟨nb, 0, none⟩ = some (.int .i64 N)) (c1 : W.cell? ⟨kb, 0, none⟩ = some (.int .i64 K)) :
    CallsIn Fence.wide n Try.prog 71 #[.func (.yield l) #[] #[], .pointer (some ⟨nb, 0, none⟩), .pointer (some ⟨kb, 0, none⟩)] W fun e W' => (∃ v, e = .returned v) ∧ W = W' := by
  refine callsIn_of_wp Try.func71 rfl trivial ?_ rfl
  simp only [Try.ntmps71, List.size_toArray, List.length_cons, List.length_nil, Nat.reduceAdd, Nat.reduceSub, Array.replicate_succ, Array.replicate_zero, List.push_toArray, List.append_toArray, List.nil_append, List.cons_append]
  by_cases h1 : N < 0
  · gi_wp2
    refine bodyPost_ret (results_none rfl _ _ _) rfl ?_
    exact ⟨⟨_, rfl⟩, rfl⟩
  by_cases h2 : 64 < N
  · gi_wp2
    refine bodyPost_ret (results_none rfl _ _ _) rfl ?_
    exact ⟨⟨_, rfl⟩, rfl⟩
  by_cases h3 : K < 0
  · gi_wp2
    refine bodyPost_ret (results_none rfl _ _ _) rfl ?_
    exact ⟨⟨_, rfl⟩, rfl⟩
  · have h4 : N < K := by omega
    gi_wp2
    refine bodyPost_ret (results_none rfl _ _ _) rfl ?_
    exact ⟨⟨_, rfl⟩, rfl⟩

set_option maxHeartbeats 8000000 in
set_option maxRecDepth 100000 in
theorem SAgain_bad (N K : Int) (cut : Int) (hbad : N < 0 ∨ 64 < N ∨ K < 0 ∨ N < K) (hcut : -9223372036854775808 ≤ cut ∧ cut ≤ 9223372036854775807) (w : World) :
    Calls Try.prog 6 #[.int .i64 N, .int .i64 K, .int .i64 cut] w fun e w' => e = .returned (.bool true) ∧ Below w.heap.size w w' := by
  refine (callsIn_wide (n := 9)).1 ?_
  refine callsIn_of_wp_marks Try.func6 rfl trivial ?_ rfl
  simp only [Try.ntmps6, List.size_toArray, List.length_cons, List.length_nil, Nat.reduceAdd, Nat.reduceSub, Array.replicate_succ, Array.replicate_zero, List.push_toArray, List.append_toArray, List.nil_append, List.cons_append]
  obtain ⟨q0, q1, ⟨q2, q2'⟩, ⟨q3, q3'⟩, hB, hsz⟩ := four_boxes w (.int .i64 N) (.int .i64 K) (.int .i64 cut) (.bool false) 3 4
  have HB := Lib.hid hB
  have HSZ := Lib.hid hsz
  clear hB hsz
  gi_wp2
  generalize (((w.alloc (.cells #[.int .i64 N] 3)).alloc (.cells #[.int .i64 K] 3)).alloc (.cells #[.int .i64 cut] 3)).alloc (.cells #[.bool false] 4) = W at *
  refine ⟨trivial, (callsIn_wide.2 (awake14_any W)).mono ?_⟩
  rintro e w1 ⟨rfl, hb1⟩
  have HS1 := Lib.hid (show w.heap.size + 4 ≤ w1.heap.size by have := HSZ.out; have := hb1.size; omega)
  replace HB := Lib.hid (below_via HB.out hb1)
  replace q2' := froz_stays hb1 q2 q2'
  replace q3' := froz_stays hb1 q3 q3'
  replace q0 := cell_stays hb1 q0
  replace q1 := cell_stays hb1 q1
  replace q2 := cell_stays hb1 q2
  replace q3 := cell_stays hb1 q3
  clear hb1 HSZ
  gi_wp2
  refine ⟨trivial, (callsIn_wide.2 (below_any' cut hcut w1)).mono ?_⟩
  rintro e w2 ⟨⟨c, hc, rfl⟩, rfl⟩
  have g1 := gb_set w1 ⟨w.heap.size + 1 + 1, 0, none⟩ (.int .i64 c)
  have HB3 := Lib.hid (HB.out.grown g1 HB.out.size (fun b hb => by cases hb; show w.heap.size ≤ w.heap.size + 1 + 1; omega))
  have ho : ∀ {b : Nat} {x : Value}, w1.cell? ⟨b, 0, none⟩ = some x → b ≠ w.heap.size + 1 + 1 → (w1.setCell ⟨w.heap.size + 1 + 1, 0, none⟩ (.int .i64 c)).cell? ⟨b, 0, none⟩ = some x := fun hx hb => by
    rw [World.cell?_setCell_other _ _ _ _ (by intro e; injection e with e _ _; exact hb e.symm)]; exact hx
  have r0 := ho q0 (by omega)
  have r1 := ho q1 (by omega)
  have r2 := World.cell?_setCell_same _ _ (Value.int .i64 c) q2
  have r3 := ho q3 (by omega)
  have r3' : (w1.setCell ⟨w.heap.size + 1 + 1, 0, none⟩ (.int .i64 c)).frozen? ⟨w.heap.size + 1 + 1 + 1, 0, none⟩ = false := by rw [World.frozen?_setCell]; exact q3'
  have HS3 := Lib.hid (Nat.le_trans HS1.out g1.size)
  have HR := Lib.hid (And.intro r0 (And.intro r1 (And.intro r2 (And.intro r3 r3'))))
  clear r0 r1 r2 r3 r3' g1 ho HB HS1
  gi_wp2
  generalize w1.setCell ⟨w.heap.size + 1 + 1, 0, none⟩ (.int .i64 c) = w3 at *
  refine ⟨trivial, (callsIn_wide.2 (Sets_any N K w3)).mono ?_⟩
  rintro e w4 ⟨rfl, hw4⟩
  obtain ⟨⟨n0, -⟩, ⟨n1, -⟩, hb4, hs4⟩ := two_boxes w3 (.int .i64 N) (.int .i64 K) 3 3
  rw [← hw4] at n0 n1 hb4 hs4
  obtain ⟨r0, r1, r2, r3, r3'⟩ := HR.out
  replace r3' := froz_stays hb4 r3 r3'
  replace r0 := cell_stays hb4 r0
  replace r1 := cell_stays hb4 r1
  replace r2 := cell_stays hb4 r2
  replace r3 := cell_stays hb4 r3
  have HB4 := Lib.hid (below_via HB3.out hb4)
  have HS4 := Lib.hid (And.intro HS3.out hs4)
  clear hw4 hb4 hs4 HR HB3 HS3 q0 q1 q2 q2' q3 q3'
  have he : ∀ (lb : Array Value) (w : World), (binOp .eql 50 (.func (.func 71) #[] lb) .nilFunc).run Try.prog w = .ok (.bool false) w := fun _ _ => rfl
  gi_wp2
  refine ⟨trivial, (callsIn_wide.2 (Some_bad N K w4 hbad)).mono ?_⟩
  rintro e w5 ⟨rfl, rfl⟩
  obtain ⟨p0, p1, hb6, hs6⟩ := two_boxes w4 (.slice none 0 0) (.int .i64 0) 52 3
  have HT := Lib.hid (And.intro p0 (And.intro p1 (And.intro hb6 hs6)))
  clear p0 p1 hb6 hs6
  gi_wp2
  generalize hw6 : (w4.alloc (.cells #[.slice none 0 0] 52)).alloc (.cells #[.int .i64 0] 3) = w6 at *
  obtain ⟨p0, p1, hb6, hs6⟩ := HT.out
  obtain ⟨hs3, hs4⟩ := HS4.out
  replace r3' := froz_stays hb6 r3 r3'
  replace r0 := cell_stays hb6 r0
  replace r1 := cell_stays hb6 r1
  replace r2 := cell_stays hb6 r2
  replace r3 := cell_stays hb6 r3
  replace n0 := cell_stays hb6 n0
  replace n1 := cell_stays hb6 n1
  obtain ⟨nb, hnb⟩ : ∃ nb, nb = w3.heap.size := ⟨_, rfl⟩
  obtain ⟨kb, hkb⟩ : ∃ kb, kb = w3.heap.size + 1 := ⟨_, rfl⟩
  obtain ⟨bw, hbw⟩ : ∃ bw, bw = w4.heap.size := ⟨_, rfl⟩
  obtain ⟨bi, hbi⟩ : ∃ bi, bi = w4.heap.size + 1 := ⟨_, rfl⟩
  rw [← hnb] at n0
  rw [← hkb] at n1
  rw [← hbw] at p0
  rw [← hbi] at p1
  have hI0 : AgB w nb kb bw bi N K c 0 (.slice none 0 0) w6 := ⟨below_via HB4.out hb6, by omega, by omega, by omega, ⟨by omega, by omega, by omega⟩, ⟨by omega, by omega, by omega⟩, r0, r1, r2, ⟨r3, r3'⟩, p1, p0, n0, n1⟩
  have HI0 := Lib.hid hI0
  have HSB := Lib.hid (show bi < w6.heap.size ∧ bw < w6.heap.size ∧ nb < w6.heap.size ∧ kb < w6.heap.size by omega)
  rw [← hkb, ← hnb, ← hbi, ← hbw]
  clear hnb hkb hbw hbi hI0 r0 r1 r2 r3 r3' n0 n1 p0 p1 hb6 hs6 hs3 hs4 HT HS4 HB4 hw6
  refine range_stops (n := 9) (by omega) (gf := 71) (lb := #[.pointer (some ⟨nb, 0, none⟩), .pointer (some ⟨kb, 0, none⟩)]) rfl (enters_of Try.func71 (by kernel_rfl) rfl) rfl
    (fun t => t = 0) (fun _ _ _ _ => False) (fun t W0 W W' v h hg => h)
    (fun t W => AgB w nb kb bw bi N K c 0 (.slice none 0 0) W)
    (fun j W => False) ?inv ?invx ?seq HI0.out ?round ?done ?stop
  case inv =>
    rintro t W W' r h1 hg hr
    have hb := HSB.out
    have hl := h1.li
    exact h1.grown hg (fun b e => by rcases hr b e with h | h <;> (have := h1.lw; have := h1.ln; have := h1.lk; omega))
  case invx => exact fun j W W' r h _ _ => h
  case seq =>
    intro l J Jx W hW j1 j2 j3 j4
    have h := j2 0 W j4
    refine (sets1_no 8 (by omega) nb kb N K hbad l W h.nn h.kk).mono ?_
    rintro e W' ⟨hv, rfl⟩
    exact ⟨hv, Or.inl ⟨0, rfl, j4⟩⟩
  case round =>
    intro l t v
    exact ⟨_, fun W K0 hK => by gi_wp2; exact hK, fun W0 W _ _ h => h.elim⟩
  case stop => exact fun D c W _ h _ => h.elim
  case done =>
    rintro D t W rfl rfl ha hD
    obtain ⟨u0, u0'⟩ := ha.cw
    obtain ⟨u1, u1'⟩ := ha.ci
    have u2 := ha.cn
    have u3 := ha.ck
    have HA := Lib.hid ha
    have HD := Lib.hid hD
    clear ha hD
    gi_wp2
    refine ⟨trivial, (callsIn_wide.2 (Some_bad N K W hbad)).mono ?_⟩
    rintro e w7 ⟨rfl, rfl⟩
    have hA8 := (HA.out.putw (.slice none 0 0)).puti 0
    have hk8 := (KeepsOthers.setCell W ⟨bw, 0, none⟩ (.slice none 0 0)).trans (KeepsOthers.setCell _ ⟨bi, 0, none⟩ (.int .i64 0))
    have HA8 := Lib.hid hA8
    have HD8 := Lib.hid (hk8.same _ _ HD.out rfl)
    obtain ⟨u5, u5'⟩ := (HA.out.putw (.slice none 0 0)).ci
    clear hA8 hk8 u1 u1' u2 u3
    gi_wp2
    generalize (W.setCell ⟨bw, 0, none⟩ (.slice none 0 0)).setCell ⟨bi, 0, none⟩ (.int .i64 0) = w8 at *
    have HBWL := Lib.hid (show w.heap.size + 4 ≤ bw from HA8.out.lw)
    have HDL := Lib.hid (show w6.heap.size < w8.heap.size from (Array.getElem?_eq_some_iff.1 HD8.out).1)
    have HSB2 := Lib.hid (show bi < w8.heap.size ∧ bw < w8.heap.size ∧ nb < w8.heap.size ∧ kb < w8.heap.size by have := HSB.out; have := HDL.out; omega)
    clear u0 u0' u5 u5' HA HD
    refine range_stops (n := 9) (by omega) (gf := 71) (lb := #[.pointer (some ⟨nb, 0, none⟩), .pointer (some ⟨kb, 0, none⟩)]) rfl (enters_of Try.func71 (by kernel_rfl) rfl) rfl
      (fun t => t = 0) (fun _ _ _ _ => False) (fun t W0 W W' v h hg => h)
      (fun t W => W.heap[w6.heap.size]? = some (.deferred (some [])) ∧ AgB w nb kb bw bi N K c 0 (.slice none 0 0) W)
      (fun j W => False) ?inv2 ?invx2 ?seq2 ⟨HD8.out, HA8.out⟩ ?round2 ?done2 ?stop2
    case inv2 =>
      rintro t W W' r ⟨hd, h1⟩ hg hr
      have hb := HSB2.out
      have hb2 := HDL.out
      have hl := h1.li
      exact ⟨(hg.block (w6.heap.size) (Array.getElem?_eq_some_iff.1 hd).1 (fun e => by rcases hr (w6.heap.size) e.symm with h | h <;> omega)).trans hd, h1.grown hg (fun b e => by rcases hr b e with h | h <;> (have := h1.lw; have := h1.ln; have := h1.lk; omega))⟩
    case invx2 => exact fun j W W' r h _ _ => h
    case seq2 =>
      intro l J Jx W hW j1 j2 j3 j4
      have h := (j2 0 W j4).2
      refine (sets1_no 8 (by omega) nb kb N K hbad l W h.nn h.kk).mono ?_
      rintro e W' ⟨hv, rfl⟩
      exact ⟨hv, Or.inl ⟨0, rfl, j4⟩⟩
    case round2 =>
      intro l t v
      exact ⟨_, fun W K0 hK => by gi_wp2; exact hK, fun W0 W _ _ h => h.elim⟩
    case stop2 => exact fun D c W _ h _ => h.elim
    case done2 =>
      rintro D2 t W rfl rfl ⟨hd, ha⟩ hd2
      obtain ⟨v0, -⟩ := ha.cw
      obtain ⟨v1, v1'⟩ := ha.cr
      have HA9 := Lib.hid ha
      have HDD := Lib.hid (And.intro hd hd2)
      clear ha hd hd2
      gi_wp2
      have hk9 := KeepsOthers.setCell W ⟨w.heap.size + 1 + 1 + 1, 0, none⟩ (.bool true)
      have hdA := hk9.same _ _ HDD.out.1 rfl
      have hdB := hk9.same _ _ HDD.out.2 rfl
      have hcA := World.cell?_setCell_same W _ (Value.bool true) v1
      have hbA := HA9.out.bel.grown (gb_set W ⟨w.heap.size + 1 + 1 + 1, 0, none⟩ (.bool true)) HA9.out.bel.size (fun b hb => by cases hb; show w.heap.size ≤ w.heap.size + 1 + 1 + 1; omega)
      have gq := grownBy_putObj' (W.setCell ⟨w.heap.size + 1 + 1 + 1, 0, none⟩ (.bool true)) w8.heap.size (.deferred none)
      have hd3 : (((W.setCell ⟨w.heap.size + 1 + 1 + 1, 0, none⟩ (.bool true))).putObj w8.heap.size (.deferred none)).heap[w6.heap.size]? = some (.deferred (some [])) := (World.putObj_heap_other (by have := HDL.out; omega)).trans hdA
      have gq2 := grownBy_putObj' (((W.setCell ⟨w.heap.size + 1 + 1 + 1, 0, none⟩ (.bool true))).putObj w8.heap.size (.deferred none)) w6.heap.size (.deferred none)
      have hbr : w.heap.size + 1 + 1 + 1 < w6.heap.size := by have := HSB.out; have := HBWL.out; omega
      have hc5 := gq2.cell (gq.cell hcA (by intro e; injection e with e; have h : w.heap.size + 1 + 1 + 1 = w8.heap.size := e; have := HDL.out; omega)) (by intro e; injection e with e; have h : w.heap.size + 1 + 1 + 1 = w6.heap.size := e; omega)
      have hbA2 := (hbA.grown gq hbA.size (fun b e => by cases e; have := HDL.out; omega)).grown gq2 (hbA.grown gq hbA.size (fun b e => by cases e; have := HDL.out; omega)).size (fun b e => by cases e; omega)
      refine ⟨by simp, .inl ⟨_, _, rfl, run_takeDeferred hdB, by simp, .inl ⟨_, _, rfl, run_takeDeferred hd3, ?_⟩⟩⟩
      refine ⟨.bool true, ?_, rfl, hbA2⟩
      simp [results, Try.results6, go_sem, hc5]

/-- the law, for any arguments -/
theorem SAgain_law (N K cut : Int) (hcut : -9223372036854775808 ≤ cut ∧ cut ≤ 9223372036854775807) (w : World) :
    Calls Try.prog 6 #[.int .i64 N, .int .i64 K, .int .i64 cut] w fun e w' => e = .returned (.bool true) ∧ Below w.heap.size w w' := by
  by_cases h : N < 0 ∨ 64 < N ∨ K < 0 ∨ N < K
  · exact SAgain_bad N K cut h hcut w
  · obtain ⟨n, rfl⟩ := Int.eq_ofNat_of_zero_le (show 0 ≤ N by omega)
    obtain ⟨k, rfl⟩ := Int.eq_ofNat_of_zero_le (show 0 ≤ K by omega)
    exact SAgain_good n k cut (by omega) (by omega) hcut w
end Go.Proofs.Ytncldpadakckjaa

namespace Go.Proofs.Ytncldpadakckjaa.minorsSetsAgain
open Go.ChangeShapes Go.WideShapes Go.ChangeAt Go.RowKit

theorem own : ownKnob Try.prog.godebug = none := by kernel_rfl

set_option maxRecDepth 100000 in
theorem lifted (os : Os) (started : os.Started) (H : Type) (enc : TypeId × Value → H) :
    ReturnsInHanded {} Try.checked os 6 .any (Rows.minorsSetsAgainSpec.pre6 enc Try.prog Try.f6 Rows.minorsSetsAgainRow.domain false) (Rows.minorsSetsAgainSpec.post enc Try.prog Try.f6 false true false false) := by
  refine returnsInHanded_of_change (C := Try.checked) own started (by kernel_rfl) Try.func6
    (ChangeSpec.witness6 (enc := enc) (C := Try.checked) false ⟨#[], #[.int .i64 0, .int .i64 0, .int .i64 0], []⟩ 8 (by kernel_rfl) (by kernel_rfl) (by kernel_rfl) (by kernel_rfl)) ?_
  intro W base args ds gs before hval0 hW hcnd _
  have hval : ∀ (j : Nat) t v, Try.f6.params[j]? = some t → args[j]? = some v → Value.okWide Try.prog W .any base t v := hval0
  have hW' := hW
  obtain ⟨p, q, hA0, hV, rfl, hfz, hnd⟩ := hW
  have hA : DataW.TrodAll enc Try.prog W 0 (fun _ => true) true Try.f6.params.toList args.toList ds p := hA0
  rw [Try.params6] at hA hval
  obtain ⟨v0, vs0, d0, ds0, p0, q0, hargs, rfl, rfl, h0, r0⟩ := trodAll_cons hA
  obtain ⟨v1, vs1, d1, ds1, p1, q1, rfl, rfl, rfl, h1, r1⟩ := trodAll_cons r0
  obtain ⟨v2, vs2, d2, ds2, p2, q2, rfl, rfl, rfl, h2, r2⟩ := trodAll_cons r1
  obtain ⟨rfl, rfl, rfl⟩ := trodAll_nil r2
  obtain rfl : args = #[v0, v1, v2] := by cases args; simp_all
  obtain ⟨rfl, rfl⟩ := trodVars_none hV
  obtain ⟨a0, rfl, rfl, rfl, w0⟩ := open_int Try.underlying3 (hval 0 3 v0 rfl rfl) h0
  obtain ⟨a1, rfl, rfl, rfl, w1⟩ := open_int Try.underlying3 (hval 1 3 v1 rfl rfl) h1
  obtain ⟨a2, rfl, rfl, rfl, w2⟩ := open_int Try.underlying3 (hval 2 3 v2 rfl rfl) h2
  clear hA0 hval0
  simp only [List.append_nil] at hW'
  have b0 : -9223372036854775808 ≤ a0 ∧ a0 ≤ 9223372036854775807 := by simp [Lit.wf, IntKind.min, IntKind.max, IntKind.signed, IntKind.bits] at w0; omega
  have b1 : -9223372036854775808 ≤ a1 ∧ a1 ≤ 9223372036854775807 := by simp [Lit.wf, IntKind.min, IntKind.max, IntKind.signed, IntKind.bits] at w1; omega
  have b2 : -9223372036854775808 ≤ a2 ∧ a2 ≤ 9223372036854775807 := by simp [Lit.wf, IntKind.min, IntKind.max, IntKind.signed, IntKind.bits] at w2; omega
  refine (SAgain_law a0 a1 a2 b2 W).mono fun e W' ⟨he, hg⟩ => ?_
  subst he
  exact ⟨_, rfl, post_of_below (pa := []) (pv := []) hW' (fun _ _ _ => (trodAll_cons_mk (shut_bool Try.underlying4 _) trodAll_mk0)) (fun sp _ => (trodAll_cons_mk (shut_int Try.underlying3 w0) (trodAll_cons_mk (shut_int Try.underlying3 w1) (trodAll_cons_mk (shut_int Try.underlying3 w2) trodAll_mk0)))) (fun _ _ => rfl) (by simp)
    hg (ok_one (by kernel_rfl) rfl (okWide_bool_mk Try.underlying4 _))⟩

theorem over : Rows.minorsSetsAgainRow.holds Try.pinned (OpenSpec.ofChange Rows.minorsSetsAgainSpec) :=
  OpenClaim.holds_of_wide 6 Try.f6 rfl rfl rfl rfl rfl rfl rfl ⟨rfl, rfl, rfl, rfl, rfl⟩ rfl rfl rfl rfl rfl (by kernel_rfl) Try.func6 (by kernel_rfl)
    (of_decide_eq_true (by kernel_rfl)) (by unfold Func.isWrapper; first | (rw [if_pos (by decide +kernel)]; kernel_rfl) | (rw [if_neg (by decide +kernel)]; exact ⟨rfl, rfl⟩))
    (fun os started H enc _ => lifted os started H enc)

/-- the statement -/
theorem proved : Rows.MinorsSetsAgainSaid := over
#print axioms proved
end Go.Proofs.Ytncldpadakckjaa.minorsSetsAgain
