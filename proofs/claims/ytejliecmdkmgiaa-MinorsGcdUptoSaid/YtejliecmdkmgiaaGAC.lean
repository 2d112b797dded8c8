import Derived.Test.YtejliecmdkmgiaaGAA
import Derived.Test.YtejliecmdkmgiaaGAB
import Derived.Test.YtejliecmdkmgiaaGI
import Derived.Maps.OwnIn
import Derived.Test.YtejliecmdkmgiaaGS
import Derived.Test.YtejliecmdkmgiaaGX
import Derived.Test.YtejliecmdkmgiaaGH
set_option linter.unusedVariables false
set_option linter.unusedSimpArgs false
set_option maxHeartbeats 8000000
set_option maxRecDepth 100000
namespace Go.Proofs.Ytejliecmdkmgiaa
open Go.RowKit Go.Shelf
theorem Sets_any (N K : Int) (w : World) :
    Calls Try.prog 120 #[.int .i64 N, .int .i64 K] w fun e w' => e = .returned (.func (.func 167) #[] #[.pointer (some ⟨w.heap.size, 0, none⟩), .pointer (some ⟨w.heap.size + 1, 0, none⟩)]) ∧ w' = (w.alloc (.cells #[.int .i64 N] 3)).alloc (.cells #[.int .i64 K] 3) := by
  go_enter Try.func120, Try.ntmps120
  go_wp2_with fail
  go_ret
  exact ⟨rfl, rfl⟩
end Go.Proofs.Ytejliecmdkmgiaa
namespace Go.Proofs.Ytejliecmdkmgiaa
open Go.RowKit Go.Shelf
structure AgB (w : World) (nb kb bw bi : Nat) (N K c : Int) (i : Int) (wv : Value) (W : World) : Prop where
  bel : Below w.heap.size w W
  lw : w.heap.size + 4 ≤ bw
  li : w.heap.size + 4 ≤ bi
  ne : bw ≠ bi
  ln : w.heap.size + 4 ≤ nb ∧ nb ≠ bw ∧ nb ≠ bi
  lk : w.heap.size + 4 ≤ kb ∧ kb ≠ bw ∧ kb ≠ bi
  cn : W.cell? ⟨w.heap.size, 0, none⟩ = some (.int .i64 N)
  ck : W.cell? ⟨w.heap.size + 1, 0, none⟩ = some (.int .i64 K)
  cc : W.cell? ⟨w.heap.size + 1 + 1, 0, none⟩ = some (.int .i64 c)
  cr : W.cell? ⟨w.heap.size + 1 + 1 + 1, 0, none⟩ = some (.bool false) ∧ W.frozen? ⟨w.heap.size + 1 + 1 + 1, 0, none⟩ = false
  ci : W.cell? ⟨bi, 0, none⟩ = some (.int .i64 i) ∧ W.frozen? ⟨bi, 0, none⟩ = false
  cw : W.cell? ⟨bw, 0, none⟩ = some wv ∧ W.frozen? ⟨bw, 0, none⟩ = false
  nn : W.cell? ⟨nb, 0, none⟩ = some (.int .i64 N)
  kk : W.cell? ⟨kb, 0, none⟩ = some (.int .i64 K)
section
variable {w W W' : World} {nb kb bw bi B : Nat} {N K c i : Int} {wv : Value}
theorem AgB.grown (h : AgB w nb kb bw bi N K c i wv W) {r : Option Nat} (hg : W.grownBy W' r) (hr : ∀ b, r = some b → w.heap.size + 4 ≤ b ∧ b ≠ nb ∧ b ≠ kb ∧ b ≠ bw ∧ b ≠ bi) : AgB w nb kb bw bi N K c i wv W' := by
  have hc : ∀ {b : Nat} {u : Value}, W.cell? ⟨b, 0, none⟩ = some u → (b < w.heap.size + 4 ∨ b = nb ∨ b = kb ∨ b = bw ∨ b = bi) → W'.cell? ⟨b, 0, none⟩ = some u := fun hu hb => hg.cell hu (fun e => by
    obtain ⟨h1, h4, h5, h2, h3⟩ := hr _ e.symm
    rcases hb with hb | hb | hb | hb | hb
    · have : _ < w.heap.size + 4 := hb
      simp at h1; omega
    · exact h4 hb
    · exact h5 hb
    · exact h2 hb
    · exact h3 hb)
  have hf : ∀ {b : Nat} {u : Value}, W.cell? ⟨b, 0, none⟩ = some u → W.frozen? ⟨b, 0, none⟩ = false → (b < w.heap.size + 4 ∨ b = nb ∨ b = kb ∨ b = bw ∨ b = bi) → W'.frozen? ⟨b, 0, none⟩ = false := fun {b u} hu hz hb => by
    refine (World.frozen?_of_block (w := W) (a := ⟨b, 0, none⟩) (hg.block b (World.block_lt_of_cell? _ _ hu) (fun e => ?_))).trans hz
    obtain ⟨h1, h4, h5, h2, h3⟩ := hr _ e.symm
    rcases hb with hb | hb | hb | hb | hb
    · omega
    · exact h4 hb
    · exact h5 hb
    · exact h2 hb
    · exact h3 hb
  exact ⟨h.bel.grown hg h.bel.size (fun b hb => by have := (hr b hb).1; omega), h.lw, h.li, h.ne, h.ln, h.lk, hc h.cn (by omega), hc h.ck (by omega), hc h.cc (by omega), ⟨hc h.cr.1 (by omega), hf h.cr.1 h.cr.2 (by omega)⟩, ⟨hc h.ci.1 (by omega), hf h.ci.1 h.ci.2 (by omega)⟩, ⟨hc h.cw.1 (by omega), hf h.cw.1 h.cw.2 (by omega)⟩, hc h.nn (by omega), hc h.kk (by omega)⟩
theorem AgB.below (h : AgB w nb kb bw bi N K c i wv W) (hb : Below W.heap.size W W') : AgB w nb kb bw bi N K c i wv W' := h.grown (gb_below hb none) (fun _ e => by cases e)
end
def Wn1 (W : World) (base : Nat) (Sp : Nat → Prop) (wv : Value) (K : Nat) (P : Nat → Nat) : Prop :=
  ∃ u g cap, wv = .slice (some ⟨g, 0, none⟩) 1 cap ∧ W.ownsRow base 70 1 wv 1 [u] ∧ NumL W base u K P ∧ Sp g ∧ ∀ b, u.ownBlock = some b → Sp b
def Wn0 (W : World) (base : Nat) (Sp : Nat → Prop) (wv : Value) : Prop :=
  ∃ a cap, wv = .slice a 0 cap ∧ W.ownsRow base 70 1 wv 0 [] ∧ ∀ b, wv.ownBlock = some b → Sp b
section
variable {W W' : World} {base : Nat} {Sp Sp' : Nat → Prop} {wv : Value} {K : Nat} {P P' : Nat → Nat}
theorem Wn1.grown (h : Wn1 W base Sp wv K P) {r : Option Nat} (hg : W.grownBy W' r) (hr : ∀ b, r = some b → ¬ Sp b) : Wn1 W' base Sp wv K P := by
  obtain ⟨u, g, cap, rfl, h1, h2, h3, h4⟩ := h
  refine ⟨u, g, cap, rfl, World.ownsRow.kept h1 hg (Or.inr fun e => hr g e.symm h3), World.ownsRow.kept h2 hg ?_, h3, h4⟩
  cases hu : u.ownBlock with
  | none => exact Or.inl rfl
  | some b => exact Or.inr fun e => hr b e.symm (h4 b hu)
theorem Wn1.below (h : Wn1 W base Sp wv K P) (hb : Below W.heap.size W W') : Wn1 W' base Sp wv K P := h.grown (gb_below hb none) (fun _ e => by cases e)
theorem Wn0.grown (h : Wn0 W base Sp wv) {r : Option Nat} (hg : W.grownBy W' r) (hr : ∀ b, r = some b → ¬ Sp b) : Wn0 W' base Sp wv := by
  obtain ⟨a, cap, rfl, h1, h2⟩ := h
  refine ⟨a, cap, rfl, World.ownsRow.kept h1 hg ?_, h2⟩
  cases hu : (Value.slice a 0 cap).ownBlock with
  | none => exact Or.inl rfl
  | some b => exact Or.inr fun e => hr b e.symm (h2 b hu)
theorem Wn0.below (h : Wn0 W base Sp wv) (hb : Below W.heap.size W W') : Wn0 W' base Sp wv := h.grown (gb_below hb none) (fun _ e => by cases e)
theorem Wn1.sep (h : Wn1 W base Sp wv K P) (hs : ∀ b, b < W.heap.size → Sp b → Sp' b) : Wn1 W base Sp' wv K P := by
  obtain ⟨u, g, cap, rfl, h1, h2, h3, h4⟩ := h
  exact ⟨u, g, cap, rfl, h1, h2, hs _ (World.ownsRow.lt h1 g rfl).2 h3, fun b hb => hs _ (World.ownsRow.lt h2 b hb).2 (h4 b hb)⟩
theorem Wn1.elem (h : Wn1 W base Sp wv K P) : ∃ u g cap, wv = .slice (some ⟨g, 0, none⟩) 1 cap ∧ W.cell? ⟨g, 0, none⟩ = some u ∧ NumL W base u K P ∧ Sp g := by
  obtain ⟨u, g, cap, rfl, h1, h2, h3, h4⟩ := h
  obtain ⟨h0, h1⟩ := h1
  rcases h1 with ⟨e, -⟩ | ⟨g', cap', cur, e, k1, k2, k3, k4, k5, k6⟩
  · simp at e
  · simp only [Value.slice.injEq, Option.some.injEq, Addr.mk.injEq, and_true, true_and] at e
    obtain ⟨rfl, rfl⟩ := e
    refine ⟨u, g, cap, rfl, ?_, h2, h3⟩
    rw [cell_of_row _ _ _ _ _ _ k2]
    have := congrArg (·[0]?) k6
    simpa using this
theorem Wn1.room {g cap : Nat} (h : Wn1 W base Sp (.slice (some ⟨g, 0, none⟩) 1 cap) K P) : 1 ≤ cap := by
  obtain ⟨u, g, cap, e, h1, -⟩ := h
  simp only [Value.slice.injEq, Option.some.injEq, Addr.mk.injEq, and_true, true_and] at e
  obtain ⟨rfl, rfl⟩ := e
  rcases h1.2 with ⟨e, -⟩ | ⟨g', cap', cur, e, k1, k2, k3, k4, k5, k6⟩
  · simp at e
  · simp only [Value.slice.injEq, Option.some.injEq, Addr.mk.injEq, and_true, true_and] at e
    obtain ⟨rfl, rfl⟩ := e
    exact k3
theorem Wn1.cut {g cap : Nat} (h : Wn1 W base Sp (.slice (some ⟨g, 0, none⟩) 1 cap) K P) : Wn0 W base Sp (.slice (some ⟨g, 0, none⟩) 0 cap) := by
  obtain ⟨u, g, cap, e, h1, h2, h3, h4⟩ := h
  simp only [Value.slice.injEq, Option.some.injEq, Addr.mk.injEq, and_true, true_and] at e
  obtain ⟨rfl, rfl⟩ := e
  refine ⟨_, _, rfl, ?_, fun b hb => by simp [Value.ownBlock] at hb; subst hb; exact h3⟩
  obtain ⟨h0, h1⟩ := h1
  rcases h1 with ⟨e, -⟩ | ⟨g', cap', cur, e, k1, k2, k3, k4, k5, k6⟩
  · simp at e
  · simp only [Value.slice.injEq, Option.some.injEq, Addr.mk.injEq, and_true, true_and] at e
    obtain ⟨rfl, rfl⟩ := e
    exact ⟨by simp, Or.inr ⟨g, cap, cur, rfl, k1, k2, Nat.zero_le _, k4, k5, by simp⟩⟩
end
def Wnt (W : World) (base : Nat) (Sp : Nat → Prop) (wv : Value) (N K t : Nat) : Prop :=
  ((∀ s, s < t → ¬ LastS N K s) → Wn1 W base Sp wv K (setS N K t)) ∧ ((∃ s, s < t ∧ LastS N K s) → Wn0 W base Sp wv)
theorem Wnt.grown {W W' : World} {base : Nat} {Sp : Nat → Prop} {wv : Value} {N K t : Nat} (h : Wnt W base Sp wv N K t) {r : Option Nat} (hg : W.grownBy W' r) (hr : ∀ b, r = some b → ¬ Sp b) : Wnt W' base Sp wv N K t :=
  ⟨fun a => (h.1 a).grown hg hr, fun a => (h.2 a).grown hg hr⟩
def Kx (X : Nat) (W W' : World) : Prop := KeepsOthers W W' ∧ W'.heap[X]? = W.heap[X]? ∧ W.heap.size ≤ W'.heap.size
theorem Kx.refl (X : Nat) (W : World) : Kx X W W := ⟨KeepsOthers.refl _, rfl, Nat.le_refl _⟩
theorem Kx.trans {X : Nat} {A B C : World} (h : Kx X A B) (k : Kx X B C) : Kx X A C := ⟨h.1.trans k.1, k.2.1.trans h.2.1, Nat.le_trans h.2.2 k.2.2⟩
theorem Kx.below {X : Nat} {W W' : World} (hb : Below W.heap.size W W') (hX : X < W.heap.size) : Kx X W W' := ⟨KeepsOthers.of_grownBy (gb_below hb none) (fun _ _ e => by cases e), hb.block X hX, hb.size⟩
theorem Kx.set {X : Nat} (W : World) (b i : Nat) (v : Value) (hb : b ≠ X) : Kx X W (W.setCell ⟨b, i, none⟩ v) := ⟨KeepsOthers.setCell _ _ _, heap_setCell_other W ⟨b, i, none⟩ X v (fun e => hb e.symm), by simp [World.setCell]⟩
def RowS (D N K t : Nat) (W0 W : World) (v : Value) : Prop := (∀ s, s < t → ¬ LastS N K s) ∧ D + 1 < W0.heap.size ∧ W0.heap.size < W.heap.size ∧ v = .slice (some ⟨W0.heap.size, 0, none⟩) K K ∧ NumL W W0.heap.size v K (setS N K t) ∧ W0.grownBy W (some D)
theorem RowS.put {D N K t : Nat} {W0 W W' : World} {v : Value} (h : RowS D N K t W0 W v) (hg : W.grownBy W' (some D)) : RowS D N K t W0 W' v := by
  obtain ⟨h1, h2, h3, h4, h5, h6⟩ := h
  refine ⟨h1, h2, Nat.lt_of_lt_of_le h3 hg.size, h4, World.ownsRow.kept h5 hg (Or.inr fun e => ?_), gb_trans h6 hg⟩
  rw [h4] at e
  simp [Value.ownBlock] at e
  omega
theorem NumL.cells {w : World} {base g cap n : Nat} {P : Nat → Nat} (h : NumL w base (.slice (some ⟨g, 0, none⟩) n cap) n P) : RowAt .i64 w g 0 n (fun i => (P i : Int)) := by
  rcases Nat.eq_zero_or_pos n with rfl | hn
  · exact fun i hi => absurd hi (by omega)
  · obtain ⟨g', cap', e, -, -, -, hr, -⟩ := h.row hn
    simp only [Value.slice.injEq, Option.some.injEq, Addr.mk.injEq, and_true, true_and] at e
    obtain ⟨rfl, rfl⟩ := e
    exact hr
theorem Wn0.sep {W : World} {base : Nat} {Sp Sp' : Nat → Prop} {wv : Value} (h : Wn0 W base Sp wv) (hs : ∀ b, Sp b → Sp' b) : Wn0 W base Sp' wv := by
  obtain ⟨a, cap, e, h1, h2⟩ := h
  exact ⟨a, cap, e, h1, fun b hb => hs b (h2 b hb)⟩
theorem Wnt.sep {W : World} {base : Nat} {Sp Sp' : Nat → Prop} {wv : Value} {N K t : Nat} (h : Wnt W base Sp wv N K t) (hs : ∀ b, Sp b → Sp' b) : Wnt W base Sp' wv N K t :=
  ⟨fun a => (h.1 a).sep fun b _ hb => hs b hb, fun a => (h.2 a).sep hs⟩
end Go.Proofs.Ytejliecmdkmgiaa
namespace Go.Proofs.Ytejliecmdkmgiaa
open Go.RowKit Go.Shelf
def OwnS (w : World) (base : Nat) (P : Nat → Prop) (v : Value) (n : Nat) (E : Nat → Int) : Prop :=
  ∃ M : Nat → Value, w.ownsRow base 49 2 v n (flatI (fun i => .bool (decide (E i < 0))) M n) ∧ (∀ i, i < n → FrZ w base (.agg #[.bool (decide (E i < 0)), M i]) (E i)) ∧ (∀ b, v.ownBlock = some b → P b) ∧ ∀ i, i < n → ∀ b, (M i).ownBlock = some b → P b
section
variable {w w' : World} {base n : Nat} {P P' : Nat → Prop} {v : Value} {E F : Nat → Int}
theorem OwnS.own (h : OwnS w base P v n E) : OwnZ w base v n E := by
  obtain ⟨M, h1, h2, -⟩ := h
  exact ⟨M, h1, h2⟩
theorem OwnS.start (w : World) (base : Nat) (P : Nat → Prop) (E : Nat → Int) : OwnS w base P (.slice none 0 0) 0 E := ⟨fun _ => .slice none 0 0, ⟨rfl, Or.inl ⟨rfl, rfl⟩⟩, fun i hi => absurd hi (by omega), fun b e => by simp [Value.ownBlock] at e, fun i hi => absurd hi (by omega)⟩
theorem OwnS.congr (h : OwnS w base P v n E) (e : ∀ i, i < n → E i = F i) : OwnS w base P v n F := by
  obtain ⟨M, h1, h2, h3, h4⟩ := h
  refine ⟨M, ?_, fun i hi => by rw [← e i hi]; exact h2 i hi, h3, h4⟩
  rw [flatI_congr (b' := fun i => .bool (decide (F i < 0))) (m' := M) (fun i hi => ⟨by rw [e i hi], rfl⟩)] at h1
  exact h1
theorem OwnS.imp (h : OwnS w base P v n E) (hp : ∀ b, base ≤ b → b < w.heap.size → P b → P' b) : OwnS w base P' v n E := by
  obtain ⟨M, h1, h2, h3, h4⟩ := h
  exact ⟨M, h1, h2, fun b hb => hp b (h1.lt b hb).1 (h1.lt b hb).2 (h3 b hb), fun i hi b hb => by
    obtain ⟨a, c, d, e, ho⟩ := (h2 i hi).agg
    simp only [Value.agg.injEq, Array.mk.injEq, List.cons.injEq, and_true, true_and] at e
    have hb2 := hb
    rw [e] at hb2
    exact hp b (ho b hb2).1 (ho b hb2).2 (h4 i hi b hb)⟩
theorem OwnS.slice (h : OwnS w base P v n E) : ∃ a c, v = .slice a n c := h.own.slice
theorem OwnS.grown (h : OwnS w base P v n E) {r : Option Nat} (hg : w.grownBy w' r) (hd : ∀ d, r = some d → ¬ P d) : OwnS w' base P v n E := by
  obtain ⟨M, h1, h2, h3, h4⟩ := h
  refine ⟨M, h1.kept hg ?_, fun i hi => ?_, h3, h4⟩
  · cases hv : v.ownBlock with
    | none => exact Or.inl rfl
    | some k => exact Or.inr fun e => hd k e.symm (h3 k hv)
  · obtain ⟨m, nn, f, e, k1, k2⟩ := h2 i hi
    simp only [Value.agg.injEq, Array.mk.injEq, List.cons.injEq, and_true, true_and] at e
    obtain rfl := e
    refine ⟨M i, nn, f, rfl, k1.grown hg ?_, k2⟩
    cases hm : (M i).ownBlock with
    | none => exact Or.inl rfl
    | some k => exact Or.inr fun e => hd k e.symm (h4 i hi k hm)
theorem OwnS.cells (h : OwnS w base P v n E) {b : Nat} {o : Obj} (e : v.ownBlock = some b) (ho : w.heap[b]? = some o) : o.isCells = true := by
  obtain ⟨M, h1, -⟩ := h
  rcases h1.2 with ⟨rfl, _⟩ | ⟨g, cap, cur, rfl, _, hg, _⟩
  · simp [Value.ownBlock] at e
  · have : g = b := by simpa [Value.ownBlock] using e
    subst this
    rw [hg] at ho
    cases ho
    rfl
theorem OwnS.blk (h : OwnS w base P v n E) {b : Nat} (e : v.ownBlock = some b) : P b := by
  obtain ⟨M, -, -, h3, -⟩ := h
  exact h3 b e
theorem OwnS.below (h : OwnS w base P v n E) (hb : Below w.heap.size w w') : OwnS w' base P v n E := h.grown (gb_below hb none) (fun _ e => by cases e)
theorem OwnS.push {v' mv : Value} {z : Int} {M : Nat → Value} (h1 : w.ownsRow base 49 2 v n (flatI (fun i => .bool (decide (E i < 0))) M n)) (h2 : ∀ i, i < n → FrZ w base (.agg #[.bool (decide (E i < 0)), M i]) (E i))
    (h4 : ∀ i, i < n → ∀ b, (M i).ownBlock = some b → P b) (hr : FrZ w base (.agg #[.bool (decide (z < 0)), mv]) z) (hmP : ∀ b, mv.ownBlock = some b → P b)
    (g1 : w'.ownsRow base 49 2 v' (n + 1) (flatI (fun i => .bool (decide (E i < 0))) M n ++ [.bool (decide (z < 0)), mv])) (g2 : w.grownBy w' v.ownBlock) (g3 : ∀ b, v'.ownBlock = some b → P b) :
    OwnS w' base P v' (n + 1) (fun i => if i = n then z else E i) := by
  refine ⟨fun i => if i = n then mv else M i, ?_, fun i hi => ?_, g3, fun i hi b hb => ?_⟩
  · show w'.ownsRow base _ 2 v' (n + 1) (flatI _ _ n ++ [_, _])
    rw [flatI_congr (b' := fun i => .bool (decide (E i < 0))) (m' := M) (fun i hi => ⟨by simp only [if_neg (Nat.ne_of_lt hi)], by simp only [if_neg (Nat.ne_of_lt hi)]⟩)]
    simp only [if_true]
    exact g1
  · show FrZ w' base (.agg #[.bool (decide ((if i = n then z else E i) < 0)), if i = n then mv else M i]) (if i = n then z else E i)
    by_cases e : i = n
    · simp only [if_pos e]
      exact hr.grow_tag h1 g2
    · simp only [if_neg e]
      exact (h2 i (by omega)).grow_tag h1 g2
  · by_cases e : i = n
    · simp only [if_pos e] at hb
      exact hmP b hb
    · simp only [if_neg e] at hb
      exact h4 i (by omega) b hb
end
theorem wpIn_pushS {F : Fence} {nF : Nat} {wr : World} {ops : Array Oper} {rest : List Oper} {o : Oper} {a : Act} {Q : Exit → Act → World → Prop} (hgd : o.guard = none) (s x : Operand) (t : TypeId)
    (ho : o.op = .call { callee := .builtin .append, args := #[s, x], argTypes := #[t, t] }) (ht : Try.prog.underlying t = some (.slice 49))
    {base : Nat} {P : Nat → Prop} {v : Value} {n : Nat} {E : Nat → Int} (hown : OwnS wr base P v n E) (hs : a.eval s = v) {z : Int} {mv : Value} {nb : Nat} (hx : a.eval x = .slice (some ⟨nb, 0, none⟩) 1 1) (hnb : nb = wr.heap.size) (hm : mv.oneCell' = true)
    (hz : FrZ wr base (.agg #[.bool (decide (z < 0)), mv]) z) (hmP : ∀ b, mv.ownBlock = some b → P b) (hb : base ≤ wr.heap.size) (hn : n ≤ 1048576) (hP : ∀ b, wr.heap.size ≤ b → P b)
    (h : ∀ v' w', OwnS w' base P v' (n + 1) (fun i => if i = n then z else E i) → Below base wr w' → wr.grownBy w' v.ownBlock → wpListIn F nF Try.prog ops Q rest (a.put o.dst v') w') :
    wpListIn F nF Try.prog ops Q (o :: rest) a (wr.alloc (.cells #[.bool (decide (z < 0)), mv] 49)) := by
  subst hnb
  obtain ⟨i0, hi, hz0, hz1, hz2⟩ := info_parts infoI
  obtain ⟨M, o1, o2, o5, o6⟩ := hown
  have hba := (Below.refl wr.heap.size wr).alloc (Nat.le_refl _) (.cells #[.bool (decide (z < 0)), mv] 49)
  have o3 := own_below o1 hba
  refine wpListIn_append_own_at _ hgd s x t ho base 49 i0 (.agg #[.bool false, .slice none 0 0]) 2 32 ht hi hz0 hz1 hz2 rfl (by decide) v n _ hs o3 ⟨wr.heap.size, 0, none⟩ 1 1 [.bool (decide (z < 0)), mv] hx rfl ?_ ?_ (by unfold maxLen; omega) (by omega) (Nat.le_trans hb hba.size) fun v' w' h1 h2 _ h5 => h v' w' (OwnS.push o3 (fun i hi => (o2 i hi).below hba) o6 (hz.below hba) hmP h1 h2 (fun b e => ?_)) ?_ ?_
  · intro j y hj
    match j, hj with
    | 0, hj => simp at hj; subst hj; simp [Addr.add]
    | 1, hj => simp at hj; subst hj; simp [Addr.add]
  · intro y hy
    simp at hy
    rcases hy with rfl | rfl
    · rfl
    · exact hm
  · rcases h5 with h5 | h5
    · exact o5 b (by rw [← h5]; exact e)
    · rw [h5] at e
      cases e
      exact hP _ hba.size
  · exact ((Below.refl base wr).trans (hba.mono hb)).grown h2 (Nat.le_trans hb hba.size) fun k hk => (o3.lt k hk).1
  · have h7 := gb_trans (gb_below hba v.ownBlock) h2
    exact h7
end Go.Proofs.Ytejliecmdkmgiaa
namespace Go.Proofs.Ytejliecmdkmgiaa
open Go.RowKit Go.Shelf
def midB (m j i : Nat) : Nat := if j < i then bn (m + 1) i else bn m i
theorem midB_top (m K : Nat) {i : Nat} (hi : i < K + 1) : midB m K i = bn m i := if_neg (by omega)
theorem midB_end (m i : Nat) : midB m 0 i = bn (m + 1) i := by
  unfold midB
  by_cases h : 0 < i
  · rw [if_pos h]
  · obtain rfl : i = 0 := by omega
    rw [if_neg h, bn_zero, bn_zero]
theorem midB_step (m p i : Nat) : (if i = p + 1 then ((bn m (p + 1) + bn m p : Nat) : Int) else (midB m (p + 1) i : Int)) = (midB m p i : Int) := by
  unfold midB
  by_cases e : i = p + 1
  · subst e
    rw [if_pos rfl, if_pos (by omega), bn_succ, Nat.add_comm]
  · rw [if_neg e]
    by_cases h : p + 1 < i
    · rw [if_pos h, if_pos (by omega)]
    · rw [if_neg h, if_neg (by omega)]
theorem bn_first (i : Nat) : (if i = 0 then (1 : Int) else 0) = (bn 0 i : Int) := by
  cases i with
  | zero => rfl
  | succ i => rfl
theorem choices_good (N K : Nat) (w : World) (hN : N ≤ 64) (hK : K ≤ N) :
    Calls Try.prog 119 #[.int .i64 N, .int .i64 K] w fun e w' => e = .returned (.int .u64 (bn N K : Nat)) ∧ Below w.heap.size w w' := by
  have hmix : Try.prog.follows .mixedOrders = true := by kernel_rfl
  obtain ⟨L, hL⟩ : ∃ L, L = K + 1 := ⟨_, rfl⟩
  have a1 : ¬ (K : Int) < 0 := by omega
  have a2 : ¬ (N : Int) < (K : Int) := by omega
  have a3 : ¬ (64 : Int) < (N : Int) := by omega
  have wk1 : IntKind.i64.wrap ((K : Int) + 1) = (L : Int) := by rw [show (K : Int) + 1 = (L : Int) by omega]; exact IntWalk.i64_in _ (by omega)
  have mk := fun u => mk_words L (by omega) u
  have hb1 := bl_alloc w (.cells (madeCells #[.int .u64 0] L) 62)
  have hR0 : RowAt .u64 (w.alloc (.cells (madeCells #[.int .u64 0] L) 62)) w.heap.size 0 L (fun _ => 0) := CellsAt.made w (.int .u64 0) L 62
  obtain ⟨r0, r1⟩ := hR0.get0 (show 0 < L by omega) rfl
  have hR1 := (hR0.set0 (show 0 < L by omega) 1).congr (g := fun i => ((bn 0 i : Nat) : Int)) (fun i _ => bn_first i)
  have hb2 := hb1.grown (gb_set (w.alloc (.cells (madeCells #[.int .u64 0] L) 62)) ⟨w.heap.size, 0, none⟩ (.int .u64 1)) hb1.size (fun k hk => by cases hk; exact Nat.le_refl _)
  have hw : (w.alloc (.cells (madeCells #[.int .u64 0] L) 62)).setCell ⟨w.heap.size, 0, none⟩ (.int .u64 1) = w.alloc (.cells ((madeCells #[.int .u64 0] L).setIfInBounds 0 (.int .u64 1)) 62) := by simp [go_sem]
  rw [hw] at hR1 hb2
  have HR := Lib.hid hR1
  have HB := Lib.hid hb2
  clear hw
  clear hb1 hR0 hR1 hb2
  have h0 : (0 : Int) < (L : Int) := by omega
  have HL := Lib.hid hL
  have hKK : (K : Int) < (L : Int) := by omega
  clear hL
  go_enter Try.func119, Try.ntmps119
  go_upto_region 5 with fail
  obtain ⟨X, hX⟩ : ∃ X, X = w.heap.size := ⟨_, rfl⟩
  rw [← hX] at HR HB ⊢
  generalize w.alloc (.cells ((madeCells #[.int .u64 0] L).setIfInBounds 0 (.int .u64 1)) 62) = W1 at *
  have HX := Lib.hid hX
  clear hX mk r0 r1
  go_wp2_with fail
  go_loopw [20] (fun mv wr => ∃ m : Nat, m ≤ N ∧ mv = .int .i64 m ∧ RowAt .u64 wr X 0 L (fun i => ((bn m i : Nat) : Int)) ∧ Below X w wr) (fun mv _ => N - (intOf mv).toNat)
  case atStart => exact ⟨0, Nat.zero_le _, rfl, HR.out, HB.out⟩
  case round =>
    clear HR HB
    obtain ⟨m, hm, rfl, hr, hbl⟩ := hrel
    by_cases hc : m < N
    · have hc1 : (m : Int) < (N : Int) := by omega
      have HR := Lib.hid (hr.congr (g := fun i => ((midB m K i : Nat) : Int)) (fun i hi => by rw [midB_top m K (by have := HL.out; omega)]))
      have HB := Lib.hid hbl
      clear hr hbl
      go_wp2_with fail
      go_loopw [6] (fun jv wr => ∃ j : Nat, j ≤ K ∧ jv = .int .i64 j ∧ RowAt .u64 wr X 0 L (fun i => ((midB m j i : Nat) : Int)) ∧ Below X w wr) (fun jv _ => (intOf jv).toNat)
      case atStart => exact ⟨K, Nat.le_refl _, rfl, HR.out, HB.out⟩
      case round =>
        clear HR HB
        obtain ⟨j, hj, rfl, hr, hbl⟩ := hrel
        by_cases hj0 : 0 < j
        · obtain ⟨p, hp⟩ : ∃ p, j = p + 1 := ⟨j - 1, by omega⟩
          have hj1 : (0 : Int) < (j : Int) := by omega
          have v1 : IntKind.i64.wrap ((j : Int) - 1) = (p : Int) := by rw [show (j : Int) - 1 = (p : Int) by omega]; exact IntWalk.i64_in _ (by omega)
          have e1 : midB m j j = bn m j := if_neg (by omega)
          have e2 : midB m j p = bn m p := if_neg (by omega)
          have hbb : bn m j + bn m p < 9223372036854775808 := by
            have := bn_64 (n := m + 1) (p + 1) (by omega)
            rw [bn_succ] at this
            rw [hp]; omega
          obtain ⟨y, hy⟩ : ∃ y, y = bn m j := ⟨_, rfl⟩
          obtain ⟨z, hz⟩ : ∃ z, z = bn m p := ⟨_, rfl⟩
          obtain ⟨c0, c1⟩ := hr.get0 (show j < L by have := HL.out; omega) (show ((midB m j j : Nat) : Int) = (y : Int) by rw [e1, hy])
          obtain ⟨d0, d1⟩ := hr.get0 (show p < L by have := HL.out; omega) (show ((midB m j p : Nat) : Int) = (z : Int) by rw [e2, hz])
          rw [← hy, ← hz] at hbb
          have v2 : IntKind.wrap .u64 ((y : Int) + (z : Int)) = ((y + z : Nat) : Int) := by rw [show (y : Int) + (z : Int) = ((y + z : Nat) : Int) by omega]; exact IntWalk.u64_in _ (by omega)
          have hjK : (j : Int) < (L : Int) := by have := HL.out; omega
          have hpK : (p : Int) < (L : Int) := by have := HL.out; omega
          have hbd := bl_drew wr
          have HR2 := Lib.hid (((hr.below hbd).set0 (show j < L by have := HL.out; omega) ((y + z : Nat) : Int)).congr (g := fun i => ((midB m p i : Nat) : Int)) (fun i _ => by
            rw [← midB_step m p i, hy, hz, hp]))
          have HB2 := Lib.hid ((hbl.trans (hbd.mono (by have := hbl.size; have := HX.out; omega))).grown (gb_set wr.drew ⟨X, j, none⟩ (.int .u64 ((y + z : Nat) : Int))) (by have := hbl.size; have := HX.out; exact Nat.le_trans (by omega) hbl.size) (fun k hk => by cases hk; exact Nat.le_refl _))
          have HP := Lib.hid hp
          have b0 := cell_stays hbd c0
          have b1 := froz_stays hbd c0 c1
          clear hr hbl hbd e1 e2 hy hz hp hj0 d1
          go_wp2_with fail
          refine region_early (fun u => u.cell? ⟨X, j, none⟩ = some (.int .u64 (y : Int)) ∧ u.cell? ⟨X, p, none⟩ = some (.int .u64 (z : Int))) 10 [0, 1, 2, 3, 4, 5, 6, 7, 8, 9] 2 hmix (by kernel_rfl) rfl (by kernel_rfl) (fun _ _ d _ _ h => by cases d <;> exact h) ⟨c0, d0⟩ ?_
          iterate 10 (refine early_take rfl (by rfl) ?_; apply Exists.intro; refine ⟨fun u hu => ?_, ?_⟩; (obtain ⟨u_1, u_2⟩ := hu; go_simp; rfl); simp only [Act.put, List.getElem_toArray, List.getElem_cons_zero, List.getElem_cons_succ, List.setIfInBounds_toArray, List.set_cons_zero, List.set_cons_succ])
          refine early_done ?_
          simp only [marked]
          refine anyL_one (i := 10) (by kernel_rfl) rfl (by rfl) fun J hJ => ?_
          go_simp
          refine hJ _ _ (fun e => absurd e (by decide)) ?_
          clear hJ J
          refine anyL_one (i := 11) (by kernel_rfl) rfl (by rfl) fun J hJ => ?_
          go_simp
          refine hJ _ _ (fun e => absurd e (by decide)) ?_
          clear hJ J
          refine anyL_done (by kernel_rfl) ?_ _
          clear c0 c1 d0 b0 b1
          go_wp2_with fail
          go_roundw
          case rel => exact ⟨p, by have := HP.out; omega, by go_num, HR2.out, HB2.out⟩
          case measure => have := HP.out; simp [intOf]; omega
        · obtain rfl : j = 0 := by omega
          have HR2 := Lib.hid (hr.congr (g := fun i => ((bn (m + 1) i : Nat) : Int)) (fun i _ => by rw [midB_end m i]))
          have HB2 := Lib.hid hbl
          have wk : IntKind.i64.wrap ((m : Int) + 1) = (m : Int) + 1 := IntWalk.i64_in _ (by omega)
          clear hr hbl
          go_wp2_with fail
          go_roundw
          case rel => exact ⟨m + 1, by omega, by go_num, HR2.out, HB2.out⟩
          case measure => simp [intOf]; omega
    · obtain rfl : m = N := by omega
      obtain ⟨c0, c1⟩ := hr.get0 (show K < L by have := HL.out; omega) rfl
      have HB2 := Lib.hid hbl
      clear hr hbl
      go_wp2_with fail
      go_ret
      rw [HX.out] at HB2
      exact ⟨rfl, HB2.out⟩
theorem size14_good (N K : Nat) (w : World) (hN : N ≤ 64) (hK : K ≤ N) :
    Calls Try.prog 55 #[.int .i64 N, .int .i64 K] w fun e w' => e = .returned (.int .i64 (bn N K : Nat)) ∧ Below w.heap.size w w' := by
  have hmix : Try.prog.follows .mixedOrders = true := by kernel_rfl
  obtain ⟨L, hL⟩ : ∃ L, L = K + 1 := ⟨_, rfl⟩
  have a1 : ¬ (K : Int) < 0 := by omega
  have a2 : ¬ (N : Int) < (K : Int) := by omega
  have a3 : ¬ (64 : Int) < (N : Int) := by omega
  have wk1 : IntKind.i64.wrap ((K : Int) + 1) = (L : Int) := by rw [show (K : Int) + 1 = (L : Int) by omega]; exact IntWalk.i64_in _ (by omega)
  have mk := fun u => mk_nums' L (by omega) u
  have hb1 := bl_alloc w (.cells (madeCells #[.int .i64 0] L) 3)
  have hR0 : RowAt .i64 (w.alloc (.cells (madeCells #[.int .i64 0] L) 3)) w.heap.size 0 L (fun _ => 0) := CellsAt.made w (.int .i64 0) L 3
  obtain ⟨r0, r1⟩ := hR0.get0 (show 0 < L by omega) rfl
  have hR1 := (hR0.set0 (show 0 < L by omega) 1).congr (g := fun i => ((bn 0 i : Nat) : Int)) (fun i _ => bn_first i)
  have hb2 := hb1.grown (gb_set (w.alloc (.cells (madeCells #[.int .i64 0] L) 3)) ⟨w.heap.size, 0, none⟩ (.int .i64 1)) hb1.size (fun k hk => by cases hk; exact Nat.le_refl _)
  have hw : (w.alloc (.cells (madeCells #[.int .i64 0] L) 3)).setCell ⟨w.heap.size, 0, none⟩ (.int .i64 1) = w.alloc (.cells ((madeCells #[.int .i64 0] L).setIfInBounds 0 (.int .i64 1)) 3) := by simp [go_sem]
  rw [hw] at hR1 hb2
  have HR := Lib.hid hR1
  have HB := Lib.hid hb2
  clear hw
  clear hb1 hR0 hR1 hb2
  have h0 : (0 : Int) < (L : Int) := by omega
  have HL := Lib.hid hL
  have hKK : (K : Int) < (L : Int) := by omega
  clear hL
  go_enter Try.func55, Try.ntmps55
  go_upto_region 5 with fail
  obtain ⟨X, hX⟩ : ∃ X, X = w.heap.size := ⟨_, rfl⟩
  rw [← hX] at HR HB ⊢
  generalize w.alloc (.cells ((madeCells #[.int .i64 0] L).setIfInBounds 0 (.int .i64 1)) 3) = W1 at *
  have HX := Lib.hid hX
  clear hX mk r0 r1
  go_wp2_with fail
  go_loopw [6] (fun mv wr => ∃ m : Nat, m ≤ N ∧ mv = .int .i64 m ∧ RowAt .i64 wr X 0 L (fun i => ((bn m i : Nat) : Int)) ∧ Below X w wr) (fun mv _ => N - (intOf mv).toNat)
  case atStart => exact ⟨0, Nat.zero_le _, rfl, HR.out, HB.out⟩
  case round =>
    clear HR HB
    obtain ⟨m, hm, rfl, hr, hbl⟩ := hrel
    by_cases hc : m < N
    · have hc1 : (m : Int) < (N : Int) := by omega
      have HR := Lib.hid (hr.congr (g := fun i => ((midB m K i : Nat) : Int)) (fun i hi => by rw [midB_top m K (by have := HL.out; omega)]))
      have HB := Lib.hid hbl
      clear hr hbl
      go_wp2_with fail
      go_loopw [7] (fun jv wr => ∃ j : Nat, j ≤ K ∧ jv = .int .i64 j ∧ RowAt .i64 wr X 0 L (fun i => ((midB m j i : Nat) : Int)) ∧ Below X w wr) (fun jv _ => (intOf jv).toNat)
      case atStart => exact ⟨K, Nat.le_refl _, rfl, HR.out, HB.out⟩
      case round =>
        clear HR HB
        obtain ⟨j, hj, rfl, hr, hbl⟩ := hrel
        by_cases hj0 : 0 < j
        · obtain ⟨p, hp⟩ : ∃ p, j = p + 1 := ⟨j - 1, by omega⟩
          have hj1 : (0 : Int) < (j : Int) := by omega
          have v1 : IntKind.i64.wrap ((j : Int) - 1) = (p : Int) := by rw [show (j : Int) - 1 = (p : Int) by omega]; exact IntWalk.i64_in _ (by omega)
          have e1 : midB m j j = bn m j := if_neg (by omega)
          have e2 : midB m j p = bn m p := if_neg (by omega)
          have hbb : bn m j + bn m p < 9223372036854775808 := by
            have := bn_64 (n := m + 1) (p + 1) (by omega)
            rw [bn_succ] at this
            rw [hp]; omega
          obtain ⟨y, hy⟩ : ∃ y, y = bn m j := ⟨_, rfl⟩
          obtain ⟨z, hz⟩ : ∃ z, z = bn m p := ⟨_, rfl⟩
          obtain ⟨c0, c1⟩ := hr.get0 (show j < L by have := HL.out; omega) (show ((midB m j j : Nat) : Int) = (y : Int) by rw [e1, hy])
          obtain ⟨d0, d1⟩ := hr.get0 (show p < L by have := HL.out; omega) (show ((midB m j p : Nat) : Int) = (z : Int) by rw [e2, hz])
          rw [← hy, ← hz] at hbb
          have v2 : IntKind.wrap .i64 ((y : Int) + (z : Int)) = ((y + z : Nat) : Int) := by rw [show (y : Int) + (z : Int) = ((y + z : Nat) : Int) by omega]; exact IntWalk.i64_in _ (by omega)
          have hjK : (j : Int) < (L : Int) := by have := HL.out; omega
          have hpK : (p : Int) < (L : Int) := by have := HL.out; omega
          have hbd := bl_drew wr
          have HR2 := Lib.hid (((hr.below hbd).set0 (show j < L by have := HL.out; omega) ((y + z : Nat) : Int)).congr (g := fun i => ((midB m p i : Nat) : Int)) (fun i _ => by
            rw [← midB_step m p i, hy, hz, hp]))
          have HB2 := Lib.hid ((hbl.trans (hbd.mono (by have := hbl.size; have := HX.out; omega))).grown (gb_set wr.drew ⟨X, j, none⟩ (.int .i64 ((y + z : Nat) : Int))) (by have := hbl.size; have := HX.out; exact Nat.le_trans (by omega) hbl.size) (fun k hk => by cases hk; exact Nat.le_refl _))
          have HP := Lib.hid hp
          have b0 := cell_stays hbd c0
          have b1 := froz_stays hbd c0 c1
          clear hr hbl hbd e1 e2 hy hz hp hj0 d1
          go_wp2_with fail
          refine region_early (fun u => u.cell? ⟨X, j, none⟩ = some (.int .i64 (y : Int)) ∧ u.cell? ⟨X, p, none⟩ = some (.int .i64 (z : Int))) 12 [0, 1, 2, 3, 4, 5, 6, 7, 8, 9, 10, 11] 2 hmix (by kernel_rfl) rfl (by kernel_rfl) (fun _ _ d _ _ h => by cases d <;> exact h) ⟨c0, d0⟩ ?_
          iterate 12 (refine early_take rfl (by rfl) ?_; apply Exists.intro; refine ⟨fun u hu => ?_, ?_⟩; (obtain ⟨u_1, u_2⟩ := hu; go_simp; rfl); simp only [Act.put, List.getElem_toArray, List.getElem_cons_zero, List.getElem_cons_succ, List.setIfInBounds_toArray, List.set_cons_zero, List.set_cons_succ])
          refine early_done ?_
          simp only [marked]
          refine anyL_one (i := 12) (by kernel_rfl) rfl (by rfl) fun J hJ => ?_
          go_simp
          refine hJ _ _ (fun e => absurd e (by decide)) ?_
          clear hJ J
          refine anyL_one (i := 13) (by kernel_rfl) rfl (by rfl) fun J hJ => ?_
          go_simp
          refine hJ _ _ (fun e => absurd e (by decide)) ?_
          clear hJ J
          refine anyL_done (by kernel_rfl) ?_ _
          clear c0 c1 d0 b0 b1
          go_wp2_with fail
          go_roundw
          case rel => exact ⟨p, by have := HP.out; omega, by go_num, HR2.out, HB2.out⟩
          case measure => have := HP.out; simp [intOf]; omega
        · obtain rfl : j = 0 := by omega
          have HR2 := Lib.hid (hr.congr (g := fun i => ((bn (m + 1) i : Nat) : Int)) (fun i _ => by rw [midB_end m i]))
          have HB2 := Lib.hid hbl
          have wk : IntKind.i64.wrap ((m : Int) + 1) = (m : Int) + 1 := IntWalk.i64_in _ (by omega)
          clear hr hbl
          go_wp2_with fail
          go_roundw
          case rel => exact ⟨m + 1, by omega, by go_num, HR2.out, HB2.out⟩
          case measure => simp [intOf]; omega
    · obtain rfl : m = N := by omega
      obtain ⟨c0, c1⟩ := hr.get0 (show K < L by have := HL.out; omega) rfl
      have HB2 := Lib.hid hbl
      clear hr hbl
      go_wp2_with fail
      go_ret
      rw [HX.out] at HB2
      exact ⟨rfl, HB2.out⟩
end Go.Proofs.Ytejliecmdkmgiaa
namespace Go.Proofs.Ytejliecmdkmgiaa
open Go.RowKit Go.Shelf
def mszE (r c : Int) (n : Nat) (k : Int) : Int := if checkE r c n = 0 then (if k < 0 ∨ r < k ∨ c < k then 3 else 0) else 1
theorem msize_any (r c : Int) (a : Option Addr) (n cap : Nat) (k : Int) (hn : n ≤ 17592186044416) (w : World) :
    Calls Try.prog 118 #[.agg #[.int .i64 r, .int .i64 c, .slice a n cap], .int .i64 k] w fun e w' => e = .returned (.int .i64 (mszE r c n k)) ∧ Below w.heap.size w w' := by
  have HM := Lib.hid (MBox.new w r c (.slice a n cap))
  have HB := Lib.hid (bl_alloc w (.cells #[.int .i64 r, .int .i64 c, .slice a n cap] 24))
  have HCK := Lib.hid (fun (u : World) => Check_any r c a n cap hn u)
  have x0 := HM.out.m0
  have x1 := HM.out.m1
  have x2 := HM.out.m2
  go_enter Try.func118, Try.ntmps118
  go_upto_region 1 with fail
  generalize w.alloc (.cells #[.int .i64 r, .int .i64 c, .slice a n cap] 24) = W at *
  go_wp2_with fail
  (refine (HCK.out W).mono ?_)
  rintro e w1 ⟨rfl, hb⟩
  replace HM := Lib.hid (HM.out.below hb)
  replace HB := Lib.hid (below_via HB.out hb)
  clear hb HCK x0 x1 x2
  have x0 := HM.out.m0
  have x1 := HM.out.m1
  have hmz : mszE r c n k = if checkE r c n = 0 then (if k < 0 ∨ r < k ∨ c < k then 3 else 0) else 1 := rfl
  have HMZ := Lib.hid hmz
  clear hmz HM
  rcases checkE_or r c n with h | h
  · rw [h] at HMZ ⊢
    by_cases h1 : k < 0
    · have HMY := HMZ.out
      rw [if_pos rfl, if_pos (Or.inl h1)] at HMY
      have HMX := Lib.hid HMY
      clear HMY HMZ h
      go_wp2_with fail
      go_ret
      exact ⟨by rw [HMX.out]; first | done | rfl, HB.out⟩
    · by_cases h2 : r < k ∨ c < k
      · have HMY := HMZ.out
        rw [if_pos rfl, if_pos (Or.inr h2)] at HMY
        have HMX := Lib.hid HMY
        have h3 : min r c < k := by omega
        clear HMY HMZ h h2
        go_wp2_with fail
        go_ret
        exact ⟨by rw [HMX.out]; first | done | rfl, HB.out⟩
      · have HMY := HMZ.out
        rw [if_pos rfl, if_neg (by omega)] at HMY
        have HMX := Lib.hid HMY
        have h3 : ¬ min r c < k := by omega
        clear HMY HMZ h h2
        go_wp2_with fail
        go_ret
        exact ⟨by rw [HMX.out]; first | done | rfl, HB.out⟩
  · rw [h] at HMZ ⊢
    have HMY := HMZ.out
    rw [if_neg (by decide)] at HMY
    have HMX := Lib.hid HMY
    clear HMY HMZ h
    go_wp2_with fail
    go_ret
    exact ⟨by rw [HMX.out]; first | done | rfl, HB.out⟩
end Go.Proofs.Ytejliecmdkmgiaa
namespace Go.Proofs.Ytejliecmdkmgiaa
open Go.RowKit
theorem Check09_any (r c : Int) (a : Option Addr) (n cap : Nat) (hn : n ≤ 17592186044416) (w : World) (hr : 0 ≤ r ∧ r ≤ 64) (hc : 0 ≤ c ∧ c ≤ 64) (he : (n : Int) = r * c) :
    Calls Try.prog 54 #[.agg #[.int .i64 r, .int .i64 c, .slice a n cap]] w fun e w' => e = .returned (.int .i64 0) ∧ Below w.heap.size w w' := by
  obtain ⟨m0, m1⟩ := prod64 hr hc
  obtain ⟨h0, h1⟩ := hr
  obtain ⟨h2, h3⟩ := hc
  have hne : ((n : Int) != r * c) = false := by rw [bne_eq_false_iff_eq]; exact he
  clear he
  go_enter Try.func54, Try.ntmps54
  go_wp2_with fail
  go_ret
  exact ⟨rfl, (Below.refl _ _).alloc (Nat.le_refl _) _⟩
theorem Check09_all (r c : Int) (a : Option Addr) (n cap : Nat) (hn : n ≤ 17592186044416) (w : World) :
    Calls Try.prog 54 #[.agg #[.int .i64 r, .int .i64 c, .slice a n cap]] w fun e w' => e = .returned (.int .i64 (checkE r c n)) ∧ Below w.heap.size w w' := by
  by_cases hs : soundB r c n = true
  · obtain ⟨h1, h2, h3⟩ := soundB_yes hs
    rw [show checkE r c n = 0 from if_pos hs]
    exact Check09_any r c a n cap hn w h1 h2 h3
  · have hE : checkE r c n = 1 := if_neg hs
    rw [hE]
    have hbad : (r < 0) ∨ (0 ≤ r ∧ 64 < r) ∨ ((0 ≤ r ∧ r ≤ 64) ∧ c < 0) ∨ ((0 ≤ r ∧ r ≤ 64) ∧ 64 < c) ∨ ((0 ≤ r ∧ r ≤ 64) ∧ (0 ≤ c ∧ c ≤ 64) ∧ (0 ≤ r * c ∧ r * c ≤ 4096) ∧ ((n : Int) != r * c) = true) := by
      by_cases h1 : 0 ≤ r ∧ r ≤ 64
      · by_cases h2 : 0 ≤ c ∧ c ≤ 64
        · refine Or.inr (Or.inr (Or.inr (Or.inr ⟨h1, h2, prod64 h1 h2, ?_⟩)))
          rw [bne_iff_ne]
          intro h3
          exact hs (by unfold soundB sideB; simp [h1, h2, h3])
        · omega
      · omega
    clear hs hE
    rcases hbad with h1 | ⟨h1, h2⟩ | ⟨⟨h1, h2⟩, h3⟩ | ⟨⟨h1, h2⟩, h3⟩ | ⟨⟨h1, h2⟩, ⟨h3, h4⟩, ⟨m0, m1⟩, h5⟩
    all_goals
      go_enter Try.func54, Try.ntmps54
      go_wp2_with fail
      go_ret
      exact ⟨rfl, (Below.refl _ _).alloc (Nat.le_refl _) _⟩
end Go.Proofs.Ytejliecmdkmgiaa
