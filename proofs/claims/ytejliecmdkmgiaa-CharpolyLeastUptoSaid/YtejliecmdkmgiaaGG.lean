/- What the stores of bareiss.step do to a field. The walk of bareiss.step. -/
import Derived.Test.YtejliecmdkmgiaaGE
import Derived.Test.YtejliecmdkmgiaaGF
import Derived.StillTailTactics
set_option linter.unusedVariables false
set_option linter.unusedSimpArgs false
namespace Go.Proofs.Ytejliecmdkmgiaa
open Go.RowKit

/-- memory below base and from N on is as it was -/
structure Frm (base N : Nat) (w w' : World) : Prop where
  below : Below base w w'
  high : ∀ k, N ≤ k → k < w.heap.size → w'.heap[k]? = w.heap[k]?
theorem Frm.refl (base N : Nat) (w : World) : Frm base N w w := ⟨Below.refl _ _, fun _ _ _ => rfl⟩
theorem Frm.size {base N : Nat} {w w' : World} (h : Frm base N w w') : w.heap.size ≤ w'.heap.size := h.below.size
theorem Frm.of {base N : Nat} {w w' : World} (h : Below w.heap.size w w') (hb : base ≤ w.heap.size) : Frm base N w w' := ⟨h.mono hb, fun k _ hk => h.block k hk⟩
theorem Frm.trans {base N : Nat} {w w1 w2 : World} (h : Frm base N w w1) (h' : Frm base N w1 w2) : Frm base N w w2 :=
  ⟨h.below.trans h'.below, fun k hN hk => (h'.high k hN (Nat.lt_of_lt_of_le hk h.size)).trans (h.high k hN hk)⟩
theorem Frm.next {base N : Nat} {w w1 w2 : World} (h : Frm base N w w1) (hb : Below w1.heap.size w1 w2) (hbase : base ≤ w.heap.size) : Frm base N w w2 :=
  h.trans (Frm.of hb (Nat.le_trans hbase h.size))
theorem Frm.grown {base N : Nat} {w w1 w2 : World} {row : Option Nat} (h : Frm base N w w1) (hg : w1.grownBy w2 row) (hB : base ≤ w1.heap.size) (hr : ∀ k, row = some k → base ≤ k ∧ k < N) : Frm base N w w2 :=
  h.trans ⟨(Below.refl _ _).grown hg hB fun k hk => (hr k hk).1, fun k hN hk => hg.block k hk fun e => by have := (hr k e.symm).2; omega⟩

section
variable {X : Nat → Prop} {W W' : World} {base fb m C k : Nat} {B : Nat → Nat} {G : Nat → Nat → Int} {tn : Bool} {last : Int} {rs ns : Value}

theorem Fl.below (h : Fl X W base fb m C B G tn last k rs ns) (hb_ : Below W.heap.size W W') : Fl X W' base fb m C B G tn last k rs ns := by
  have hb := hb_
  have hg : W.grownBy W' none := gb_below hb none
  have kc := fun {b i : Nat} {u : Value} (hu : W.cell? ⟨b, i, none⟩ = some u ∧ W.frozen? ⟨b, i, none⟩ = false) => kept_cell hg (by simp) hu
  obtain ⟨s, mv, e1, e2, e3, e4⟩ := h.c3
  obtain ⟨f, hf⟩ := h.n
  exact { h with xlt := fun b hb => Nat.lt_of_lt_of_le (h.xlt b hb) hb_.size, c0 := kc h.c0, c1 := kc h.c1, c2 := kc h.c2, c5 := kc h.c5, c3 := ⟨s, mv, kc e1, kc e2, e3.below hb, fun b hb' => ⟨Nat.lt_of_lt_of_le (e4 b hb').1 hb.size, (e4 b hb').2⟩⟩, r := h.r.grow hg (by simp), n := ⟨f, hf.grow hg (by simp)⟩, lie := fun j hj => (h.lie j hj).below hb }
theorem Fl.congr (h : Fl X W base fb m C B G tn last k rs ns) {F : Nat → Nat → Int} (e : ∀ i j, i < m → j < C → G i j = F i j) : Fl X W base fb m C B F tn last k rs ns :=
  { h with lie := fun i hi => (h.lie i hi).congr fun j hj => e i j hi hj }
theorem Fl.fbW (h : Fl X W base fb m C B G tn last k rs ns) : fb < W.heap.size := World.block_lt_of_cell? W _ h.c0.1

/-- a block of the list of rows, or of numbers, turns -/
theorem Fl.rest (h : Fl X W base fb m C B G tn last k rs ns) {d : Nat} (hg : W.grownBy W' (some d)) (hd : DX X fb m B rs ns d) (hf : d ≠ fb) :
    (W'.cell? ⟨fb, 0, none⟩ = some rs ∧ W'.frozen? ⟨fb, 0, none⟩ = false) ∧ (W'.cell? ⟨fb, 1, none⟩ = some ns ∧ W'.frozen? ⟨fb, 1, none⟩ = false) ∧ (W'.cell? ⟨fb, 2, none⟩ = some (.bool tn) ∧ W'.frozen? ⟨fb, 2, none⟩ = false) ∧
    (∃ s mv, (W'.cell? ⟨fb, 3, none⟩ = some (.bool s) ∧ W'.frozen? ⟨fb, 3, none⟩ = false) ∧ (W'.cell? ⟨fb, 4, none⟩ = some mv ∧ W'.frozen? ⟨fb, 4, none⟩ = false) ∧ RdZ W' (.agg #[.bool s, mv]) last ∧ ∀ b, mv.ownBlock = some b → b < W'.heap.size ∧ ¬ DX X fb m B rs ns b) ∧
    (W'.cell? ⟨fb, 5, none⟩ = some (.int .i64 k) ∧ W'.frozen? ⟨fb, 5, none⟩ = false) := by
  have kc := fun {i : Nat} {u : Value} (hu : W.cell? ⟨fb, i, none⟩ = some u ∧ W.frozen? ⟨fb, i, none⟩ = false) => kept_cell hg (fun e => hf (Option.some.inj e)) hu
  obtain ⟨s, mv, e1, e2, e3, e4⟩ := h.c3
  exact ⟨kc h.c0, kc h.c1, kc h.c2, ⟨s, mv, kc e1, kc e2, e3.gb hg (fun e => (e4 d e).2 hd), fun b hb => ⟨Nat.lt_of_lt_of_le (e4 b hb).1 hg.size, (e4 b hb).2⟩⟩, kc h.c5⟩

/-- a cell of the field itself is written -/
theorem Fl.head (h : Fl X W base fb m C B G tn last k rs ns) (hg : W.grownBy W' (some fb)) {tn' : Bool} {last' : Int} {k' : Nat} (a0 : W'.cell? ⟨fb, 0, none⟩ = some rs ∧ W'.frozen? ⟨fb, 0, none⟩ = false) (a1 : W'.cell? ⟨fb, 1, none⟩ = some ns ∧ W'.frozen? ⟨fb, 1, none⟩ = false)
    (a2 : W'.cell? ⟨fb, 2, none⟩ = some (.bool tn') ∧ W'.frozen? ⟨fb, 2, none⟩ = false) (a3 : ∃ s mv, (W'.cell? ⟨fb, 3, none⟩ = some (.bool s) ∧ W'.frozen? ⟨fb, 3, none⟩ = false) ∧ (W'.cell? ⟨fb, 4, none⟩ = some mv ∧ W'.frozen? ⟨fb, 4, none⟩ = false) ∧ RdZ W (.agg #[.bool s, mv]) last' ∧ ∀ b, mv.ownBlock = some b → b < W.heap.size ∧ ¬ DX X fb m B rs ns b)
    (a5 : W'.cell? ⟨fb, 5, none⟩ = some (.int .i64 k') ∧ W'.frozen? ⟨fb, 5, none⟩ = false) : Fl X W' base fb m C B G tn' last' k' rs ns := by
  obtain ⟨f, hf⟩ := h.n
  obtain ⟨s, mv, e1, e2, e3, e4⟩ := a3
  have hD : DX X fb m B rs ns fb := Or.inl (Or.inl rfl)
  exact ⟨h.own, fun b hb => Nat.lt_of_lt_of_le (h.xlt b hb) hg.size, a0, a1, a2, ⟨s, mv, e1, e2, e3.gb hg (fun e => (e4 fb e).2 hD), fun b hb => ⟨Nat.lt_of_lt_of_le (e4 b hb).1 hg.size, (e4 b hb).2⟩⟩, a5, h.r.grow hg (fun b hb e => h.rf.1 (by rw [hb]; exact e.symm)), ⟨f, hf.grow hg (fun b hb e => h.rf.2.1 (by rw [hb]; exact e.symm))⟩, h.rf, h.inj, h.off, fun j hj => (h.lie j hj).grown hg (h.off j hj).2.2 hD⟩
/-- an integer is laid into a row -/
theorem Fl.put (h : Fl X W base fb m C B G tn last k rs ns) {i j : Nat} (hi : i < m) (hj : j < C) {s : Bool} {mv : Value} {z : Int} (hz : LeZ W (.agg #[.bool s, mv]) z) (hm : ∀ b, mv.ownBlock = some b → b < W.heap.size ∧ ¬ DX X fb m B rs ns b) :
    Fl X ((W.setCell ⟨B i, j * 2, none⟩ (.bool s)).setCell ⟨B i, j * 2 + 1, none⟩ mv) base fb m C B (fun r c => if r = i then (if c = j then z else G r c) else G r c) tn last k rs ns := by
  have hg : W.grownBy ((W.setCell ⟨B i, j * 2, none⟩ (.bool s)).setCell ⟨B i, j * 2 + 1, none⟩ mv) (some (B i)) := gb_trans (gb_set _ _ _) (gb_set _ _ _)
  have hD : DX X fb m B rs ns (B i) := Or.inl (Or.inr (Or.inr (Or.inr ⟨i, hi, rfl⟩)))
  obtain ⟨o1, o2, o3⟩ := h.off i hi
  obtain ⟨a0, a1, a2, a3, a5⟩ := h.rest hg hD o3
  obtain ⟨f, hf⟩ := h.n
  refine ⟨h.own, fun b hb => Nat.lt_of_lt_of_le (h.xlt b hb) hg.size, a0, a1, a2, a3, a5, h.r.grow hg (fun b hb e => o1 (by rw [hb]; exact e.symm)), ⟨f, hf.grow hg (fun b hb e => o2 (by rw [hb]; exact e.symm))⟩, h.rf, h.inj, h.off, fun r hr => ?_⟩
  by_cases e : r = i
  · subst e
    have := (h.lie r hr).put (j := j) hj (by omega) hD hz hm
    rw [show max C (j + 1) = C by omega] at this
    exact this.congr fun c hc => by rw [if_pos rfl]
  · have := (h.lie r hr).grown hg (fun e' => e (h.inj _ _ hr hi e')) hD
    exact this.congr fun c hc => by rw [if_neg e]
/-- what is read of an entry -/
theorem Fl.entry (h : Fl X W base fb m C B G tn last k rs ns) {i j : Nat} (hi : i < m) (hj : j < C) : ∃ s am an ac, (W.cell? ⟨B i, j * 2, none⟩ = some (.bool s) ∧ W.frozen? ⟨B i, j * 2, none⟩ = false) ∧ (W.cell? ⟨B i, j * 2 + 1, none⟩ = some (.slice am an ac) ∧ W.frozen? ⟨B i, j * 2 + 1, none⟩ = false) ∧
    RdZ W (.agg #[.bool s, .slice am an ac]) (G i j) ∧ ∀ b, (Value.slice am an ac).ownBlock = some b → b < W.heap.size ∧ ¬ DX X fb m B rs ns b := by
  obtain ⟨s, mv, c1, c2, c3, c4⟩ := (h.lie i hi).cells j hj
  obtain ⟨am, an, ac, rfl⟩ := c3.agg
  exact ⟨s, am, an, ac, ⟨c1, ((h.lie i hi).blk.cell (by omega)).2⟩, ⟨c2, ((h.lie i hi).blk.cell (by omega)).2⟩, c3.1, c4⟩
theorem Fl.lt (h : Fl X W base fb m C B G tn last k rs ns) {b : Nat} (hb : DF fb m B rs ns b) : b < W.heap.size := by
  rcases hb with rfl | e | e | ⟨t, ht, rfl⟩
  · exact h.fbW
  · exact (own_ge h.r b e).2
  · obtain ⟨f, hf⟩ := h.n
    exact (own_ge hf b e).2
  · exact (h.lie t ht).lt
/-- a block of X turns, or new ones come to be X -/
theorem Fl.others {X' : Nat → Prop} (h : Fl X W base fb m C B G tn last k rs ns) {r : Option Nat} (hg : W.grownBy W' r) (hr : ∀ d, r = some d → X d ∧ ¬ DF fb m B rs ns d) (hx : ∀ b, X' b → X b ∨ W.heap.size ≤ b) (hl : ∀ b, X' b → b < W'.heap.size) :
    Fl X' W' base fb m C B G tn last k rs ns := by
  have hD : ∀ b, b < W.heap.size → ¬ DX X fb m B rs ns b → ¬ DX X' fb m B rs ns b := fun b hb hn hd => hn (hd.imp id fun hx' => (hx b hx').elim id fun h => absurd h (by omega))
  have nb : ∀ b, DF fb m B rs ns b → r ≠ some b := fun b hb e => (hr b e).2 hb
  have kc := fun {i : Nat} {u : Value} (hu : W.cell? ⟨fb, i, none⟩ = some u ∧ W.frozen? ⟨fb, i, none⟩ = false) => kept_cell hg (nb fb (Or.inl rfl)) hu
  obtain ⟨s, mv, e1, e2, e3, e4⟩ := h.c3
  obtain ⟨f, hf⟩ := h.n
  have rd : ∀ {s : Bool} {mv : Value} {z : Int}, RdZ W (.agg #[.bool s, mv]) z → (∀ b, mv.ownBlock = some b → ¬ DX X fb m B rs ns b) → RdZ W' (.agg #[.bool s, mv]) z := fun {s mv z} e3 e4 => by
    cases r with
    | none => exact e3.below ⟨hg.os, hg.tape, hg.output, hg.size, fun k hk => hg.block k hk (by simp)⟩
    | some d => exact e3.gb hg (fun e => e4 d e (Or.inr (hr d rfl).1))
  have rdl : ∀ {s : Bool} {mv : Value} {z : Int}, LeZ W (.agg #[.bool s, mv]) z → (∀ b, mv.ownBlock = some b → ¬ DX X fb m B rs ns b) → LeZ W' (.agg #[.bool s, mv]) z := fun {s mv z} e3 e4 => by
    cases r with
    | none => exact e3.below ⟨hg.os, hg.tape, hg.output, hg.size, fun k hk => hg.block k hk (by simp)⟩
    | some d => exact e3.gb hg (fun e => e4 d e (Or.inr (hr d rfl).1))
  refine { own := h.own, xlt := hl, rf := h.rf, inj := h.inj, off := h.off, c0 := kc h.c0, c1 := kc h.c1, c2 := kc h.c2, c5 := kc h.c5, c3 := ⟨s, mv, kc e1, kc e2, rd e3 fun b hb => (e4 b hb).2, fun b hb' => ⟨Nat.lt_of_lt_of_le (e4 b hb').1 hg.size, hD b (e4 b hb').1 (e4 b hb').2⟩⟩, r := h.r.grow hg (fun b hb => nb b (Or.inr (Or.inl hb))), n := ⟨f, hf.grow hg (fun b hb => nb b (Or.inr (Or.inr (Or.inl hb))))⟩, lie := fun j hj => ?_ }
  have hne : some (B j) ≠ r := fun e => nb (B j) (Or.inr (Or.inr (Or.inr ⟨j, hj, rfl⟩))) e.symm
  refine ⟨(h.lie j hj).own, (h.lie j hj).blk.grown hg hne, fun i hi => ?_⟩
  obtain ⟨s, m, k1, k2, k3, k4⟩ := (h.lie j hj).cells i hi
  exact ⟨s, m, hg.cell k1 hne, hg.cell k2 hne, rdl k3 fun b hb => (k4 b hb).2, fun b hb => ⟨Nat.lt_of_lt_of_le (k4 b hb).1 hg.size, hD b (k4 b hb).1 (k4 b hb).2⟩⟩
end
end Go.Proofs.Ytejliecmdkmgiaa

namespace Go.Proofs.Ytejliecmdkmgiaa
open Go.RowKit

theorem rd_zero (w : World) : RdZ w (.agg #[.bool false, .slice none 0 0]) 0 := by
  have h : FrA .u64 62 w 0 (.slice none 0 0) 0 (fun _ => 0) := Or.inl ⟨rfl, rfl⟩
  exact ⟨⟨false, 0, fun _ => 0⟩, ⟨_, rfl, h.read, fun i hi => absurd (show i < 0 from hi) (by omega)⟩, rfl, Nat.zero_le _⟩
theorem le_zero (w : World) : LeZ w (.agg #[.bool false, .slice none 0 0]) 0 := ⟨rd_zero w, .slice none 0 0, 0, fun _ => 0, rfl, ⟨none, 0, rfl, Nat.le_refl _, Nat.zero_le _, fun h => absurd h (by omega)⟩, ⟨fun i h => absurd h (by omega), fun h => absurd h (by omega), rfl⟩⟩

end Go.Proofs.Ytejliecmdkmgiaa
