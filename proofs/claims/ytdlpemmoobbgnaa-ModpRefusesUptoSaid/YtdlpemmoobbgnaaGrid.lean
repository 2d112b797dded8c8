/- Grids: a list of rows, each in a block of its own. -/
import Derived.Test.YtdlpemmoobbgnaaMem
set_option linter.unusedVariables false
set_option linter.unusedSimpArgs false
namespace Go.Proofs.Ytdlpemmoobbgnaa
open Go.RowKit

/-- two places exchanged -/
def sw (i j k : Nat) : Nat := if k = i then j else if k = j then i else k

theorem sw_lt {i j k m : Nat} (hi : i < m) (hj : j < m) (hk : k < m) : sw i j k < m := by unfold sw; (repeat' split) <;> omega
theorem sw_inj {i j k l : Nat} (h : sw i j k = sw i j l) : k = l := by
  unfold sw at h
  (repeat' split at h) <;> omega

theorem sw_self (i k : Nat) : sw i i k = k := by unfold sw; (repeat' split) <;> omega

/-- rows of n numbers of kind k: the grid's own cells lie in the block gb from go on, row i in the block B i from O i on, with the capacity C i -/
structure GridAt (k : IntKind) (w : World) (base gb go m n : Nat) (B O C : Nat → Nat) (G : Nat → Nat → Int) : Prop where
  cells : ∀ i, i < m → w.cell? ⟨gb, go + i, none⟩ = some (.slice (some ⟨B i, O i, none⟩) n (C i)) ∧ w.frozen? ⟨gb, go + i, none⟩ = false
  rows : ∀ i, i < m → RowAt k w (B i) (O i) n (G i)
  apart : ∀ i j, i < m → j < m → B i = B j → i = j
  off : ∀ i, i < m → B i ≠ gb
  caps : ∀ i, i < m → n ≤ C i ∧ n ≤ 17592186044416
  own : ∀ i, i < m → base ≤ B i
  ownG : base ≤ gb
  lt : ∀ i, i < m → B i < w.heap.size

variable {k : IntKind} {w w' : World} {base gb go m n : Nat} {B O C : Nat → Nat} {G : Nat → Nat → Int}

theorem GridAt.congr (h : GridAt k w base gb go m n B O C G) {G' : Nat → Nat → Int} (e : ∀ i j, i < m → j < n → G i j = G' i j) : GridAt k w base gb go m n B O C G' :=
  { h with rows := fun i hi => (h.rows i hi).congr fun j hj => e i j hi hj }

theorem GridAt.grown (h : GridAt k w base gb go m n B O C G) {r : Option Nat} (hg : w.grownBy w' r) (h1 : some gb ≠ r) (h2 : ∀ i, i < m → some (B i) ≠ r) : GridAt k w' base gb go m n B O C G :=
  { h with
    cells := fun i hi => by
      have hlt := World.block_lt_of_cell? w _ (h.cells i hi).1
      exact ⟨(World.cell?_of_block (w := w) (a := ⟨gb, go + i, none⟩) (hg.block gb hlt h1)).trans (h.cells i hi).1, (World.frozen?_of_block (w := w) (a := ⟨gb, go + i, none⟩) (hg.block gb hlt h1)).trans (h.cells i hi).2⟩
    rows := fun i hi => (h.rows i hi).gb hg (h2 i hi)
    lt := fun i hi => Nat.lt_of_lt_of_le (h.lt i hi) hg.size }

theorem GridAt.below (h : GridAt k w base gb go m n B O C G) (hb : Below w.heap.size w w') : GridAt k w' base gb go m n B O C G :=
  h.grown (gb_below hb none) (by simp) (fun _ _ => by simp)

theorem GridAt.drew (h : GridAt k w base gb go m n B O C G) : GridAt k w.drew base gb go m n B O C G := h.grown (gb_drew w none) (by simp) (fun _ _ => by simp)

theorem GridAt.ltG (h : GridAt k w base gb go m n B O C G) (hm : 0 < m) : gb < w.heap.size := World.block_lt_of_cell? w _ (h.cells 0 hm).1

/-- one row has been written over -/
theorem GridAt.upd (h : GridAt k w base gb go m n B O C G) {i : Nat} (hi : i < m) {f : Nat → Int} (hf : RowAt k w' (B i) (O i) n f) (hg : w.grownBy w' (some (B i))) :
    GridAt k w' base gb go m n B O C (fun l c => if l = i then f c else G l c) :=
  { h with
    cells := fun l hl => by
      have hlt := World.block_lt_of_cell? w _ (h.cells l hl).1
      have hne : some gb ≠ some (B i) := fun e => h.off i hi (Option.some.inj e).symm
      exact ⟨(World.cell?_of_block (w := w) (a := ⟨gb, go + l, none⟩) (hg.block gb hlt hne)).trans (h.cells l hl).1, (World.frozen?_of_block (w := w) (a := ⟨gb, go + l, none⟩) (hg.block gb hlt hne)).trans (h.cells l hl).2⟩
    rows := fun l hl => by
      by_cases e : l = i
      · subst e
        exact hf.congr fun c _ => (if_pos rfl).symm
      · refine ((h.rows l hl).gb hg fun e' => e (h.apart l i hl hi (Option.some.inj e'))).congr fun c _ => (if_neg e).symm
    lt := fun i hi => Nat.lt_of_lt_of_le (h.lt i hi) hg.size }

/-- two rows have been exchanged -/
theorem GridAt.swap (h : GridAt k w base gb go m n B O C G) {i j : Nat} (hi : i < m) (hj : j < m)
    (hw : w' = (w.setCell ⟨gb, go + i, none⟩ (.slice (some ⟨B j, O j, none⟩) n (C j))).setCell ⟨gb, go + j, none⟩ (.slice (some ⟨B i, O i, none⟩) n (C i))) :
    GridAt k w' base gb go m n (fun l => B (sw i j l)) (fun l => O (sw i j l)) (fun l => C (sw i j l)) (fun l => G (sw i j l)) := by
  subst hw
  refine ⟨fun l hl => ?_, fun l hl => ?_, fun a b ha hb e => sw_inj (h.apart _ _ (sw_lt hi hj ha) (sw_lt hi hj hb) e), fun l hl => h.off _ (sw_lt hi hj hl), fun l hl => h.caps _ (sw_lt hi hj hl), fun l hl => h.own _ (sw_lt hi hj hl), h.ownG, fun l hl => by simpa using h.lt _ (sw_lt hi hj hl)⟩
  · refine ⟨?_, by rw [World.frozen?_setCell, World.frozen?_setCell]; exact (h.cells l hl).2⟩
    by_cases e1 : l = j
    · subst e1
      have : sw i l l = i := by unfold sw; split <;> simp_all
      rw [this]
      by_cases e2 : i = l
      · subst e2
        exact World.cell?_setCell_same _ _ _ (World.cell?_setCell_same _ _ _ (h.cells i hi).1)
      · refine World.cell?_setCell_same _ _ _ (u := .slice (some ⟨B l, O l, none⟩) n (C l)) ?_
        rw [World.cell?_setCell_other _ _ _ _ (by intro e'; injection e' with _ e3 _; omega)]
        exact (h.cells l hl).1
    · rw [World.cell?_setCell_other _ _ _ _ (by intro e'; injection e' with _ e3 _; omega)]
      by_cases e2 : l = i
      · subst e2
        have : sw l j l = j := by unfold sw; simp
        rw [this]
        exact World.cell?_setCell_same _ _ _ (h.cells l hl).1
      · have : sw i j l = l := by unfold sw; simp [e1, e2]
        rw [this, World.cell?_setCell_other _ _ _ _ (by intro e'; injection e' with _ e3 _; omega)]
        exact (h.cells l hl).1
  · have hl' := sw_lt hi hj hl
    have ho := h.off _ hl'
    exact ((h.rows _ hl').other (a := ⟨gb, go + i, none⟩) (fun e => ho e.symm) _).other (a := ⟨gb, go + j, none⟩) (fun e => ho e.symm) _

end Go.Proofs.Ytdlpemmoobbgnaa
