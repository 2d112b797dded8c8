/- Lists of integers of the call's own: a block of pairs (sign, words), each integer's words in a block of their own. -/
import Derived.Test.YtdlpemmoobbgnaaMem
import Derived.ArgAppend
set_option linter.unusedVariables false
set_option linter.unusedSimpArgs false
namespace Go.Proofs.Ytdlpemmoobbgnaa
open Go.RowKit

def Value.apart (u v : Value) : Prop := ∀ b, u.ownBlock = some b → v.ownBlock ≠ some b

/-- block lb is a list with room for cap integers (element type T; words of element type E), of which q stand -/
structure LS (T E : TypeId) (w : World) (base bm lb cap q : Nat) (x : Nat → Raw) (M : Nat → Value) : Prop where
  blk : Blk w lb (2 * cap) T
  own : base ≤ lb
  le : q ≤ cap
  cells : ∀ i, i < q → w.cell? ⟨lb, i * 2, none⟩ = some (.bool (x i).neg) ∧ w.cell? ⟨lb, i * 2 + 1, none⟩ = some (M i)
  mags : ∀ i, i < q → FrA .u64 E w bm (M i) (x i).n (x i).f
  apart : ∀ i j, i < q → j < q → i ≠ j → Value.apart (M i) (M j)
  off : ∀ i, i < q → (M i).ownBlock ≠ some lb

section
variable {T E : TypeId} {w w' : World} {base bm lb cap q : Nat} {x : Nat → Raw} {M : Nat → Value}

theorem Blk.cell {b n : Nat} {e : TypeId} (h : Blk w b n e) {i : Nat} (hi : i < n) : (w.cell? ⟨b, i, none⟩).isSome = true ∧ w.frozen? ⟨b, i, none⟩ = false := by
  obtain ⟨cur, h, hs⟩ := h
  refine ⟨?_, ?_⟩
  · rw [cell_of_row _ _ _ _ _ _ h]; simp [hs, hi]
  · unfold World.frozen?; simp only; rw [h]; simp

theorem FrA.lt {k : IntKind} {e : TypeId} {v : Value} {n : Nat} {f : Nat → Int} (h : FrA k e w base v n f) {b : Nat} (hb : v.ownBlock = some b) : base ≤ b ∧ b < w.heap.size := by
  rcases h with ⟨rfl, _⟩ | ⟨b', cap, rfl, _, _, h3, h4, _⟩
  · simp [Value.ownBlock] at hb
  · simp [Value.ownBlock] at hb; subst hb; exact ⟨h3, h4.lt⟩

theorem LS.grown (h : LS T E w base bm lb cap q x M) {r : Option Nat} (hg : w.grownBy w' r) (h1 : some lb ≠ r) (h2 : ∀ i, i < q → (M i).ownBlock = none ∨ (M i).ownBlock ≠ r) : LS T E w' base bm lb cap q x M :=
  { h with
    blk := h.blk.grown hg h1
    cells := fun i hi => ⟨hg.cell (h.cells i hi).1 h1, hg.cell (h.cells i hi).2 h1⟩
    mags := fun i hi => (h.mags i hi).grown hg (h2 i hi) }
theorem LS.below (h : LS T E w base bm lb cap q x M) (hb : Below w.heap.size w w') : LS T E w' base bm lb cap q x M :=
  h.grown (gb_below hb none) (by simp) (fun i _ => by cases (M i).ownBlock <;> simp)
/-- a store beside all of it -/
theorem LS.set (h : LS T E w base bm lb cap q x M) {a : Addr} (ha : a.block < bm) (hl : a.block ≠ lb) (v : Value) : LS T E (w.setCell a v) base bm lb cap q x M := by
  refine h.grown (gb_set w a v) (fun e => ?_) (fun i hi => ?_)
  · injection e with e; exact hl e.symm
  · cases hb : (M i).ownBlock with
    | none => exact Or.inl rfl
    | some b => right; have := ((h.mags i hi).lt hb).1; intro e; injection e with e; omega

theorem LS.start (w : World) (cur : Array Value) (hc : cur.size = 2 * cap) (hb : base ≤ w.heap.size) (x : Nat → Raw) (M : Nat → Value) : LS T E (w.alloc (.cells cur T)) base bm w.heap.size cap 0 x M :=
  ⟨⟨cur, heap_alloc_new w _, hc⟩, hb, by omega, fun i hi => absurd hi (by omega), fun i hi => absurd hi (by omega), fun i _ hi => absurd hi (by omega), fun i hi => absurd hi (by omega)⟩

/-- one more -/
theorem LS.push (h : LS T E w base bm lb cap q x M) (hq : q < cap) {s : Bool} {mv : Value} {n : Nat} {f : Nat → Int} (hm : FrA .u64 E w bm mv n f) (hx : x q = ⟨s, n, f⟩)
    (ha : ∀ i, i < q → Value.apart (M i) mv ∧ Value.apart mv (M i)) (ho : mv.ownBlock ≠ some lb) :
    LS T E ((w.setCell ⟨lb, q * 2, none⟩ (.bool s)).setCell ⟨lb, q * 2 + 1, none⟩ mv) base bm lb cap (q + 1) x (fun i => if i = q then mv else M i) := by
  have hg : w.grownBy ((w.setCell ⟨lb, q * 2, none⟩ (.bool s)).setCell ⟨lb, q * 2 + 1, none⟩ mv) (some lb) := gb_trans (gb_set _ _ _) (gb_set _ _ _)
  obtain ⟨a1, _⟩ := h.blk.cell (i := q * 2) (by omega)
  obtain ⟨a2, _⟩ := h.blk.cell (i := q * 2 + 1) (by omega)
  obtain ⟨u1, e1⟩ := Option.isSome_iff_exists.1 a1
  obtain ⟨u2, e2⟩ := Option.isSome_iff_exists.1 a2
  have hM : ∀ i, i < q → (if i = q then mv else M i) = M i := fun i hi => if_neg (by omega)
  refine ⟨(h.blk.set _ _).set _ _, h.own, by omega, fun i hi => ?_, fun i hi => ?_, fun i j hi hj hne => ?_, fun i hi => ?_⟩
  · by_cases e : i = q
    · subst e
      rw [if_pos rfl, hx]
      refine ⟨?_, ?_⟩
      · rw [World.cell?_setCell_other _ _ _ _ (by intro e'; injection e' with _ e3 _; omega)]
        exact World.cell?_setCell_same _ _ _ e1
      · refine World.cell?_setCell_same _ _ _ (u := u2) ?_
        rw [World.cell?_setCell_other _ _ _ _ (by intro e'; injection e' with _ e3 _; omega)]
        exact e2
    · rw [hM i (by omega)]
      obtain ⟨c1, c2⟩ := h.cells i (by omega)
      refine ⟨?_, ?_⟩
      · rw [World.cell?_setCell_other _ _ _ _ (by intro e'; injection e' with _ e3 _; omega), World.cell?_setCell_other _ _ _ _ (by intro e'; injection e' with _ e3 _; omega)]
        exact c1
      · rw [World.cell?_setCell_other _ _ _ _ (by intro e'; injection e' with _ e3 _; omega), World.cell?_setCell_other _ _ _ _ (by intro e'; injection e' with _ e3 _; omega)]
        exact c2
  · by_cases e : i = q
    · subst e
      rw [if_pos rfl, hx]
      exact hm.grown hg (Or.inr ho)
    · rw [hM i (by omega)]
      exact (h.mags i (by omega)).grown hg (Or.inr (h.off i (by omega)))
  · show Value.apart (if i = q then mv else M i) (if j = q then mv else M j)
    by_cases e : i = q
    · have : j < q := by omega
      rw [if_pos e, hM j this]; exact (ha j this).2
    · rw [hM i (by omega)]
      by_cases e' : j = q
      · rw [if_pos e']; exact (ha i (by omega)).1
      · rw [hM j (by omega)]; exact h.apart i j (by omega) (by omega) hne
  · show (if i = q then mv else M i).ownBlock ≠ _
    by_cases e : i = q
    · rw [if_pos e]; exact ho
    · rw [hM i (by omega)]; exact h.off i (by omega)

theorem LS.mono (h : LS T E w base bm lb cap q x M) {base' bm' : Nat} (h1 : base' ≤ base) (h2 : bm' ≤ bm) : LS T E w base' bm' lb cap q x M :=
  { h with own := Nat.le_trans h1 h.own, mags := fun i hi => (h.mags i hi).mono h2 }

theorem LS.congr (h : LS T E w base bm lb cap q x M) {y : Nat → Raw} (e : ∀ i, i < q → x i = y i) : LS T E w base bm lb cap q y M :=
  { h with cells := fun i hi => by rw [← e i hi]; exact h.cells i hi, mags := fun i hi => by rw [← e i hi]; exact h.mags i hi }

theorem LS.read (h : LS T E w base bm lb cap q x M) (hc : q ≤ 4398046511104) (hw : ∀ i, i < q → Words (x i).n (x i).f) : RdL w (.slice (some ⟨lb, 0, none⟩) q cap) q x := by
  refine ⟨_, cap, rfl, h.le, hc, fun _ => ⟨lb, 0, rfl, fun i hi => ⟨M i, ?_, ?_, (h.mags i hi).read, hw i hi⟩⟩⟩
  · rw [Nat.zero_add]; exact (h.cells i hi).1
  · rw [Nat.zero_add]; exact (h.cells i hi).2
end

end Go.Proofs.Ytdlpemmoobbgnaa
