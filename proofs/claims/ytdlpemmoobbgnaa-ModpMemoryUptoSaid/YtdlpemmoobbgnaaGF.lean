/- The walks of the law's least, zero (where they answer yes), and of. The walks of trellisref09.blank and Turn. The walk of trellisref09.Turn. Products of matrices: the sums, what a walk keeps, trellisref09.both. The walk of trellisref09.Mul. -/
import Derived.Test.YtdlpemmoobbgnaaGE
import Derived.Test.YtdlpemmoobbgnaaGC
import Derived.Deep.RegionHeld3
set_option linter.unusedVariables false
set_option linter.unusedSimpArgs false
namespace Go.Proofs.Ytdlpemmoobbgnaa
open Go.RowKit

/-- small from 0 on, below p, in least form -/
def SmallB (p : Int) (r : Raw) : Prop := r.neg = false ∧ (r.n = 0 ∨ (r.n = 1 ∧ 0 < r.f 0 ∧ r.f 0 < p))

theorem SmallB.small {p y : Int} (h0 : 0 ≤ y) (h1 : y < p) : SmallB p (small y) := by
  refine ⟨rfl, ?_⟩
  show w1 y = 0 ∨ (w1 y = 1 ∧ 0 < y ∧ y < p)
  unfold w1; split
  · exact Or.inl rfl
  · exact Or.inr ⟨rfl, by omega, h1⟩

end Go.Proofs.Ytdlpemmoobbgnaa

namespace Go.Proofs.Ytdlpemmoobbgnaa
open Go.RowKit

/-- the value s reads as n integers z 0, z 1, .., of at most S words each -/
def RdN (w : World) (s : Value) (n : Nat) (z : Nat → Int) (S : Nat) : Prop := ∃ x, RdL w s n x ∧ ∀ q, q < n → (x q).n ≤ S ∧ (x q).val = z q
theorem RdN.below {w w' : World} {s : Value} {n : Nat} {z : Nat → Int} {S : Nat} (h : RdN w s n z S) (hb : Below w.heap.size w w') : RdN w' s n z S := by
  obtain ⟨x, h1, h2⟩ := h
  exact ⟨x, h1.below hb, h2⟩
theorem RdN.slice {w : World} {s : Value} {n : Nat} {z : Nat → Int} {S : Nat} (h : RdN w s n z S) : ∃ a cap, s = .slice a n cap ∧ n ≤ 17592186044416 := by
  obtain ⟨x, h1, -⟩ := h
  exact h1.slice
theorem RdN.at {w : World} {a : Option Addr} {n cap : Nat} {z : Nat → Int} {S : Nat} (h : RdN w (.slice a n cap) n z S) (hS : S ≤ 274877906944) {k : Nat} (hk : k < n) :
    ∃ b o g ad nd cd, a = some ⟨b, o, none⟩ ∧ w.cell? ⟨b, o + k * 2, none⟩ = some (.bool g) ∧ w.cell? ⟨b, o + k * 2 + 1, none⟩ = some (.slice ad nd cd) ∧ RdZ w (.agg #[.bool g, .slice ad nd cd]) (z k) ∧ ZB S (z k) := by
  obtain ⟨x, ⟨a', cap', e, -, -, h1⟩, h2⟩ := h
  injection e with e1 e2 e3
  subst e1
  obtain ⟨b, o, rfl, hc⟩ := h1 (by omega)
  obtain ⟨m, c0, c1, c2⟩ := hc k hk
  obtain ⟨g1, g2⟩ := h2 k hk
  obtain ⟨ad, cd, rfl, -⟩ := c2.1
  have hz : RdZ w (.agg #[.bool (x k).neg, .slice ad (x k).n cd]) (z k) := ⟨x k, ⟨_, rfl, c2⟩, g2, by omega⟩
  refine ⟨b, o, _, ad, _, cd, rfl, c0, c1, hz, ?_⟩
  have hb : ZB (x k).n (x k).val := RdI.zb ⟨_, rfl, c2⟩
  rw [g2] at hb
  exact hb.mono g1

structure TuS (w wr : World) (R C : Nat) (s : Value) (lb nb : Nat) (z : Nat → Int) : Prop where
  zg : ZG 56 wr w.heap.size nb lb (C * R) z
  bel : Below w.heap.size w wr
  lo : w.heap.size + 2 ≤ lb
  lt : nb < wr.heap.size
  x : wr.cell? ⟨w.heap.size, 0, none⟩ = some (.int .i64 R) ∧ wr.cell? ⟨w.heap.size, 1, none⟩ = some (.int .i64 C) ∧ wr.cell? ⟨w.heap.size, 2, none⟩ = some s
  y : wr.cell? ⟨w.heap.size + 1, 0, none⟩ = some (.int .i64 0) ∧ wr.cell? ⟨w.heap.size + 1, 1, none⟩ = some (.int .i64 0) ∧ wr.cell? ⟨w.heap.size + 1, 2, none⟩ = some (.slice none 0 0)
  f : wr.frozen? ⟨w.heap.size + 1, 0, none⟩ = false ∧ wr.frozen? ⟨w.heap.size + 1, 1, none⟩ = false ∧ wr.frozen? ⟨w.heap.size + 1, 2, none⟩ = false
  m : wr.cell? ⟨nb, 0, none⟩ = some (.int .i64 C) ∧ wr.cell? ⟨nb, 1, none⟩ = some (.int .i64 R) ∧ wr.cell? ⟨nb, 2, none⟩ = some (.slice (some ⟨lb, 0, none⟩) (C * R) (C * R))

theorem TuS.below {w wr w' : World} {R C : Nat} {s : Value} {lb nb : Nat} {z : Nat → Int} (h : TuS w wr R C s lb nb z) (hb : Below wr.heap.size wr w') : TuS w w' R C s lb nb z :=
  ⟨h.zg.below hb, h.bel.trans (hb.mono h.bel.size), h.lo, Nat.lt_of_lt_of_le h.lt hb.size, ⟨cell_stays hb h.x.1, cell_stays hb h.x.2.1, cell_stays hb h.x.2.2⟩,
    ⟨cell_stays hb h.y.1, cell_stays hb h.y.2.1, cell_stays hb h.y.2.2⟩, ⟨froz_stays hb h.y.1 h.f.1, froz_stays hb h.y.2.1 h.f.2.1, froz_stays hb h.y.2.2 h.f.2.2⟩,
    ⟨cell_stays hb h.m.1, cell_stays hb h.m.2.1, cell_stays hb h.m.2.2⟩⟩

theorem TuS.put {w w8 : World} {R C : Nat} {s : Value} {lb nb : Nat} {z : Nat → Int} (h : TuS w w8 R C s lb nb z) {k : Nat} (hk : k < C * R) {y : Int} {base : Nat} {a : Option Addr} {m c : Nat} (hz : FrZ w8 base (.agg #[.bool (decide (y < 0)), .slice a m c]) y) (hbase : nb ≤ base) {z' : Nat → Int}
    (hz' : ∀ q, q < C * R → (if q = k then y else z q) = z' q) : TuS w ((w8.setCell ⟨lb, k * 2, none⟩ (.bool (decide (y < 0)))).setCell ⟨lb, k * 2 + 1, none⟩ (.slice a m c)) R C s lb nb z' := by
  have hg : w8.grownBy ((w8.setCell ⟨lb, k * 2, none⟩ (.bool (decide (y < 0)))).setCell ⟨lb, k * 2 + 1, none⟩ (.slice a m c)) (some lb) := gb_trans (gb_set _ _ _) (gb_set _ _ _)
  have l1 := h.lo
  have l2 := h.zg.lt
  have hc : ∀ {b o : Nat} {v : Value}, b ≠ lb → w8.cell? ⟨b, o, none⟩ = some v → ((w8.setCell ⟨lb, k * 2, none⟩ (.bool (decide (y < 0)))).setCell ⟨lb, k * 2 + 1, none⟩ (.slice a m c)).cell? ⟨b, o, none⟩ = some v := fun hb hv => hg.cell hv (by intro e; injection e with e; exact hb e)
  have hf : ∀ b : Addr, ((w8.setCell ⟨lb, k * 2, none⟩ (.bool (decide (y < 0)))).setCell ⟨lb, k * 2 + 1, none⟩ (.slice a m c)).frozen? b = w8.frozen? b := fun b => by rw [World.frozen?_setCell, World.frozen?_setCell]
  refine ⟨(h.zg.put hk (hz.mono hbase)).congr hz', (h.bel.setCell (by show w.heap.size ≤ lb; omega) _).setCell (by show w.heap.size ≤ lb; omega) _, h.lo, Nat.lt_of_lt_of_le h.lt hg.size, ⟨hc (by omega) h.x.1, hc (by omega) h.x.2.1, hc (by omega) h.x.2.2⟩, ⟨hc (by omega) h.y.1, hc (by omega) h.y.2.1, hc (by omega) h.y.2.2⟩, ⟨?_, ?_, ?_⟩, ⟨hc (by omega) h.m.1, hc (by omega) h.m.2.1, hc (by omega) h.m.2.2⟩⟩
  · rw [hf]; exact h.f.1
  · rw [hf]; exact h.f.2.1
  · rw [hf]; exact h.f.2.2
end Go.Proofs.Ytdlpemmoobbgnaa

namespace Go.Proofs.Ytdlpemmoobbgnaa
open Go.RowKit

theorem TuS.congr {w wr : World} {R C : Nat} {s : Value} {lb nb : Nat} {z z' : Nat → Int} (h : TuS w wr R C s lb nb z) (e : ∀ q, q < C * R → z q = z' q) : TuS w wr R C s lb nb z' := { h with zg := h.zg.congr e }

theorem TuS.done {w wr : World} {R C : Nat} {s : Value} {lb nb : Nat} {z : Nat → Int} (h : TuS w wr R C s lb nb z) {v0 v1 v2 : Value} :
    (((wr.setCell ⟨w.heap.size + 1, 0, none⟩ v0).setCell ⟨w.heap.size + 1, 1, none⟩ v1).setCell ⟨w.heap.size + 1, 2, none⟩ v2).cell? ⟨w.heap.size + 1, 0, none⟩ = some v0 ∧
    (((wr.setCell ⟨w.heap.size + 1, 0, none⟩ v0).setCell ⟨w.heap.size + 1, 1, none⟩ v1).setCell ⟨w.heap.size + 1, 2, none⟩ v2).cell? ⟨w.heap.size + 1, 1, none⟩ = some v1 ∧
    (((wr.setCell ⟨w.heap.size + 1, 0, none⟩ v0).setCell ⟨w.heap.size + 1, 1, none⟩ v1).setCell ⟨w.heap.size + 1, 2, none⟩ v2).cell? ⟨w.heap.size + 1, 2, none⟩ = some v2 ∧
    ZG 56 (((wr.setCell ⟨w.heap.size + 1, 0, none⟩ v0).setCell ⟨w.heap.size + 1, 1, none⟩ v1).setCell ⟨w.heap.size + 1, 2, none⟩ v2) w.heap.size nb lb (C * R) z ∧
    Below w.heap.size w (((wr.setCell ⟨w.heap.size + 1, 0, none⟩ v0).setCell ⟨w.heap.size + 1, 1, none⟩ v1).setCell ⟨w.heap.size + 1, 2, none⟩ v2) := by
  obtain ⟨y0, y1, y2⟩ := h.y
  have l1 := h.lo
  have l2 := h.zg.lt
  have ne : ∀ {i j : Nat}, i ≠ j → (⟨w.heap.size + 1, i, none⟩ : Addr) ≠ ⟨w.heap.size + 1, j, none⟩ := fun hij e => by injection e with _ e _; exact hij e
  refine ⟨?_, ?_, ?_, ?_, ?_⟩
  · rw [World.cell?_setCell_other _ _ _ _ (by intro e; injection e with _ e _; omega), World.cell?_setCell_other _ _ _ _ (by intro e; injection e with _ e _; omega)]; exact World.cell?_setCell_same _ _ _ y0
  · rw [World.cell?_setCell_other _ _ _ _ (by intro e; injection e with _ e _; omega)]
    refine World.cell?_setCell_same _ _ _ (u := .int .i64 0) ?_
    rw [World.cell?_setCell_other _ _ _ _ (by intro e; injection e with _ e _; omega)]; exact y1
  · refine World.cell?_setCell_same _ _ _ (u := .slice none 0 0) ?_
    rw [World.cell?_setCell_other _ _ _ _ (by intro e; injection e with _ e _; omega), World.cell?_setCell_other _ _ _ _ (by intro e; injection e with _ e _; omega)]; exact y2
  · exact ((h.zg.set (by show w.heap.size + 1 < nb; omega) (by show w.heap.size + 1 ≠ lb; omega) _).set (by show w.heap.size + 1 < nb; omega) (by show w.heap.size + 1 ≠ lb; omega) _).set (by show w.heap.size + 1 < nb; omega) (by show w.heap.size + 1 ≠ lb; omega) _
  · repeat (with_reducible refine Below.setCell ?_ (by show w.heap.size ≤ w.heap.size + 1; omega) _)
    exact h.bel

end Go.Proofs.Ytdlpemmoobbgnaa

namespace Go.Proofs.Ytdlpemmoobbgnaa
open Go.RowKit

/-- f 0 * g 0 + .. + f (m - 1) * g (m - 1) -/
def dotZ (f g : Nat → Int) : Nat → Int
  | 0 => 0
  | m + 1 => f m * g m + dotZ f g m
/-- what a walk that fills a matrix keeps: cells L of its boxes, the result's box rb, the matrix's box nb, the entries in lb -/
structure GS (w wr : World) (L : List (Addr × Value)) (rb R C lb nb : Nat) (z : Nat → Int) : Prop where
  zg : ZG 56 wr w.heap.size nb lb (R * C) z
  bel : Below w.heap.size w wr
  lo : rb < lb
  le : w.heap.size ≤ rb
  lt : nb < wr.heap.size
  kept : ∀ p ∈ L, p.1.block < lb ∧ wr.cell? p.1 = some p.2
  y : wr.cell? ⟨rb, 0, none⟩ = some (.int .i64 0) ∧ wr.cell? ⟨rb, 1, none⟩ = some (.int .i64 0) ∧ wr.cell? ⟨rb, 2, none⟩ = some (.slice none 0 0)
  f : wr.frozen? ⟨rb, 0, none⟩ = false ∧ wr.frozen? ⟨rb, 1, none⟩ = false ∧ wr.frozen? ⟨rb, 2, none⟩ = false
  m : wr.cell? ⟨nb, 0, none⟩ = some (.int .i64 R) ∧ wr.cell? ⟨nb, 1, none⟩ = some (.int .i64 C) ∧ wr.cell? ⟨nb, 2, none⟩ = some (.slice (some ⟨lb, 0, none⟩) (R * C) (R * C))

section
variable {w wr w' : World} {L : List (Addr × Value)} {rb R C lb nb : Nat} {z z' : Nat → Int}
theorem GS.congr (h : GS w wr L rb R C lb nb z) (e : ∀ q, q < R * C → z q = z' q) : GS w wr L rb R C lb nb z' := { h with zg := h.zg.congr e }
theorem GS.below (h : GS w wr L rb R C lb nb z) (hb : Below wr.heap.size wr w') : GS w w' L rb R C lb nb z :=
  ⟨h.zg.below hb, h.bel.trans (hb.mono h.bel.size), h.lo, h.le, Nat.lt_of_lt_of_le h.lt hb.size, fun p hp => ⟨(h.kept p hp).1, cell_stays hb (h.kept p hp).2⟩,
    ⟨cell_stays hb h.y.1, cell_stays hb h.y.2.1, cell_stays hb h.y.2.2⟩, ⟨froz_stays hb h.y.1 h.f.1, froz_stays hb h.y.2.1 h.f.2.1, froz_stays hb h.y.2.2 h.f.2.2⟩,
    ⟨cell_stays hb h.m.1, cell_stays hb h.m.2.1, cell_stays hb h.m.2.2⟩⟩
/-- one entry written -/
theorem GS.put (h : GS w wr L rb R C lb nb z) {k : Nat} (hk : k < R * C) {y : Int} {base : Nat} {a : Option Addr} {m c : Nat} (hz : FrZ wr base (.agg #[.bool (decide (y < 0)), .slice a m c]) y) (hbase : nb ≤ base)
    (hz' : ∀ q, q < R * C → (if q = k then y else z q) = z' q) : GS w ((wr.setCell ⟨lb, k * 2, none⟩ (.bool (decide (y < 0)))).setCell ⟨lb, k * 2 + 1, none⟩ (.slice a m c)) L rb R C lb nb z' := by
  have hg : wr.grownBy ((wr.setCell ⟨lb, k * 2, none⟩ (.bool (decide (y < 0)))).setCell ⟨lb, k * 2 + 1, none⟩ (.slice a m c)) (some lb) := gb_trans (gb_set _ _ _) (gb_set _ _ _)
  have l1 := h.lo
  have l2 := h.zg.lt
  have l3 := h.le
  have hc : ∀ {b : Addr} {v : Value}, b.block ≠ lb → wr.cell? b = some v → ((wr.setCell ⟨lb, k * 2, none⟩ (.bool (decide (y < 0)))).setCell ⟨lb, k * 2 + 1, none⟩ (.slice a m c)).cell? b = some v := fun hb hv => hg.cell hv (by intro e; injection e with e; exact hb e)
  have hf : ∀ b : Addr, ((wr.setCell ⟨lb, k * 2, none⟩ (.bool (decide (y < 0)))).setCell ⟨lb, k * 2 + 1, none⟩ (.slice a m c)).frozen? b = wr.frozen? b := fun b => by rw [World.frozen?_setCell, World.frozen?_setCell]
  have n1 : rb ≠ lb := by omega
  have n2 : nb ≠ lb := by omega
  refine ⟨(h.zg.put hk (hz.mono hbase)).congr hz', (h.bel.setCell (by show w.heap.size ≤ lb; omega) _).setCell (by show w.heap.size ≤ lb; omega) _, h.lo, h.le, Nat.lt_of_lt_of_le h.lt hg.size, fun p hp => ⟨(h.kept p hp).1, hc (by have := (h.kept p hp).1; omega) (h.kept p hp).2⟩, ⟨hc n1 h.y.1, hc n1 h.y.2.1, hc n1 h.y.2.2⟩, ⟨?_, ?_, ?_⟩, ⟨hc n2 h.m.1, hc n2 h.m.2.1, hc n2 h.m.2.2⟩⟩
  · rw [hf]; exact h.f.1
  · rw [hf]; exact h.f.2.1
  · rw [hf]; exact h.f.2.2
theorem GS.done (h : GS w wr L rb R C lb nb z) {v0 v1 v2 : Value} :
    (((wr.setCell ⟨rb, 0, none⟩ v0).setCell ⟨rb, 1, none⟩ v1).setCell ⟨rb, 2, none⟩ v2).cell? ⟨rb, 0, none⟩ = some v0 ∧
    (((wr.setCell ⟨rb, 0, none⟩ v0).setCell ⟨rb, 1, none⟩ v1).setCell ⟨rb, 2, none⟩ v2).cell? ⟨rb, 1, none⟩ = some v1 ∧
    (((wr.setCell ⟨rb, 0, none⟩ v0).setCell ⟨rb, 1, none⟩ v1).setCell ⟨rb, 2, none⟩ v2).cell? ⟨rb, 2, none⟩ = some v2 ∧
    ZG 56 (((wr.setCell ⟨rb, 0, none⟩ v0).setCell ⟨rb, 1, none⟩ v1).setCell ⟨rb, 2, none⟩ v2) w.heap.size nb lb (R * C) z ∧
    Below w.heap.size w (((wr.setCell ⟨rb, 0, none⟩ v0).setCell ⟨rb, 1, none⟩ v1).setCell ⟨rb, 2, none⟩ v2) := by
  obtain ⟨y0, y1, y2⟩ := h.y
  have l1 := h.lo
  have l2 := h.zg.lt
  have l3 := h.le
  refine ⟨?_, ?_, ?_, ?_, ?_⟩
  · rw [World.cell?_setCell_other _ _ _ _ (by intro e; injection e with _ e _; omega), World.cell?_setCell_other _ _ _ _ (by intro e; injection e with _ e _; omega)]; exact World.cell?_setCell_same _ _ _ y0
  · rw [World.cell?_setCell_other _ _ _ _ (by intro e; injection e with _ e _; omega)]
    refine World.cell?_setCell_same _ _ _ (u := .int .i64 0) ?_
    rw [World.cell?_setCell_other _ _ _ _ (by intro e; injection e with _ e _; omega)]; exact y1
  · refine World.cell?_setCell_same _ _ _ (u := .slice none 0 0) ?_
    rw [World.cell?_setCell_other _ _ _ _ (by intro e; injection e with _ e _; omega), World.cell?_setCell_other _ _ _ _ (by intro e; injection e with _ e _; omega)]; exact y2
  · exact ((h.zg.set (by show rb < nb; omega) (by show rb ≠ lb; omega) _).set (by show rb < nb; omega) (by show rb ≠ lb; omega) _).set (by show rb < nb; omega) (by show rb ≠ lb; omega) _
  · repeat (with_reducible refine Below.setCell ?_ (by show w.heap.size ≤ rb; omega) _)
    exact h.bel
end

end Go.Proofs.Ytdlpemmoobbgnaa

namespace Go.Proofs.Ytdlpemmoobbgnaa
open Go.RowKit

/-- an integer in a box of the call's own -/
def Acc (w : World) (sb : Nat) (v : Int) : Prop := ∃ a m c, w.cell? ⟨sb, 0, none⟩ = some (.bool (decide (v < 0))) ∧ w.cell? ⟨sb, 1, none⟩ = some (.slice a m c) ∧ FrZ w (sb + 1) (.agg #[.bool (decide (v < 0)), .slice a m c]) v ∧ w.frozen? ⟨sb, 0, none⟩ = false ∧ w.frozen? ⟨sb, 1, none⟩ = false
theorem Acc.start (w : World) (t : TypeId) : Acc (w.alloc (.cells #[.bool false, .slice none 0 0] t)) w.heap.size 0 := by
  have k := cells2 w (.bool false) (.slice none 0 0) t
  exact ⟨none, 0, 0, (k 0 _ rfl).1, (k 1 _ rfl).1, frz_zero _ _, (k 0 _ rfl).2, (k 1 _ rfl).2⟩
theorem Acc.below {w w' : World} {sb : Nat} {v : Int} (h : Acc w sb v) (hb : Below w.heap.size w w') : Acc w' sb v := by
  obtain ⟨a, m, c, h1, h2, h3, h4, h5⟩ := h
  exact ⟨a, m, c, cell_stays hb h1, cell_stays hb h2, h3.below hb, froz_stays hb h1 h4, froz_stays hb h2 h5⟩
theorem Acc.store {w : World} {sb : Nat} {v y : Int} {base : Nat} {a : Option Addr} {m c : Nat} (h : Acc w sb v) (hz : FrZ w base (.agg #[.bool (decide (y < 0)), .slice a m c]) y) (hb : sb < base) :
    Acc ((w.setCell ⟨sb, 0, none⟩ (.bool (decide (y < 0)))).setCell ⟨sb, 1, none⟩ (.slice a m c)) sb y := by
  obtain ⟨a', m', c', h1, h2, -, h4, h5⟩ := h
  obtain ⟨g0, g1⟩ := stored2_own (.bool (decide (y < 0))) (.slice a m c) h1 h2
  refine ⟨a, m, c, g0, g1, (hz.stored' hb _ _).mono (by omega), ?_, ?_⟩
  · rw [World.frozen?_setCell, World.frozen?_setCell]; exact h4
  · rw [World.frozen?_setCell, World.frozen?_setCell]; exact h5

def six (n : Nat) (v0 v1 v2 v3 v4 v5 : Value) : List (Addr × Value) := [(⟨n, 0, none⟩, v0), (⟨n, 1, none⟩, v1), (⟨n, 2, none⟩, v2), (⟨n + 1, 0, none⟩, v3), (⟨n + 1, 1, none⟩, v4), (⟨n + 1, 2, none⟩, v5)]
theorem GS.six {w wr : World} {n rb R C lb nb : Nat} {z : Nat → Int} {v0 v1 v2 v3 v4 v5 : Value} (h : GS w wr (six n v0 v1 v2 v3 v4 v5) rb R C lb nb z) :
    wr.cell? ⟨n, 0, none⟩ = some v0 ∧ wr.cell? ⟨n, 1, none⟩ = some v1 ∧ wr.cell? ⟨n, 2, none⟩ = some v2 ∧ wr.cell? ⟨n + 1, 0, none⟩ = some v3 ∧ wr.cell? ⟨n + 1, 1, none⟩ = some v4 ∧ wr.cell? ⟨n + 1, 2, none⟩ = some v5 :=
  ⟨(h.kept (⟨n, 0, none⟩, v0) (by simp [Proofs.Ytdlpemmoobbgnaa.six])).2, (h.kept (⟨n, 1, none⟩, v1) (by simp [Proofs.Ytdlpemmoobbgnaa.six])).2, (h.kept (⟨n, 2, none⟩, v2) (by simp [Proofs.Ytdlpemmoobbgnaa.six])).2, (h.kept (⟨n + 1, 0, none⟩, v3) (by simp [Proofs.Ytdlpemmoobbgnaa.six])).2, (h.kept (⟨n + 1, 1, none⟩, v4) (by simp [Proofs.Ytdlpemmoobbgnaa.six])).2, (h.kept (⟨n + 1, 2, none⟩, v5) (by simp [Proofs.Ytdlpemmoobbgnaa.six])).2⟩
end Go.Proofs.Ytdlpemmoobbgnaa
