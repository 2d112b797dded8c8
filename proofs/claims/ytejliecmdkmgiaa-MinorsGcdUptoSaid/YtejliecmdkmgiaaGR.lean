import Derived.Test.YtejliecmdkmgiaaGK
import Derived.Test.YtejliecmdkmgiaaGQ
import Derived.Test.YtejliecmdkmgiaaGE
import Derived.Deep.RegionHeld3
import Derived.Test.YtejliecmdkmgiaaGI
import Derived.Test.YtejliecmdkmgiaaGH
set_option linter.unusedVariables false
set_option linter.unusedSimpArgs false
namespace Go.Proofs.Ytejliecmdkmgiaa
open Go.RowKit
theorem PaE.ready {w : World} {base lb n k : Nat} {D : Nat → Prop} {E : Nat → Int} (h : PaE w base D lb n k E) {j : Nat} (hj : j < n) : ∃ u1 u2, w.cell? ⟨lb, j * 2, none⟩ = some u1 ∧ w.cell? ⟨lb, j * 2 + 1, none⟩ = some u2 ∧ w.frozen? ⟨lb, j * 2, none⟩ = false ∧ w.frozen? ⟨lb, j * 2 + 1, none⟩ = false := by
  obtain ⟨f1, f2⟩ := h.blk.cell (i := j * 2) (by omega)
  obtain ⟨f3, f4⟩ := h.blk.cell (i := j * 2 + 1) (by omega)
  obtain ⟨u1, g1⟩ := Option.isSome_iff_exists.1 f1
  obtain ⟨u2, g2⟩ := Option.isSome_iff_exists.1 f3
  exact ⟨u1, u2, g1, g2, f2, f4⟩
theorem PaE.putz {w : World} {base lb n i : Nat} {D : Nat → Prop} {E : Nat → Int} (h : PaE w base D lb n n E) (hi : i < n) (hl : D lb) {v : Value} {b : Nat} {z : Int} (hf : FrZ w b v z) {S : Nat} (hz : ZB S z) (hS : S ≤ 274877906944) (hD : ∀ k, b ≤ k → k < w.heap.size → ¬ D k) :
    ∃ s a c d, v = .agg #[.bool s, .slice a c d] ∧ PaE ((w.setCell ⟨lb, i * 2, none⟩ (.bool s)).setCell ⟨lb, i * 2 + 1, none⟩ (.slice a c d)) base D lb n n (fun t => if t = i then z else E t) := by
  have hle := hf.le hz hS
  obtain ⟨a, c, d, rfl, ho⟩ := hf.agg
  refine ⟨_, _, _, _, rfl, ?_⟩
  have := h.put hi (by omega) hl hle (fun k hk => ⟨(ho k hk).2, hD k (ho k hk).1 (ho k hk).2⟩)
  rwa [show max n (i + 1) = n by omega] at this
theorem PaE.zeros (w : World) (base n : Nat) (D : Nat → Prop) (hb : base ≤ w.heap.size) : PaE (w.alloc (.cells (madeCells #[.bool false, .slice none 0 0] (n * 2)) 49)) base D w.heap.size n n (fun _ => 0) := by
  have h := heap_alloc_new w (.cells (madeCells #[.bool false, .slice none 0 0] (n * 2)) 49)
  refine ⟨hb, ⟨_, h, by simp [madeCells]⟩, fun i hi => ⟨false, .slice none 0 0, ?_, ?_, le_zero _, fun b hb => by simp [Value.ownBlock] at hb⟩⟩
  · rw [cell_of_row _ _ _ _ _ _ h]
    simp [madeCells, show i * 2 < n * 2 by omega]
  · rw [cell_of_row _ _ _ _ _ _ h]
    simp [madeCells, show i * 2 + 1 < n * 2 by omega, show (i * 2 + 1) % 2 = 1 by omega]
theorem gb_two (w : World) (lb i j : Nat) (x y : Value) : w.grownBy ((w.setCell ⟨lb, i, none⟩ x).setCell ⟨lb, j, none⟩ y) (some lb) := gb_trans (gb_set _ _ _) (gb_set _ _ _)
end Go.Proofs.Ytejliecmdkmgiaa
namespace Go.Proofs.Ytejliecmdkmgiaa
open Go.RowKit
section
variable {P : Program} {n l : Nat} {Q : Exit → Act → World → Prop} {md : Region.Mode} {ops : Array Oper}
def wpEarly (P : Program) (ops : Array Oper) (S : World → Prop) : List Nat → Act → (Act → Prop) → Prop
  | [], a, K => K a
  | i :: is, a, K => ∃ (oi : Oper) (v : Value), ops[i]? = some oi ∧ YieldsIf P ops S oi v a ∧ wpEarly P ops S is (a.put oi.dst v) K
def earlyOk (md : Region.Mode) (ops : Array Oper) (f : Nat) : List Nat → Array Bool → Bool
  | [], _ => true
  | i :: is, listed => Region.free md ops listed i && (Region.ready md ops listed).contains i && (waitsB md ops f i && tailOff f listed && decide (i < f)) && earlyOk md ops f is (listed.setIfInBounds i true)
def marked : List Nat → Array Bool → Array Bool
  | [], listed => listed
  | i :: is, listed => marked is (listed.setIfInBounds i true)
theorem early_any {S : World → Prop} {f : Nat} (hs : Region.noSelect ops = true) (hQ : ∀ c (a : Act) (d : Option Tmp) (v : Value) w, Q (.panic c) (a.put d v) w → Q (.panic c) a w) {w : World} (hS : S w) :
    ∀ (is : List Nat) (fuel : Nat) (listed : Array Bool) (a : Act), earlyOk md ops f is listed = true →
      wpEarly P ops S is a (fun a' => wpAnyL P md ops Q S f fuel (marked is listed) a' w) → wpAnyL P md ops Q S f (fuel + is.length) listed a w
  | [], _, _, _, _, h => h
  | i :: is, fuel, listed, a, hc, h => by
    obtain ⟨oi, v, hi, hy, h⟩ := h
    simp only [earlyOk, Bool.and_eq_true] at hc
    obtain ⟨⟨⟨c1, c2⟩, c3⟩, c4⟩ := hc
    exact anyL_take (v := v) hi hs c1 c2 (by simpa using c3) (fun c a w => hQ c a _ _ w) hy hS (early_any hs hQ hS is fuel _ _ c4 h)
theorem region_early (S : World → Prop) (f : Nat) (is : List Nat) (fuel : Nat) {id : Nat} {a : Act} {w : World} (hm : P.follows .mixedOrders = true) (hs : Region.noSelect ops = true) (hf : ops.size = fuel + is.length)
    (hc : earlyOk .any ops f is (Array.replicate ops.size false) = true) (hQ : ∀ c (a : Act) (d : Option Tmp) (v : Value) w, Q (.panic c) (a.put d v) w → Q (.panic c) a w) (hS : S w.drew)
    (h : wpEarly P ops S is a (fun a' => wpAnyL P .any ops Q S f fuel (marked is (Array.replicate ops.size false)) a' w.drew)) : (Code.region id ops true).wp P Q a w := by
  refine region_held S f hm ?_
  have := early_any (md := .any) (f := f) hs hQ hS is fuel (Array.replicate ops.size false) a hc h
  rwa [← hf] at this
theorem early_take {S : World → Prop} {i : Nat} {is : List Nat} {oi : Oper} {a : Act} {K : Act → Prop} (hi : ops[i]? = some oi) (hw : Region.wanted oi (yielded ops a.tmps) = true) (h : ∃ v, (∀ w, S w → (execOp a.eval oi).run P w = .ok (.value v) w) ∧ wpEarly P ops S is (a.put oi.dst v) K) : wpEarly P ops S (i :: is) a K :=
  h.elim fun v h => ⟨oi, v, hi, Or.inl ⟨hw, h.1⟩, h.2⟩
theorem early_done {S : World → Prop} {a : Act} {K : Act → Prop} (h : K a) : wpEarly P ops S [] a K := h
end
end Go.Proofs.Ytejliecmdkmgiaa
namespace Go.Proofs.Ytejliecmdkmgiaa
open Go.RowKit Go.Shelf
def LeE (w : World) (v : Value) (n : Nat) (E : Nat → Int) : Prop :=
  ∃ a cap, v = .slice a n cap ∧ n ≤ cap ∧ n ≤ 1048576 ∧ (0 < n → ∃ b o, a = some ⟨b, o, none⟩ ∧ ∀ i, i < n → ∃ s m, w.cell? ⟨b, o + i * 2, none⟩ = some (.bool s) ∧ w.cell? ⟨b, o + i * 2 + 1, none⟩ = some m ∧ LeZ w (.agg #[.bool s, m]) (E i))
theorem LeE.rd {w : World} {v : Value} {n : Nat} {E : Nat → Int} (h : LeE w v n E) : RdE w v n E := by
  obtain ⟨a, cap, e, h1, h2, h3⟩ := h
  refine ⟨a, cap, e, h1, h2, fun hn => ?_⟩
  obtain ⟨b, o, e, h4⟩ := h3 hn
  refine ⟨b, o, e, fun i hi => ?_⟩
  obtain ⟨s, m, c1, c2, c3⟩ := h4 i hi
  exact ⟨s, m, c1, c2, c3.1⟩
theorem LeE.below {w w' : World} {v : Value} {n : Nat} {E : Nat → Int} (h : LeE w v n E) (hb : Below w.heap.size w w') : LeE w' v n E := by
  obtain ⟨a, cap, e, h1, h2, h3⟩ := h
  refine ⟨a, cap, e, h1, h2, fun hn => ?_⟩
  obtain ⟨b, o, e, h4⟩ := h3 hn
  refine ⟨b, o, e, fun i hi => ?_⟩
  obtain ⟨s, m, c1, c2, c3⟩ := h4 i hi
  exact ⟨s, m, cell_stays hb c1, cell_stays hb c2, c3.below hb⟩
theorem LeE.congr {w : World} {v : Value} {n : Nat} {E F : Nat → Int} (h : LeE w v n E) (e : ∀ i, i < n → E i = F i) : LeE w v n F := by
  obtain ⟨a, cap, e1, h1, h2, h3⟩ := h
  refine ⟨a, cap, e1, h1, h2, fun hn => ?_⟩
  obtain ⟨b, o, e2, h4⟩ := h3 hn
  exact ⟨b, o, e2, fun i hi => by rw [← e i hi]; exact h4 i hi⟩
theorem LeE.slice {w : World} {v : Value} {n : Nat} {E : Nat → Int} (h : LeE w v n E) : ∃ a cap, v = .slice a n cap ∧ n ≤ cap := by obtain ⟨a, cap, e, h1, -⟩ := h; exact ⟨a, cap, e, h1⟩
theorem LeE.get {w : World} {a : Option Addr} {n cap : Nat} {E : Nat → Int} (h : LeE w (.slice a n cap) n E) {i : Nat} (hi : i < n) : ∃ b o s m, a = some ⟨b, o, none⟩ ∧ w.cell? ⟨b, o + i * 2, none⟩ = some (.bool s) ∧ w.cell? ⟨b, o + i * 2 + 1, none⟩ = some m ∧ LeZ w (.agg #[.bool s, m]) (E i) := by
  obtain ⟨a', cap', e, -, -, h3⟩ := h
  simp only [Value.slice.injEq, true_and] at e
  obtain ⟨rfl, rfl⟩ := e
  obtain ⟨b, o, rfl, h4⟩ := h3 (by omega)
  obtain ⟨s, m, c1, c2, c3⟩ := h4 i hi
  exact ⟨b, o, s, m, rfl, c1, c2, c3⟩
theorem PaE.lee {w : World} {base lb n k : Nat} {D : Nat → Prop} {E : Nat → Int} (h : PaE w base D lb n k E) {j : Nat} (hj : j ≤ k) (hk : k ≤ n) (hn : j ≤ 1048576) : LeE w (.slice (some ⟨lb, 0, none⟩) j n) j E :=
  ⟨_, n, rfl, by omega, hn, fun _ => ⟨lb, 0, rfl, fun i hi => by
    obtain ⟨s, m, c1, c2, c3, -⟩ := h.cells i (by omega)
    rw [Nat.zero_add]
    exact ⟨s, m, c1, c2, c3⟩⟩⟩
theorem RdE.le_n {w : World} {v : Value} {n : Nat} {E : Nat → Int} (h : RdE w v n E) : n ≤ 1048576 := by obtain ⟨_, _, _, -, h, -⟩ := h; exact h
end Go.Proofs.Ytejliecmdkmgiaa
namespace Go.Proofs.Ytejliecmdkmgiaa
open Go.RowKit Go.Shelf
end Go.Proofs.Ytejliecmdkmgiaa
namespace Go.Proofs.Ytejliecmdkmgiaa
open Go.RowKit Go.Shelf
end Go.Proofs.Ytejliecmdkmgiaa
namespace Go.Proofs.Ytejliecmdkmgiaa
open Go.RowKit Go.Shelf
end Go.Proofs.Ytejliecmdkmgiaa
namespace Go.Proofs.Ytejliecmdkmgiaa
open Go.RowKit Go.Shelf
end Go.Proofs.Ytejliecmdkmgiaa
namespace Go.Proofs.Ytejliecmdkmgiaa
open Go.RowKit Go.Shelf
end Go.Proofs.Ytejliecmdkmgiaa
namespace Go.Proofs.Ytejliecmdkmgiaa
open Go.RowKit Go.Shelf
end Go.Proofs.Ytejliecmdkmgiaa
namespace Go.Proofs.Ytejliecmdkmgiaa
open Go.RowKit Go.Shelf
end Go.Proofs.Ytejliecmdkmgiaa
namespace Go.Proofs.Ytejliecmdkmgiaa
open Go.RowKit Go.Shelf
end Go.Proofs.Ytejliecmdkmgiaa
namespace Go.Proofs.Ytejliecmdkmgiaa
open Go.RowKit Go.Shelf
end Go.Proofs.Ytejliecmdkmgiaa
namespace Go.Proofs.Ytejliecmdkmgiaa
open Go.RowKit Go.Shelf
theorem three_own {W : World} {q : Nat} {v0 v1 v2 x0 x1 x2 : Value} (h0 : W.cell? ⟨q, 0, none⟩ = some v0) (h1 : W.cell? ⟨q, 1, none⟩ = some v1) (h2 : W.cell? ⟨q, 2, none⟩ = some v2) :
    (stored3 W q x0 x1 x2).cell? ⟨q, 0, none⟩ = some x0 ∧ (stored3 W q x0 x1 x2).cell? ⟨q, 1, none⟩ = some x1 ∧ (stored3 W q x0 x1 x2).cell? ⟨q, 2, none⟩ = some x2 := by
  have ne : ∀ i j : Nat, i ≠ j → (⟨q, i, none⟩ : Addr) ≠ ⟨q, j, none⟩ := fun i j h e => by injection e with _ e _; omega
  unfold stored3
  refine ⟨?_, ?_, ?_⟩
  · rw [World.cell?_setCell_other _ _ _ _ (ne 2 0 (by omega)), World.cell?_setCell_other _ _ _ _ (ne 1 0 (by omega))]
    exact World.cell?_setCell_same _ _ _ h0
  · rw [World.cell?_setCell_other _ _ _ _ (ne 2 1 (by omega))]
    refine World.cell?_setCell_same _ _ _ (u := v1) ?_
    rw [World.cell?_setCell_other _ _ _ _ (ne 0 1 (by omega))]; exact h1
  · refine World.cell?_setCell_same _ _ _ (u := v2) ?_
    rw [World.cell?_setCell_other _ _ _ _ (ne 1 2 (by omega)), World.cell?_setCell_other _ _ _ _ (ne 0 2 (by omega))]; exact h2
theorem three_froz {W : World} {q b i : Nat} {x0 x1 x2 : Value} (h : W.frozen? ⟨b, i, none⟩ = false) : (stored3 W q x0 x1 x2).frozen? ⟨b, i, none⟩ = false := by
  unfold stored3; rw [World.frozen?_setCell, World.frozen?_setCell, World.frozen?_setCell]; exact h
structure MBox (w : World) (mb : Nat) (r c : Int) (v : Value) : Prop where
  m0 : w.cell? ⟨mb, 0, none⟩ = some (.int .i64 r)
  m1 : w.cell? ⟨mb, 1, none⟩ = some (.int .i64 c)
  m2 : w.cell? ⟨mb, 2, none⟩ = some v
  f0 : w.frozen? ⟨mb, 0, none⟩ = false
  f1 : w.frozen? ⟨mb, 1, none⟩ = false
  f2 : w.frozen? ⟨mb, 2, none⟩ = false
theorem MBox.below {w w' : World} {mb : Nat} {r c : Int} {v : Value} (h : MBox w mb r c v) (hb : Below w.heap.size w w') : MBox w' mb r c v :=
  ⟨cell_stays hb h.m0, cell_stays hb h.m1, cell_stays hb h.m2, froz_stays hb h.m0 h.f0, froz_stays hb h.m1 h.f1, froz_stays hb h.m2 h.f2⟩
theorem MBox.store {w : World} {mb : Nat} {r c r' c' : Int} {v v' : Value} (h : MBox w mb r c v) : MBox (stored3 w mb (.int .i64 r') (.int .i64 c') v') mb r' c' v' := by
  obtain ⟨h0, h1, h2⟩ := three_own (x0 := .int .i64 r') (x1 := .int .i64 c') (x2 := v') h.m0 h.m1 h.m2
  exact ⟨h0, h1, h2, three_froz h.f0, three_froz h.f1, three_froz h.f2⟩
theorem froz_grown {w w' : World} {b d i : Nat} {v : Value} (hg : w.grownBy w' (some d)) (hb : b ≠ d) (hc : w.cell? ⟨b, i, none⟩ = some v) (hf : w.frozen? ⟨b, i, none⟩ = false) : w'.frozen? ⟨b, i, none⟩ = false := by
  have h1 := World.block_lt_of_cell? w _ hc
  have h2 := hg.block b h1 (fun e => hb (Option.some.inj e))
  unfold World.frozen? at *
  rw [h2]; exact hf
theorem MBox.grown {w w' : World} {mb d : Nat} {r c : Int} {v : Value} (h : MBox w mb r c v) (hg : w.grownBy w' (some d)) (hd : mb ≠ d) : MBox w' mb r c v :=
  have ne : some mb ≠ some d := fun e => hd (Option.some.inj e)
  ⟨hg.cell h.m0 ne, hg.cell h.m1 ne, hg.cell h.m2 ne, froz_grown hg hd h.m0 h.f0, froz_grown hg hd h.m1 h.f1, froz_grown hg hd h.m2 h.f2⟩
theorem MBox.new (w : World) (r c : Int) (v : Value) : MBox (w.alloc (.cells #[.int .i64 r, .int .i64 c, v] 24)) w.heap.size r c v := by
  have k := three_cells w (.int .i64 r) (.int .i64 c) v 24
  exact ⟨(k 0 _ rfl).1, (k 1 _ rfl).1, (k 2 _ rfl).1, (k 0 _ rfl).2, (k 1 _ rfl).2, (k 2 _ rfl).2⟩
structure ChR (w wr : World) (n pb mb lb : Nat) (sl : Value) (P G : Nat → Int) : Prop where
  below : Below w.heap.size w wr
  pm : w.heap.size < pb ∧ pb < mb ∧ mb < wr.heap.size
  a : MBox wr w.heap.size n n sl
  m : MBox wr mb n n (.slice (some ⟨lb, 0, none⟩) (n * n) (n * n))
  p : PaE wr w.heap.size (fun b => b ≤ pb ∨ b = mb ∨ b = lb) pb (n + 1) (n + 1) P
  g : PaE wr w.heap.size (fun b => b ≤ lb ∨ b = mb) lb (n * n) (n * n) G
  pl : pb < lb
  ml : mb ≠ lb
section
variable {w wr w' W1 : World} {n pb mb lb lb' : Nat} {sl : Value} {P G G' : Nat → Int}
theorem ChR.on (h : ChR w wr n pb mb lb sl P G) (hb : Below wr.heap.size wr w') : ChR w w' n pb mb lb sl P G :=
  ⟨below_via' h.below hb, ⟨h.pm.1, h.pm.2.1, Nat.lt_of_lt_of_le h.pm.2.2 hb.size⟩, h.a.below hb, h.m.below hb, h.p.below hb, h.g.below hb, h.pl, h.ml⟩
where below_via' {w u w' : World} (h : Below w.heap.size w u) (b : Below u.heap.size u w') : Below w.heap.size w w' := h.trans (b.mono h.size)
theorem ChR.mul (h : ChR w wr n pb mb lb sl P G) (hb : Below wr.heap.size wr W1) (hf : FrE W1 wr.heap.size (fun b => b ≤ lb') lb' (n * n) G') :
    ChR w (stored3 W1 mb (.int .i64 n) (.int .i64 n) (.slice (some ⟨lb', 0, none⟩) (n * n) (n * n))) n pb mb lb' sl P G' := by
  have hg := stored3_gb W1 mb (.int .i64 n) (.int .i64 n) (.slice (some ⟨lb', 0, none⟩) (n * n) (n * n))
  obtain ⟨p1, p2, p3⟩ := h.pm
  have hl := hf.own
  have hbw := below_via h.below hb
  refine ⟨hbw.grown hg hbw.size (fun k hk => by injection hk with hk; omega), ⟨p1, p2, Nat.lt_of_lt_of_le p3 (Nat.le_trans hb.size hg.size)⟩, (h.a.below hb).grown hg (by omega), (h.m.below hb).store, ?_, ?_, by omega, by omega⟩
  · refine PaE.grown ?_ hg (by omega) (Or.inr (Or.inl rfl))
    have h1 := h.p.turnD (D' := fun b => b ≤ pb ∨ b = mb ∨ b = lb') (fun b hbl hn hd => by
      rcases hd with hd | hd | hd
      · exact hn (Or.inl hd)
      · exact hn (Or.inr (Or.inl hd))
      · omega)
    exact h1.below hb
  · refine PaE.grown ?_ hg (by omega) (Or.inr rfl)
    exact (hf.mono (show w.heap.size ≤ wr.heap.size from h.below.size)).turnD (D' := fun b => b ≤ lb' ∨ b = mb) (fun b _ hn hd => by
      rcases hd with hd | hd
      · exact hn hd
      · exact hn (by omega))
theorem ChR.put (h : ChR w wr n pb mb lb sl P G) {u : World} (hu : Below wr.heap.size wr u) {s : Bool} {a : Option Addr} {c d : Nat} {z : Int} {b : Nat} (hb : wr.heap.size ≤ b) (hf : FrZ u b (.agg #[.bool s, .slice a c d]) z) {S : Nat} (hz : ZB S z) (hS : S ≤ 274877906944) {j : Nat} (hj : j < n + 1) :
    ChR w ((u.setCell ⟨pb, j * 2, none⟩ (.bool s)).setCell ⟨pb, j * 2 + 1, none⟩ (.slice a c d)) n pb mb lb sl (fun t => if t = j then z else P t) G ∧
      RdZ ((u.setCell ⟨pb, j * 2, none⟩ (.bool s)).setCell ⟨pb, j * 2 + 1, none⟩ (.slice a c d)) (.agg #[.bool s, .slice a c d]) z ∧ (Value.slice a c d).ownBlock ≠ some lb ∧ u.grownBy ((u.setCell ⟨pb, j * 2, none⟩ (.bool s)).setCell ⟨pb, j * 2 + 1, none⟩ (.slice a c d)) (some pb) := by
  have h1 := h.on hu
  obtain ⟨p1, p2, p3⟩ := h.pm
  have hlw := h.g.lt
  have hrd := hf.rd hz hS
  obtain ⟨s', a', c', d', he, hp⟩ := h1.p.putz hj (Or.inl (Nat.le_refl _)) hf hz hS (fun k k1 k2 k3 => by omega)
  injection he with he
  injection he with he
  injection he with he1 he
  injection he with he _
  injection he1 with he1
  rw [← he1, ← he] at hp
  have hown : ∀ k, (Value.slice a c d).ownBlock = some k → b ≤ k := by
    obtain ⟨a', c', d', e, ho⟩ := hf.agg
    injection e with e
    injection e with e
    injection e with _ e
    injection e with e _
    rw [e]
    exact fun k hk => (ho k hk).1
  have hg : u.grownBy ((u.setCell ⟨pb, j * 2, none⟩ (.bool s)).setCell ⟨pb, j * 2 + 1, none⟩ (.slice a c d)) (some pb) := gb_two _ _ _ _ _ _
  refine ⟨⟨h1.below.grown hg h1.below.size (fun k hk => by injection hk with hk; omega), ⟨p1, p2, Nat.lt_of_lt_of_le p3 (Nat.le_trans hu.size hg.size)⟩, h1.a.grown hg (by omega), h1.m.grown hg (by omega), hp, h1.g.grown hg (by have := h.pl; omega) (Or.inl (by have := h.pl; omega)), h.pl, h.ml⟩, hrd.gb hg (fun e => by have := hown _ e; omega), fun e => by have := hown _ e; omega, hg⟩
theorem ChR.congr (h : ChR w wr n pb mb lb sl P G) {P' : Nat → Int} (hp : ∀ i, i < n + 1 → P i = P' i) (hg : ∀ q, q < n * n → G q = G' q) : ChR w wr n pb mb lb sl P' G' :=
  { h with p := h.p.congr hp, g := h.g.congr hg }
theorem ChR.start {w6 w7 : World} (h6 : Below w.heap.size w w6) (a6 : MBox w6 w.heap.size n n sl) (hpb : w.heap.size < pb) (p6 : PaE w6 w.heap.size (fun b => b ≤ pb) pb (n + 1) (n + 1) P) (h7 : Below w6.heap.size w6 w7) (f7 : FrE w7 w6.heap.size (fun b => b ≤ lb) lb (n * n) G) :
    ChR w (w7.alloc (.cells #[.int .i64 n, .int .i64 n, .slice (some ⟨lb, 0, none⟩) (n * n) (n * n)] 24)) n pb w7.heap.size lb sl P G := by
  have hb8 := bl_alloc w7 (.cells #[.int .i64 n, .int .i64 n, .slice (some ⟨lb, 0, none⟩) (n * n) (n * n)] 24)
  have hs8 : (w7.alloc (.cells #[.int .i64 n, .int .i64 n, .slice (some ⟨lb, 0, none⟩) (n * n) (n * n)] 24)).heap.size = w7.heap.size + 1 := by simp
  have hm := MBox.new w7 n n (.slice (some ⟨lb, 0, none⟩) (n * n) (n * n))
  have hl := p6.lt
  have hl2 := f7.own
  have hl3 := f7.lt
  have hs7 := h7.size
  have hs6 := h6.size
  have h68 := below_via h7 hb8
  refine ⟨below_via h6 h68, ⟨hpb, by omega, by omega⟩, a6.below h68, hm, (p6.turnD fun b hbl hn hd => ?_).below h68, PaE.below ?_ hb8, by omega, by omega⟩
  · rcases hd with hd | hd | hd
    · exact hn hd
    · omega
    · omega
  · exact (f7.mono hs6).turnD (fun b hbl hn hd => by
      rcases hd with hd | hd
      · exact hn hd
      · omega)
end
end Go.Proofs.Ytejliecmdkmgiaa
namespace Go.Proofs.Ytejliecmdkmgiaa
open Go.RowKit
open laZ
end Go.Proofs.Ytejliecmdkmgiaa
namespace Go.Proofs.Ytejliecmdkmgiaa
open Go.RowKit
theorem anyL_yield {P : Program} {Q : Exit → Act → World → Prop} {md : Region.Mode} {ops : Array Oper} {S : World → Prop} {f i : Nat} {oi : Oper} {fuel : Nat} {listed : Array Bool} {a : Act} {w : World} (hi : ops[i]? = some oi)
    (hs : Region.noSelect ops = true) (hfr : Region.free md ops listed i = true) (hr : (Region.ready md ops listed).contains i = true) (hf : decide (i < f) = true)
    (hQ : ∀ c (a : Act) (d : Option Tmp) (v : Value) w, Q (.panic c) (a.put d v) w → Q (.panic c) a w) (hw : Region.wanted oi (yielded ops a.tmps) = true) (hS : S w)
    (h : ∃ v, (∀ w, (execOp a.eval oi).run P w = .ok (.value v) w) ∧ wpAnyL P md ops Q S f fuel (listed.setIfInBounds i true) (a.put oi.dst v) w) : wpAnyL P md ops Q S f (fuel + 1) listed a w :=
  h.elim fun v h => anyL_pure (v := v) hi hs hfr hr hf (fun c a w => hQ c a _ _ w) (Or.inl ⟨hw, fun w _ => h.1 w⟩) hS h.2
end Go.Proofs.Ytejliecmdkmgiaa
namespace Go.Proofs.Ytejliecmdkmgiaa
open Go.RowKit Go.Shelf
end Go.Proofs.Ytejliecmdkmgiaa
namespace Go.Proofs.Ytejliecmdkmgiaa
open Go.RowKit Go.Shelf
end Go.Proofs.Ytejliecmdkmgiaa
