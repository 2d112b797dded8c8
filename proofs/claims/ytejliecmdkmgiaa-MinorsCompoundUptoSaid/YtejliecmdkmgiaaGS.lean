/- The helpers of the laws of layer 16: of, power, awake. A region that draws its order: what reads comes up behind a call. The walk of trellislaw16.awake. The walks of divnat.words, divnat.Gcd. The walk of divnat.Gcd. The walks of bezout.Gcd, GcdAll. The walk of relation.less. copy of a list of integers into a list of the call's own. What memory holds in the loops of charpoly.LeastPoly. The walk of charpoly.LeastPoly. -/
import Derived.Test.YtejliecmdkmgiaaGR
import Derived.Test.YtejliecmdkmgiaaGH
import Derived.Deep.LoopGhost
import Derived.Laws.IdiomCopy
set_option linter.unusedVariables false
set_option linter.unusedSimpArgs false
namespace Go.Proofs.Ytejliecmdkmgiaa
open Go.RowKit Go.Shelf

end Go.Proofs.Ytejliecmdkmgiaa

namespace Go.Proofs.Ytejliecmdkmgiaa
open Go.RowKit

/-- the next one reads in a world where S holds, and comes up now -/
theorem anyL_read {P : Program} {Q : Exit → Act → World → Prop} {md : Region.Mode} {ops : Array Oper} {S : World → Prop} {f i : Nat} {oi : Oper} {fuel : Nat} {listed : Array Bool} {a : Act} {w : World} (hi : ops[i]? = some oi)
    (hs : Region.noSelect ops = true) (hfr : Region.free md ops listed i = true) (hr : (Region.ready md ops listed).contains i = true) (hf : (waitsB md ops f i && tailOff f listed && decide (i < f)) = true)
    (hQ : ∀ c (a : Act) (d : Option Tmp) (v : Value) w, Q (.panic c) (a.put d v) w → Q (.panic c) a w) (hw : Region.wanted oi (yielded ops a.tmps) = true) (hS : S w)
    (h : ∃ v, (∀ w, S w → (execOp a.eval oi).run P w = .ok (.value v) w) ∧ wpAnyL P md ops Q S f fuel (listed.setIfInBounds i true) (a.put oi.dst v) w) : wpAnyL P md ops Q S f (fuel + 1) listed a w :=
  h.elim fun v h => anyL_take (v := v) hi hs hfr hr (by simpa using hf) (fun c a w => hQ c a _ _ w) (Or.inl ⟨hw, h.1⟩) hS h.2
end Go.Proofs.Ytejliecmdkmgiaa

namespace Go.Proofs.Ytejliecmdkmgiaa
open Go.RowKit Go.Shelf

end Go.Proofs.Ytejliecmdkmgiaa

namespace Go.Proofs.Ytejliecmdkmgiaa
open Go.RowKit Go.Shelf

end Go.Proofs.Ytejliecmdkmgiaa

namespace Go.Proofs.Ytejliecmdkmgiaa
open Go.RowKit Go.Shelf

theorem FrN.parts {w : World} {base : Nat} {v : Value} {N : Nat} {S : Nat} (h : FrN w base v (N : Nat)) (hS : ZB S (N : Int)) :
    ∃ a n c f, v = .slice a n c ∧ RdW w (.slice a n c) n f ∧ natFrom f 0 n = (N : Int) ∧ n ≤ S ∧ (n = 0 ↔ N = 0) := by
  obtain ⟨a, n, c, f, rfl, h1, h2⟩ := h.nat
  refine ⟨a, n, c, f, rfl, ⟨h1.read, h2.words⟩, by rw [natFrom_dv0]; exact h2.val, h2.len (by omega) hS, ?_⟩
  rw [h2.zero_iff (by omega)]; omega
theorem RdW.one {w : World} {a : Option Addr} {c : Nat} {f : Nat → Int} {N : Nat} (h : RdW w (.slice a 1 c) 1 f) (hN : natFrom f 0 1 = (N : Int)) : ∃ b o, a = some ⟨b, o, none⟩ ∧ w.cell? ⟨b, o, none⟩ = some (.int .u64 N) ∧ N < 18446744073709551616 := by
  obtain ⟨a', c', he, -, -, h2⟩ := h.1
  injection he with e1 e2 e3
  subst e1
  obtain ⟨b, o, rfl, h3⟩ := h2 (by omega)
  have hw := h.2 0 (by omega)
  have hv : f 0 = (N : Int) := by rw [← hN, natFrom_dv0]; simp [dv]
  refine ⟨b, o, rfl, ?_, by omega⟩
  have := h3 0 (by omega)
  rw [hv] at this
  exact this

end Go.Proofs.Ytejliecmdkmgiaa

namespace Go.Proofs.Ytejliecmdkmgiaa
open Go.RowKit Go.Shelf

end Go.Proofs.Ytejliecmdkmgiaa

namespace Go.Proofs.Ytejliecmdkmgiaa
open Go.RowKit Go.Shelf

end Go.Proofs.Ytejliecmdkmgiaa

namespace Go.Proofs.Ytejliecmdkmgiaa
open Go.RowKit Go.Shelf

end Go.Proofs.Ytejliecmdkmgiaa

namespace Go.Proofs.Ytejliecmdkmgiaa
open Go.RowKit Go.Shelf

theorem tagRel : 49 ≠ 108 := by decide
theorem MBox.grow {w w' : World} {mb : Nat} {r c : Int} {v : Value} (h : MBox w mb r c v) {o : Option Nat} (hg : w.grownBy w' o) (hd : ∀ d, o = some d → mb ≠ d) : MBox w' mb r c v := by
  cases o with
  | none => exact h.below ⟨hg.os, hg.tape, hg.output, hg.size, fun k hk => hg.block k hk (by simp)⟩
  | some d => exact h.grown hg (hd d rfl)
theorem PaE.rel {w : World} {base lb n k B N : Nat} {D : Nat → Prop} {E : Nat → Int} {sv : Value} {xs : List Value} (h : PaE w base D lb n k E) (ho : w.ownsRow B 108 2 sv N xs) : sv.ownBlock ≠ some lb := by
  obtain ⟨cur, hc, -⟩ := h.blk
  exact own_tag ho hc tagRel

/-- the rows kept, their list, the matrix so far and its box, the argument's box; D: the blocks that may be written -/
structure LsR (w wr : World) (n L mb lM : Nat) (sl sv : Value) (D : Nat → Prop) (k : Nat) (B : Nat → Nat) (R : Nat → Nat → Int) (hd : Nat → Nat) (G : Nat → Int) : Prop where
  below : Below w.heap.size w wr
  mbw : w.heap.size < mb ∧ mb < wr.heap.size
  a : MBox wr w.heap.size n n sl
  m : MBox wr mb n n (.slice (some ⟨lM, 0, none⟩) (n * n) (n * n))
  own : wr.ownsRow (mb + 1) 108 2 sv k (flatI (fun i => .slice (some ⟨B i, 0, none⟩) L L) (fun i => .int .i64 (hd i)) k)
  row : ∀ i, i < k → PaE wr (w.heap.size + 1) D (B i) L L (R i) ∧ D (B i) ∧ mb ≠ B i
  g : PaE wr (w.heap.size + 1) D lM (n * n) (n * n) G
  dm : D mb ∧ D lM ∧ mb ≠ lM
  dsv : ∀ b, sv.ownBlock = some b → D b
  dl : ∀ b, D b → b < wr.heap.size
/-- and the row in work -/
structure LsW (w wr : World) (n L mb lM : Nat) (sl sv : Value) (D : Nat → Prop) (k : Nat) (B : Nat → Nat) (R : Nat → Nat → Int) (hd : Nat → Nat) (G : Nat → Int) (lv : Nat) (V : Nat → Int) : Prop where
  r : LsR w wr n L mb lM sl sv D k B R hd G
  v : PaE wr (w.heap.size + 1) D lv L L V
  dv : D lv ∧ mb ≠ lv ∧ lM ≠ lv ∧ ∀ i, i < k → B i ≠ lv
section
variable {w wr w' W1 : World} {n L mb lM k lv : Nat} {sl sv : Value} {D : Nat → Prop} {B hd : Nat → Nat} {R : Nat → Nat → Int} {G V : Nat → Int}
theorem LsR.on (h : LsR w wr n L mb lM sl sv D k B R hd G) (hb : Below wr.heap.size wr w') : LsR w w' n L mb lM sl sv D k B R hd G :=
  ⟨below_via h.below hb, ⟨h.mbw.1, Nat.lt_of_lt_of_le h.mbw.2 hb.size⟩, h.a.below hb, h.m.below hb, own_below h.own hb, fun i hi => ⟨(h.row i hi).1.below hb, (h.row i hi).2⟩, h.g.below hb, h.dm, h.dsv, fun b hd => Nat.lt_of_lt_of_le (h.dl b hd) hb.size⟩
theorem LsW.on (h : LsW w wr n L mb lM sl sv D k B R hd G lv V) (hb : Below wr.heap.size wr w') : LsW w w' n L mb lM sl sv D k B R hd G lv V := ⟨h.r.on hb, h.v.below hb, h.dv⟩
theorem LsW.congr (h : LsW w wr n L mb lM sl sv D k B R hd G lv V) {V' : Nat → Int} (e : ∀ c, c < L → V c = V' c) : LsW w wr n L mb lM sl sv D k B R hd G lv V' := ⟨h.r, h.v.congr e, h.dv⟩
theorem LsR.congr (h : LsR w wr n L mb lM sl sv D k B R hd G) {G' : Nat → Int} (e : ∀ c, c < n * n → G c = G' c) : LsR w wr n L mb lM sl sv D k B R hd G' := { h with g := h.g.congr e }
/-- the row in work turns -/
theorem LsW.turn (h : LsW w wr n L mb lM sl sv D k B R hd G lv V) (hg : wr.grownBy w' (some lv)) {V' : Nat → Int} (hv : PaE w' (w.heap.size + 1) D lv L L V') : LsW w w' n L mb lM sl sv D k B R hd G lv V' := by
  have ho := h.v.own
  obtain ⟨d1, d2, d3, d4⟩ := h.dv
  refine ⟨⟨h.r.below.grown hg h.r.below.size (fun k hk => by injection hk with hk; omega), ⟨h.r.mbw.1, Nat.lt_of_lt_of_le h.r.mbw.2 hg.size⟩, h.r.a.grown hg (by omega), h.r.m.grown hg d2, h.r.own.kept hg (Or.inr (h.v.rel h.r.own)), fun i hi => ⟨(h.r.row i hi).1.grown hg (d4 i hi) d1, (h.r.row i hi).2⟩, h.r.g.grown hg d3 d1, h.r.dm, h.r.dsv, fun b hb => Nat.lt_of_lt_of_le (h.r.dl b hb) hg.size⟩, hv, h.dv⟩
/-- the row in work is kept -/
theorem LsW.push (h : LsW w wr n L mb lM sl sv D k B R hd G lv V) {q g cap : Nat} 
    (ho : w'.ownsRow (mb + 1) 108 2 (.slice (some ⟨g, 0, none⟩) (k + 1) cap) (k + 1) (flatI (fun i => .slice (some ⟨B i, 0, none⟩) L L) (fun i => .int .i64 (hd i)) k ++ [.slice (some ⟨lv, 0, none⟩) L L, .int .i64 q]))
    (hg : wr.grownBy w' sv.ownBlock) (hat : sv.ownBlock = some g ∨ wr.heap.size ≤ g) (hlt : g < w'.heap.size) :
    LsR w w' n L mb lM sl (.slice (some ⟨g, 0, none⟩) (k + 1) cap) (fun b => D b ∨ b = g) (k + 1) (fun i => if i = k then lv else B i) (fun i => if i = k then V else R i) (fun i => if i = k then q else hd i) G := by
  have hol := h.r.own.lt
  have ht : ∀ b, b < wr.heap.size → ¬ D b → ¬ (D b ∨ b = g) := fun b hb hn hd => hd.elim hn (fun e => by
    rcases hat with e2 | e2
    · exact hn (h.r.dsv b (e ▸ e2))
    · omega)
  have hgr : ∀ {lb N : Nat} {E : Nat → Int}, PaE wr (w.heap.size + 1) D lb N N E → PaE w' (w.heap.size + 1) (fun b => D b ∨ b = g) lb N N E := fun hp => (hp.turnD ht).grow hg (fun d hd => ⟨fun e => hp.rel h.r.own (by rw [hd, e]), Or.inl (h.r.dsv d hd)⟩)
  refine ⟨h.r.below.grown hg h.r.below.size (fun k hk => by have := hol k hk; have := h.r.mbw; omega), ⟨h.r.mbw.1, Nat.lt_of_lt_of_le h.r.mbw.2 hg.size⟩, h.r.a.grow hg (fun d hd => by have := hol d hd; have := h.r.mbw; omega), h.r.m.grow hg (fun d hd => by have := hol d hd; omega), ?_, fun i hi => ?_, hgr h.r.g, ⟨Or.inl h.r.dm.1, Or.inl h.r.dm.2.1, h.r.dm.2.2⟩, fun b hb => Or.inr (by simpa [Value.ownBlock] using hb.symm), fun b hb => hb.elim (fun e => Nat.lt_of_lt_of_le (h.r.dl b e) hg.size) (fun e => e ▸ hlt)⟩
  · show w'.ownsRow _ _ 2 _ (k + 1) (flatI _ _ k ++ [_, _])
    rw [flatI_congr (b' := fun i => .slice (some ⟨B i, 0, none⟩) L L) (m' := fun i => .int .i64 (hd i)) (fun i hi => ⟨by simp only [if_neg (Nat.ne_of_lt hi)], by simp only [if_neg (Nat.ne_of_lt hi)]⟩)]
    simp only [if_true]
    exact ho
  · by_cases e : i = k
    · simp only [if_pos e]
      exact ⟨hgr h.v, Or.inl h.dv.1, h.dv.2.1⟩
    · simp only [if_neg e]
      obtain ⟨r1, r2, r3⟩ := h.r.row i (by omega)
      exact ⟨hgr r1, Or.inl r2, r3⟩
/-- the matrix is multiplied -/
theorem LsR.mul (h : LsR w wr n L mb lM sl sv D k B R hd G) {l2 : Nat} {G' : Nat → Int} (hb : Below wr.heap.size wr W1) (hf : FrE W1 wr.heap.size (fun b => b ≤ l2) l2 (n * n) G') :
    LsR w (stored3 W1 mb (.int .i64 n) (.int .i64 n) (.slice (some ⟨l2, 0, none⟩) (n * n) (n * n))) n L mb l2 sl sv (fun b => D b ∨ b = l2) k B R hd G' := by
  have hg := stored3_gb W1 mb (.int .i64 n) (.int .i64 n) (.slice (some ⟨l2, 0, none⟩) (n * n) (n * n))
  have hl := hf.own
  have hl2 := hf.lt
  have hbw := below_via h.below hb
  have hmw := h.mbw
  have ht : ∀ b, b < wr.heap.size → ¬ D b → ¬ (D b ∨ b = l2) := fun b hb hn hd => hd.elim hn (fun e => by omega)
  refine ⟨hbw.grown hg hbw.size (fun k hk => by injection hk with hk; omega), ⟨hmw.1, Nat.lt_of_lt_of_le hmw.2 (Nat.le_trans hb.size hg.size)⟩, (h.a.below hb).grown hg (by omega), (h.m.below hb).store, (own_below h.own hb).kept hg (Or.inr fun e => by have := h.own.lt _ e; omega), fun i hi => ⟨(((h.row i hi).1.turnD ht).below hb).grown hg (fun e => (h.row i hi).2.2 e.symm) (Or.inl h.dm.1), Or.inl (h.row i hi).2.1, (h.row i hi).2.2⟩, ?_, ⟨Or.inl h.dm.1, Or.inr rfl, by omega⟩, fun b hb => Or.inl (h.dsv b hb), fun b hd => Nat.lt_of_lt_of_le (hd.elim (fun e => Nat.lt_of_lt_of_le (h.dl b e) hb.size) (fun e => e ▸ hl2)) hg.size⟩
  refine PaE.grown ?_ hg (by omega) (Or.inl h.dm.1)
  exact (hf.mono (show w.heap.size + 1 ≤ wr.heap.size by omega)).turnD (D' := fun b => D b ∨ b = l2) (fun b _ hn hd => hn (hd.elim (fun e => by have := h.dl b e; omega) (fun e => by omega)))
theorem LsR.start {w6 w7 : World} {lb : Nat} (h6 : Below w.heap.size w w6) (hs6 : w.heap.size < w6.heap.size) (a6 : MBox w6 w.heap.size n n sl) (h7 : Below w6.heap.size w6 w7) (f7 : FrE w7 w6.heap.size (fun b => b ≤ lb) lb (n * n) G) :
    LsR w (w7.alloc (.cells #[.int .i64 n, .int .i64 n, .slice (some ⟨lb, 0, none⟩) (n * n) (n * n)] 24)) n L w7.heap.size lb sl (.slice none 0 0) (fun b => b = w7.heap.size ∨ b = lb) 0 B R hd G := by
  have hb8 := bl_alloc w7 (.cells #[.int .i64 n, .int .i64 n, .slice (some ⟨lb, 0, none⟩) (n * n) (n * n)] 24)
  have hs8 : (w7.alloc (.cells #[.int .i64 n, .int .i64 n, .slice (some ⟨lb, 0, none⟩) (n * n) (n * n)] 24)).heap.size = w7.heap.size + 1 := by simp
  have hl2 := f7.own
  have hl3 := f7.lt
  have hs7 := h7.size
  have h68 := below_via h7 hb8
  refine ⟨below_via h6 h68, ⟨by omega, by omega⟩, a6.below h68, MBox.new w7 n n _, World.ownsRow_nil _ _ _ _, fun i hi => absurd hi (by omega), PaE.below ?_ hb8, ⟨Or.inl rfl, Or.inr rfl, by omega⟩, fun b hb => by simp [Value.ownBlock] at hb, fun b hb => by omega⟩
  exact (f7.mono (show w.heap.size + 1 ≤ w6.heap.size by omega)).turnD (fun b hbl hn hd => by
    rcases hd with hd | hd
    · omega
    · exact hn (by omega))
end
end Go.Proofs.Ytejliecmdkmgiaa

namespace Go.Proofs.Ytejliecmdkmgiaa
open Go.RowKit Go.Shelf

end Go.Proofs.Ytejliecmdkmgiaa
