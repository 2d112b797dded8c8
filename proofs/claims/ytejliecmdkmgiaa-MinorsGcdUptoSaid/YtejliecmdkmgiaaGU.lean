import Derived.Test.YtejliecmdkmgiaaGR
import Derived.Test.YtejliecmdkmgiaaGS
import Derived.Test.YtejliecmdkmgiaaGI
set_option linter.unusedVariables false
set_option linter.unusedSimpArgs false
namespace Go.Proofs.Ytejliecmdkmgiaa
open laZ
def hor (n : Nat) (A : Nat → Nat → Int) (E : Nat → Int) (s : Nat) : Nat → Nat → Nat → Int
  | 0 => fun _ _ => 0
  | t + 1 => fun i j => mm n (hor n A E s t) A i j + E (s - (t + 1)) * idm i j
theorem zb_max {S T C : Nat} {x y : Int} (hx : ZB S x) (hy : ZB T y) (h1 : S ≤ C) (h2 : T ≤ C) : ZB (C + 1) (x + y) := by
  have a := hx.mono h1
  have b := hy.mono h2
  unfold ZB at *
  rw [Int.pow_succ]
  have hp := pow_pos' (show (0 : Int) < 18446744073709551616 by omega) C
  generalize (18446744073709551616 : Int) ^ C = X at *
  omega
theorem zb_maxs {S T C : Nat} {x y : Int} (hx : ZB S x) (hy : ZB T y) (h1 : S ≤ C) (h2 : T ≤ C) : ZB (C + 1) (x - y) := by
  rw [Int.sub_eq_add_neg]; exact zb_max hx hy.neg h1 h2
end Go.Proofs.Ytejliecmdkmgiaa
namespace Go.Proofs.Ytejliecmdkmgiaa
open Go.RowKit Go.Shelf
end Go.Proofs.Ytejliecmdkmgiaa
namespace Go.Proofs.Ytejliecmdkmgiaa
open Go.RowKit Go.Shelf
structure AtR (w wr : World) (n mb lb : Nat) (sl : Value) (G : Nat → Int) : Prop where
  below : Below w.heap.size w wr
  pm : w.heap.size + 1 < mb ∧ mb < wr.heap.size
  a : MBox wr w.heap.size n n sl
  r : MBox wr (w.heap.size + 1) 0 0 (.slice none 0 0)
  m : MBox wr mb n n (.slice (some ⟨lb, 0, none⟩) (n * n) (n * n))
  g : PaE wr w.heap.size (fun b => b ≤ lb ∨ b = mb) lb (n * n) (n * n) G
  pl : w.heap.size + 1 < lb
  ml : mb ≠ lb
section
variable {w wr w' W1 : World} {n mb lb lb' : Nat} {sl : Value} {G G' : Nat → Int}
theorem AtR.on (h : AtR w wr n mb lb sl G) (hb : Below wr.heap.size wr w') : AtR w w' n mb lb sl G :=
  ⟨below_via h.below hb, ⟨h.pm.1, Nat.lt_of_lt_of_le h.pm.2 hb.size⟩, h.a.below hb, h.r.below hb, h.m.below hb, h.g.below hb, h.pl, h.ml⟩
theorem AtR.mul (h : AtR w wr n mb lb sl G) (hb : Below wr.heap.size wr W1) (hf : FrE W1 wr.heap.size (fun b => b ≤ lb') lb' (n * n) G') :
    AtR w (stored3 W1 mb (.int .i64 n) (.int .i64 n) (.slice (some ⟨lb', 0, none⟩) (n * n) (n * n))) n mb lb' sl G' := by
  have hg := stored3_gb W1 mb (.int .i64 n) (.int .i64 n) (.slice (some ⟨lb', 0, none⟩) (n * n) (n * n))
  obtain ⟨p1, p2⟩ := h.pm
  have hl := hf.own
  have hbw := below_via h.below hb
  refine ⟨hbw.grown hg hbw.size (fun k hk => by injection hk with hk; omega), ⟨p1, Nat.lt_of_lt_of_le p2 (Nat.le_trans hb.size hg.size)⟩, (h.a.below hb).grown hg (by omega), (h.r.below hb).grown hg (by omega), (h.m.below hb).store, ?_, by omega, by omega⟩
  refine PaE.grown ?_ hg (by omega) (Or.inr rfl)
  exact (hf.mono (show w.heap.size ≤ wr.heap.size from h.below.size)).turnD (D' := fun b => b ≤ lb' ∨ b = mb) (fun b _ hn hd => by
    rcases hd with hd | hd
    · exact hn hd
    · exact hn (by omega))
theorem AtR.congr (h : AtR w wr n mb lb sl G) (hg : ∀ q, q < n * n → G q = G' q) : AtR w wr n mb lb sl G' := { h with g := h.g.congr hg }
theorem AtR.start {w6 w7 : World} (h6 : Below w.heap.size w w6) (hs : w.heap.size + 1 < w6.heap.size) (a6 : MBox w6 w.heap.size n n sl) (r6 : MBox w6 (w.heap.size + 1) 0 0 (.slice none 0 0)) (h7 : Below w6.heap.size w6 w7) (f7 : FrE w7 w6.heap.size (fun b => b ≤ lb) lb (n * n) G) :
    AtR w (w7.alloc (.cells #[.int .i64 n, .int .i64 n, .slice (some ⟨lb, 0, none⟩) (n * n) (n * n)] 24)) n w7.heap.size lb sl G := by
  have hb8 := bl_alloc w7 (.cells #[.int .i64 n, .int .i64 n, .slice (some ⟨lb, 0, none⟩) (n * n) (n * n)] 24)
  have hs8 : (w7.alloc (.cells #[.int .i64 n, .int .i64 n, .slice (some ⟨lb, 0, none⟩) (n * n) (n * n)] 24)).heap.size = w7.heap.size + 1 := by simp
  have hl2 := f7.own
  have hl3 := f7.lt
  have hs7 := h7.size
  have h68 := below_via h7 hb8
  refine ⟨below_via h6 h68, ⟨by omega, by omega⟩, a6.below h68, r6.below h68, MBox.new w7 n n _, PaE.below ?_ hb8, by omega, by omega⟩
  exact (f7.mono h6.size).turnD (fun b hbl hn hd => by
    rcases hd with hd | hd
    · exact hn hd
    · omega)
theorem AtR.added (h : AtR w wr n mb lb sl G) {v : Value} {z : Int} (hz : ∀ u, Below w.heap.size w u → RdZ u v z) : ∀ u, wr.grownBy u (some lb) → RdZ u v z := fun u hg =>
  hz u (h.below.grown hg h.below.size (fun k hk => by injection hk with hk; have := h.pl; omega))
end
end Go.Proofs.Ytejliecmdkmgiaa
namespace Go.Proofs.Ytejliecmdkmgiaa
open Go.RowKit Go.Shelf
end Go.Proofs.Ytejliecmdkmgiaa
namespace Go.Proofs.Ytejliecmdkmgiaa
open Go.RowKit Go.Shelf
structure TrR (w wr : World) (n mb lb t : Nat) (sl v : Value) (G E : Nat → Int) (M : Nat → Value) : Prop where
  below : Below w.heap.size w wr
  pm : w.heap.size < mb ∧ mb < wr.heap.size
  a : MBox wr w.heap.size n n sl
  m : MBox wr mb n n (.slice (some ⟨lb, 0, none⟩) (n * n) (n * n))
  g : RdE wr (.slice (some ⟨lb, 0, none⟩) (n * n) (n * n)) (n * n) G
  own : wr.ownsRow (w.heap.size + 1) 49 2 v t (flatI (fun i => .bool (decide (E i < 0))) M t)
  num : ∀ i, i < t → FrZ wr (mb + 1) (.agg #[.bool (decide (E i < 0)), M i]) (E i)
  vm : v.ownBlock ≠ some mb
section
variable {w wr w' W1 : World} {n mb lb t lb' : Nat} {sl v : Value} {G G' E : Nat → Int} {M : Nat → Value}
structure TrS (w wr : World) (n mb lb t : Nat) (sl v : Value) (G E : Nat → Int) (M : Nat → Value) : Prop where
  r : TrR w wr n mb lb t sl v G E M
  p : PaE wr (w.heap.size + 1) (fun b => b ≤ lb) lb (n * n) (n * n) G
  vl : ∀ b, v.ownBlock = some b → b < lb
theorem TrS.on (h : TrS w wr n mb lb t sl v G E M) (hb : Below wr.heap.size wr w') : TrS w w' n mb lb t sl v G E M :=
  ⟨⟨below_via h.r.below hb, ⟨h.r.pm.1, Nat.lt_of_lt_of_le h.r.pm.2 hb.size⟩, h.r.a.below hb, h.r.m.below hb, h.r.g.below hb, own_below h.r.own hb, fun i hi => (h.r.num i hi).below hb, h.r.vm⟩, h.p.below hb, h.vl⟩
theorem TrR.mul (h : TrR w wr n mb lb t sl v G E M) (hn : n * n ≤ 1048576) (hb : Below wr.heap.size wr W1) (hf : FrE W1 wr.heap.size (fun b => b ≤ lb') lb' (n * n) G') :
    TrS w (stored3 W1 mb (.int .i64 n) (.int .i64 n) (.slice (some ⟨lb', 0, none⟩) (n * n) (n * n))) n mb lb' t sl v G' E M := by
  have hg := stored3_gb W1 mb (.int .i64 n) (.int .i64 n) (.slice (some ⟨lb', 0, none⟩) (n * n) (n * n))
  obtain ⟨p1, p2⟩ := h.pm
  have hl := hf.own
  have hbw := below_via h.below hb
  have hp := (hf.mono (show w.heap.size + 1 ≤ wr.heap.size by omega)).grown hg (by omega) (show mb ≤ lb' by omega)
  exact ⟨⟨hbw.grown hg hbw.size (fun k hk => by injection hk with hk; omega), ⟨p1, Nat.lt_of_lt_of_le p2 (Nat.le_trans hb.size hg.size)⟩, (h.a.below hb).grown hg (by omega), (h.m.below hb).store, hp.rd (Nat.le_refl _) hn, (own_below h.own hb).kept hg (Or.inr h.vm), fun i hi => ((h.num i hi).below hb).far hg (by omega), h.vm⟩, hp, fun b e => Nat.lt_of_lt_of_le (h.own.lt b e).2 hl⟩
theorem TrS.push (h : TrS w wr n mb lb t sl v G E M) (hn : n * n ≤ 1048576) {z : Int} {mv : Value} (hz : FrZ wr (mb + 1) (.agg #[.bool (decide (z < 0)), mv]) z) {g cap : Nat}
    (ho : w'.ownsRow (w.heap.size + 1) 49 2 (.slice (some ⟨g, 0, none⟩) (t + 1) cap) (t + 1) (flatI (fun i => .bool (decide (E i < 0))) M t ++ [.bool (decide (z < 0)), mv])) (hg : wr.grownBy w' v.ownBlock) (hat : v.ownBlock = some g ∨ wr.heap.size ≤ g) (hlt : g < w'.heap.size) :
    TrR w w' n mb lb (t + 1) sl (.slice (some ⟨g, 0, none⟩) (t + 1) cap) G (fun i => if i = t then z else E i) (fun i => if i = t then mv else M i) := by
  have hol := h.r.own.lt
  obtain ⟨p1, p2⟩ := h.r.pm
  have hp := h.p.grow hg (fun d hd => ⟨by have := h.vl d hd; omega, Nat.le_of_lt (h.vl d hd)⟩)
  refine ⟨h.r.below.grown hg h.r.below.size (fun k hk => by have := hol k hk; omega), ⟨p1, Nat.lt_of_lt_of_le p2 hg.size⟩, h.r.a.grow hg (fun d hd => by have := hol d hd; omega), h.r.m.grow hg (fun d hd e => h.r.vm (by rw [hd, e])), hp.rd (Nat.le_refl _) hn, ?_, fun i hi => ?_, fun e => ?_⟩
  · show w'.ownsRow _ _ 2 _ (t + 1) (flatI _ _ t ++ [_, _])
    rw [flatI_congr (b' := fun i => .bool (decide (E i < 0))) (m' := M) (fun i hi => ⟨by simp only [if_neg (Nat.ne_of_lt hi)], by simp only [if_neg (Nat.ne_of_lt hi)]⟩)]
    simp only [if_true]
    exact ho
  · show FrZ w' (mb + 1) (.agg #[.bool (decide ((if i = t then z else E i) < 0)), if i = t then mv else M i]) (if i = t then z else E i)
    by_cases e : i = t
    · simp only [if_pos e]
      exact hz.grow_tag h.r.own hg
    · simp only [if_neg e]
      exact (h.r.num i (by omega)).grow_tag h.r.own hg
  · have e2 : g = mb := by simpa [Value.ownBlock] using e
    rcases hat with hat | hat
    · exact h.r.vm (by rw [hat, e2])
    · omega
theorem TrR.read (h : TrR w wr n mb lb t sl v G E M) (hn : t ≤ 1048576) {S : Nat} (hS : S ≤ 274877906944) (hz : ∀ i, i < t → ZB S (E i)) : RdE wr v t E := by
  obtain ⟨o0, o1⟩ := h.own
  rcases o1 with ⟨rfl, rfl⟩ | ⟨g, cap, cur, rfl, -, h3, h4, -, -, h5⟩
  · exact ⟨none, 0, rfl, Nat.le_refl _, by omega, fun h => absurd h (by omega)⟩
  · refine ⟨some ⟨g, 0, none⟩, cap, rfl, h4, hn, fun _ => ⟨g, 0, rfl, fun i hi => ⟨decide (E i < 0), M i, ?_, ?_, (h.num i hi).rd (hz i hi) hS⟩⟩⟩
    · have := (flatI_at (fun i => Value.bool (decide (E i < 0))) M t i hi).1
      rw [← h5, List.getElem?_take, if_pos (by omega)] at this
      rw [Nat.zero_add, cell_of_row _ _ _ _ _ _ h3]; simpa using this
    · have := (flatI_at (fun i => Value.bool (decide (E i < 0))) M t i hi).2
      rw [← h5, List.getElem?_take, if_pos (by omega)] at this
      rw [Nat.zero_add, cell_of_row _ _ _ _ _ _ h3]; simpa using this
end
end Go.Proofs.Ytejliecmdkmgiaa
namespace Go.Proofs.Ytejliecmdkmgiaa
open Go.RowKit Go.Shelf
end Go.Proofs.Ytejliecmdkmgiaa
namespace Go.Proofs.Ytejliecmdkmgiaa
open Go.RowKit Go.Shelf
end Go.Proofs.Ytejliecmdkmgiaa
namespace Go.Proofs.Ytejliecmdkmgiaa
open Go.RowKit Go.Shelf
end Go.Proofs.Ytejliecmdkmgiaa
namespace Go.Proofs.Ytejliecmdkmgiaa
open laZ
end Go.Proofs.Ytejliecmdkmgiaa
namespace Go.Proofs.Ytejliecmdkmgiaa
open Go.RowKit Go.Shelf
structure DmR (w wr : World) (lr lq N K : Nat) (R Q : Nat → Int) : Prop where
  below : Below w.heap.size w wr
  r : PaE wr w.heap.size (fun b => b = lr ∨ b = lq) lr N N R
  q : PaE wr w.heap.size (fun b => b = lr ∨ b = lq) lq K K Q
  ne : lr ≠ lq
section
variable {w wr w' u : World} {lr lq N K : Nat} {R R' Q : Nat → Int}
theorem DmR.on (h : DmR w wr lr lq N K R Q) (hb : Below wr.heap.size wr w') : DmR w w' lr lq N K R Q := ⟨below_via h.below hb, h.r.below hb, h.q.below hb, h.ne⟩
theorem DmR.congr (h : DmR w wr lr lq N K R Q) {Q' : Nat → Int} (h1 : ∀ j, j < N → R j = R' j) (h2 : ∀ j, j < K → Q j = Q' j) : DmR w wr lr lq N K R' Q' := ⟨h.below, h.r.congr h1, h.q.congr h2, h.ne⟩
theorem DmR.turn (h : DmR w wr lr lq N K R Q) (hg : wr.grownBy w' (some lr)) (hp : PaE w' w.heap.size (fun b => b = lr ∨ b = lq) lr N N R') : DmR w w' lr lq N K R' Q :=
  ⟨h.below.grown hg h.below.size (fun k hk => by injection hk with hk; have := h.r.own; omega), hp, h.q.grown hg (fun e => h.ne e.symm) (Or.inl rfl), h.ne⟩
theorem DmR.put (h : DmR w wr lr lq N K R Q) {s : Bool} {m : Value} {z : Int} {j : Nat} (hj : j < K) (hz : LeZ wr (.agg #[.bool s, m]) z) (hm : ∀ b, m.ownBlock = some b → b < wr.heap.size ∧ b ≠ lr ∧ b ≠ lq) :
    DmR w ((wr.setCell ⟨lq, j * 2, none⟩ (.bool s)).setCell ⟨lq, j * 2 + 1, none⟩ m) lr lq N K R (fun i => if i = j then z else Q i) := by
  have hg := gb_two wr lq (j * 2) (j * 2 + 1) (.bool s) m
  have hp := h.q.put hj (by omega) (Or.inr rfl) hz (fun b e => ⟨(hm b e).1, fun hd => hd.elim (hm b e).2.1 (hm b e).2.2⟩)
  rw [show max K (j + 1) = K by omega] at hp
  exact ⟨h.below.grown hg h.below.size (fun k hk => by injection hk with hk; have := h.q.own; omega), h.r.grown hg h.ne (Or.inr rfl), hp, h.ne⟩
end
end Go.Proofs.Ytejliecmdkmgiaa
