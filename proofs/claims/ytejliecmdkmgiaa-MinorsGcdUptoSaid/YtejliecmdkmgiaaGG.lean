import Derived.Test.YtejliecmdkmgiaaGE
import Derived.Test.YtejliecmdkmgiaaGF
import Derived.StillTailTactics
set_option linter.unusedVariables false
set_option linter.unusedSimpArgs false
set_option maxHeartbeats 8000000
set_option maxRecDepth 100000
namespace Go.Proofs.Ytejliecmdkmgiaa
open Go.RowKit
structure Frm (base N : Nat) (w w' : World) : Prop where
  below : Below base w w'
  high : ∀ k, N ≤ k → k < w.heap.size → w'.heap[k]? = w.heap[k]?
theorem Frm.refl (base N : Nat) (w : World) : Frm base N w w := ⟨Below.refl _ _, fun _ _ _ => rfl⟩
theorem Frm.size {base N : Nat} {w w' : World} (h : Frm base N w w') : w.heap.size ≤ w'.heap.size := h.below.size
theorem Frm.of {base N : Nat} {w w' : World} (h : Below w.heap.size w w') (hb : base ≤ w.heap.size) : Frm base N w w' := ⟨h.mono hb, fun k _ hk => h.block k hk⟩
theorem Frm.trans {base N : Nat} {w w1 w2 : World} (h : Frm base N w w1) (h' : Frm base N w1 w2) : Frm base N w w2 :=
  ⟨h.below.trans h'.below, fun k hN hk => (h'.high k hN (Nat.lt_of_lt_of_le hk h.size)).trans (h.high k hN hk)⟩
theorem Frm.next {base N : Nat} {w w1 w2 : World} (h : Frm base N w w1) (hb : Below w1.heap.size w1 w2) (hbase : base ≤ w.heap.size) : Frm base N w w2 :=
  h.trans (Frm.of hb (Nat.le_trans hbase h.size))
theorem Frm.grown {base N : Nat} {w w1 w2 : World} {row : Option Nat} (h : Frm base N w w1) (hg : w1.grownBy w2 row) (hB : base ≤ w1.heap.size) (hr : ∀ k, row = some k → base ≤ k ∧ k < N) : Frm base N w w2 :=
  h.trans ⟨(Below.refl _ _).grown hg hB fun k hk => (hr k hk).1, fun k hN hk => hg.block k hk fun e => by have := (hr k e.symm).2; omega⟩
section
variable {X : Nat → Prop} {W W' : World} {base fb m C k : Nat} {B : Nat → Nat} {G : Nat → Nat → Int} {tn : Bool} {last : Int} {rs ns : Value}
theorem Fl.below (h : Fl X W base fb m C B G tn last k rs ns) (hb_ : Below W.heap.size W W') : Fl X W' base fb m C B G tn last k rs ns := by
  have hb := hb_
  have hg : W.grownBy W' none := gb_below hb none
  have kc := fun {b i : Nat} {u : Value} (hu : W.cell? ⟨b, i, none⟩ = some u ∧ W.frozen? ⟨b, i, none⟩ = false) => kept_cell hg (by simp) hu
  obtain ⟨s, mv, e1, e2, e3, e4⟩ := h.c3
  obtain ⟨f, hf⟩ := h.n
  exact { h with xlt := fun b hb => Nat.lt_of_lt_of_le (h.xlt b hb) hb_.size, c0 := kc h.c0, c1 := kc h.c1, c2 := kc h.c2, c5 := kc h.c5, c3 := ⟨s, mv, kc e1, kc e2, e3.below hb, fun b hb' => ⟨Nat.lt_of_lt_of_le (e4 b hb').1 hb.size, (e4 b hb').2⟩⟩, r := h.r.grow hg (by simp), n := ⟨f, hf.grow hg (by simp)⟩, lie := fun j hj => (h.lie j hj).below hb }
theorem Fl.congr (h : Fl X W base fb m C B G tn last k rs ns) {F : Nat → Nat → Int} (e : ∀ i j, i < m → j < C → G i j = F i j) : Fl X W base fb m C B F tn last k rs ns :=
  { h with lie := fun i hi => (h.lie i hi).congr fun j hj => e i j hi hj }
theorem Fl.fbW (h : Fl X W base fb m C B G tn last k rs ns) : fb < W.heap.size := World.block_lt_of_cell? W _ h.c0.1
theorem Fl.rest (h : Fl X W base fb m C B G tn last k rs ns) {d : Nat} (hg : W.grownBy W' (some d)) (hd : DX X fb m B rs ns d) (hf : d ≠ fb) :
    (W'.cell? ⟨fb, 0, none⟩ = some rs ∧ W'.frozen? ⟨fb, 0, none⟩ = false) ∧ (W'.cell? ⟨fb, 1, none⟩ = some ns ∧ W'.frozen? ⟨fb, 1, none⟩ = false) ∧ (W'.cell? ⟨fb, 2, none⟩ = some (.bool tn) ∧ W'.frozen? ⟨fb, 2, none⟩ = false) ∧
    (∃ s mv, (W'.cell? ⟨fb, 3, none⟩ = some (.bool s) ∧ W'.frozen? ⟨fb, 3, none⟩ = false) ∧ (W'.cell? ⟨fb, 4, none⟩ = some mv ∧ W'.frozen? ⟨fb, 4, none⟩ = false) ∧ RdZ W' (.agg #[.bool s, mv]) last ∧ ∀ b, mv.ownBlock = some b → b < W'.heap.size ∧ ¬ DX X fb m B rs ns b) ∧
    (W'.cell? ⟨fb, 5, none⟩ = some (.int .i64 k) ∧ W'.frozen? ⟨fb, 5, none⟩ = false) := by
  have kc := fun {i : Nat} {u : Value} (hu : W.cell? ⟨fb, i, none⟩ = some u ∧ W.frozen? ⟨fb, i, none⟩ = false) => kept_cell hg (fun e => hf (Option.some.inj e)) hu
  obtain ⟨s, mv, e1, e2, e3, e4⟩ := h.c3
  exact ⟨kc h.c0, kc h.c1, kc h.c2, ⟨s, mv, kc e1, kc e2, e3.gb hg (fun e => (e4 d e).2 hd), fun b hb => ⟨Nat.lt_of_lt_of_le (e4 b hb).1 hg.size, (e4 b hb).2⟩⟩, kc h.c5⟩
theorem DF_sx {fb m p k : Nat} {B : Nat → Nat} {rs ns : Value} (hp : p < m) (hk : k < m) {b : Nat} (h : DF fb m (fun i => B (laQ.sx p k i)) rs ns b) : DF fb m B rs ns b := by
  rcases h with h | h | h | ⟨t, ht, h⟩
  · exact Or.inl h
  · exact Or.inr (Or.inl h)
  · exact Or.inr (Or.inr (Or.inl h))
  · exact Or.inr (Or.inr (Or.inr ⟨laQ.sx p k t, laQ.sx_lt hp hk ht, h⟩))
theorem DX_sx {X : Nat → Prop} {fb m p k : Nat} {B : Nat → Nat} {rs ns : Value} (hp : p < m) (hk : k < m) {b : Nat} (h : DX X fb m (fun i => B (laQ.sx p k i)) rs ns b) : DX X fb m B rs ns b := h.imp (DF_sx hp hk) id
theorem sx_inj {p k i j : Nat} (h : laQ.sx p k i = laQ.sx p k j) : i = j := by
  have := congrArg (laQ.sx p k) h
  rwa [laQ.sx_sx, laQ.sx_sx] at this
theorem Fl.swapRows (h : Fl X W base fb m C B G tn last k rs ns) {p q g cap : Nat} (e : rs = .slice (some ⟨g, 0, none⟩) m cap) (hp : p < m) (hq : q < m) (hne : p ≠ q) :
    Fl X ((W.setCell ⟨g, p, none⟩ (RowV C B q)).setCell ⟨g, q, none⟩ (RowV C B p)) base fb m C (fun i => B (laQ.sx p q i)) (fun i => G (laQ.sx p q i)) tn last k rs ns := by
  have hg : W.grownBy ((W.setCell ⟨g, p, none⟩ (RowV C B q)).setCell ⟨g, q, none⟩ (RowV C B p)) (some g) := gb_trans (gb_set _ _ _) (gb_set _ _ _)
  have hrs : rs.ownBlock = some g := by rw [e]; rfl
  have hgf : g ≠ fb := fun e' => h.rf.1 (by rw [hrs, e'])
  have hr0 := h.r
  rw [e] at hr0
  have hr := (hr0.set hp (RowV C B q)).set hq (RowV C B p)
  obtain ⟨f, hf⟩ := h.n
  have hDg : DX X fb m B rs ns g := Or.inl (Or.inr (Or.inl hrs))
  obtain ⟨a0, a1, a2, ⟨s, mv, e1, e2, e3, e4⟩, a5⟩ := h.rest hg hDg hgf
  refine ⟨h.own, fun b hb => Nat.lt_of_lt_of_le (h.xlt b hb) hg.size, a0, a1, a2, ⟨s, mv, e1, e2, e3, fun b hb => ⟨(e4 b hb).1, fun hd => (e4 b hb).2 (DX_sx hp hq hd)⟩⟩, a5, ?_, ⟨f, hf.grow hg fun b hb e => h.rf.2.2 b (by rw [hrs]; exact e) hb⟩, h.rf, fun i j hi hj e => ?_, fun j hj => h.off _ (laQ.sx_lt hp hq hj), fun j hj => ?_⟩
  · rw [e]
    refine hr.congr fun i hi => ?_
    show (if i = q then RowV C B p else if i = p then RowV C B q else RowV C B i) = RowV C (fun i => B (laQ.sx p q i)) i
    unfold RowV laQ.sx
    (repeat' split) <;> simp_all
  · exact sx_inj (h.inj _ _ (laQ.sx_lt hp hq hi) (laQ.sx_lt hp hq hj) e)
  · have hj' := laQ.sx_lt hp hq hj
    exact ((h.lie _ hj').grown hg (fun e => (h.off _ hj').1 (by rw [hrs, ← e])) hDg).turnD fun b _ h1 h2 => h1 (DX_sx hp hq h2)
theorem Fl.swapNums (h : Fl X W base fb m C B G tn last k rs ns) {p q g cap : Nat} (e : ns = .slice (some ⟨g, 0, none⟩) m cap) (hp : p < m) (hq : q < m) (x y : Int) :
    Fl X ((W.setCell ⟨g, p, none⟩ (.int .i64 x)).setCell ⟨g, q, none⟩ (.int .i64 y)) base fb m C B G tn last k rs ns := by
  have hg : W.grownBy ((W.setCell ⟨g, p, none⟩ (.int .i64 x)).setCell ⟨g, q, none⟩ (.int .i64 y)) (some g) := gb_trans (gb_set _ _ _) (gb_set _ _ _)
  have hns : ns.ownBlock = some g := by rw [e]; rfl
  have hgf : g ≠ fb := fun e' => h.rf.2.1 (by rw [hns, e'])
  obtain ⟨f, hf⟩ := h.n
  have hf0 := hf
  rw [e] at hf0
  have hr := (hf0.set hp (.int .i64 x)).set hq (.int .i64 y)
  have hDg : DX X fb m B rs ns g := Or.inl (Or.inr (Or.inr (Or.inl hns)))
  obtain ⟨a0, a1, a2, a3, a5⟩ := h.rest hg hDg hgf
  refine ⟨h.own, fun b hb => Nat.lt_of_lt_of_le (h.xlt b hb) hg.size, a0, a1, a2, a3, a5, h.r.grow hg fun b hb e => h.rf.2.2 b hb (by rw [hns]; exact e), ⟨fun i => if i = q then y else if i = p then x else f i, ?_⟩, h.rf, h.inj, h.off, fun j hj => (h.lie j hj).grown hg (fun e => (h.off j hj).2.1 (by rw [hns, ← e])) hDg⟩
  rw [e]
  refine hr.congr fun i hi => ?_
  show (if i = q then _ else if i = p then _ else _) = Value.int .i64 (if i = q then y else if i = p then x else f i)
  (repeat' split) <;> rfl
theorem Fl.head (h : Fl X W base fb m C B G tn last k rs ns) (hg : W.grownBy W' (some fb)) {tn' : Bool} {last' : Int} {k' : Nat} (a0 : W'.cell? ⟨fb, 0, none⟩ = some rs ∧ W'.frozen? ⟨fb, 0, none⟩ = false) (a1 : W'.cell? ⟨fb, 1, none⟩ = some ns ∧ W'.frozen? ⟨fb, 1, none⟩ = false)
    (a2 : W'.cell? ⟨fb, 2, none⟩ = some (.bool tn') ∧ W'.frozen? ⟨fb, 2, none⟩ = false) (a3 : ∃ s mv, (W'.cell? ⟨fb, 3, none⟩ = some (.bool s) ∧ W'.frozen? ⟨fb, 3, none⟩ = false) ∧ (W'.cell? ⟨fb, 4, none⟩ = some mv ∧ W'.frozen? ⟨fb, 4, none⟩ = false) ∧ RdZ W (.agg #[.bool s, mv]) last' ∧ ∀ b, mv.ownBlock = some b → b < W.heap.size ∧ ¬ DX X fb m B rs ns b)
    (a5 : W'.cell? ⟨fb, 5, none⟩ = some (.int .i64 k') ∧ W'.frozen? ⟨fb, 5, none⟩ = false) : Fl X W' base fb m C B G tn' last' k' rs ns := by
  obtain ⟨f, hf⟩ := h.n
  obtain ⟨s, mv, e1, e2, e3, e4⟩ := a3
  have hD : DX X fb m B rs ns fb := Or.inl (Or.inl rfl)
  exact ⟨h.own, fun b hb => Nat.lt_of_lt_of_le (h.xlt b hb) hg.size, a0, a1, a2, ⟨s, mv, e1, e2, e3.gb hg (fun e => (e4 fb e).2 hD), fun b hb => ⟨Nat.lt_of_lt_of_le (e4 b hb).1 hg.size, (e4 b hb).2⟩⟩, a5, h.r.grow hg (fun b hb e => h.rf.1 (by rw [hb]; exact e.symm)), ⟨f, hf.grow hg (fun b hb e => h.rf.2.1 (by rw [hb]; exact e.symm))⟩, h.rf, h.inj, h.off, fun j hj => (h.lie j hj).grown hg (h.off j hj).2.2 hD⟩
theorem set_own {W : World} {a : Addr} {u v : Value} (hu : W.cell? a = some u ∧ W.frozen? a = false) : (W.setCell a v).cell? a = some v ∧ (W.setCell a v).frozen? a = false :=
  ⟨World.cell?_setCell_same _ _ _ hu.1, by rw [World.frozen?_setCell]; exact hu.2⟩
theorem Fl.setTn (h : Fl X W base fb m C B G tn last k rs ns) (t : Bool) : Fl X (W.setCell ⟨fb, 2, none⟩ (.bool t)) base fb m C B G t last k rs ns := by
  obtain ⟨s, mv, e1, e2, e3, e4⟩ := h.c3
  exact h.head (gb_set _ _ _) (kept_set (by omega) h.c0) (kept_set (by omega) h.c1) (set_own h.c2) ⟨s, mv, kept_set (by omega) e1, kept_set (by omega) e2, e3, e4⟩ (kept_set (by omega) h.c5)
theorem Fl.setTaken (h : Fl X W base fb m C B G tn last k rs ns) (t : Nat) : Fl X (W.setCell ⟨fb, 5, none⟩ (.int .i64 t)) base fb m C B G tn last t rs ns := by
  obtain ⟨s, mv, e1, e2, e3, e4⟩ := h.c3
  exact h.head (gb_set _ _ _) (kept_set (by omega) h.c0) (kept_set (by omega) h.c1) (kept_set (by omega) h.c2) ⟨s, mv, kept_set (by omega) e1, kept_set (by omega) e2, e3, e4⟩ (set_own h.c5)
theorem Fl.setLast (h : Fl X W base fb m C B G tn last k rs ns) {s : Bool} {mv : Value} {z : Int} (hz : RdZ W (.agg #[.bool s, mv]) z) (hm : ∀ b, mv.ownBlock = some b → b < W.heap.size ∧ ¬ DX X fb m B rs ns b) :
    Fl X ((W.setCell ⟨fb, 3, none⟩ (.bool s)).setCell ⟨fb, 4, none⟩ mv) base fb m C B G tn z k rs ns := by
  obtain ⟨s0, mv0, e1, e2, e3, e4⟩ := h.c3
  exact h.head (gb_trans (gb_set _ _ _) (gb_set _ _ _)) (kept_set (by omega) (kept_set (by omega) h.c0)) (kept_set (by omega) (kept_set (by omega) h.c1)) (kept_set (by omega) (kept_set (by omega) h.c2)) ⟨s, mv, kept_set (by omega) (set_own e1), set_own (kept_set (by omega) e2), hz, hm⟩ (kept_set (by omega) (kept_set (by omega) h.c5))
theorem Fl.put (h : Fl X W base fb m C B G tn last k rs ns) {i j : Nat} (hi : i < m) (hj : j < C) {s : Bool} {mv : Value} {z : Int} (hz : LeZ W (.agg #[.bool s, mv]) z) (hm : ∀ b, mv.ownBlock = some b → b < W.heap.size ∧ ¬ DX X fb m B rs ns b) :
    Fl X ((W.setCell ⟨B i, j * 2, none⟩ (.bool s)).setCell ⟨B i, j * 2 + 1, none⟩ mv) base fb m C B (fun r c => if r = i then (if c = j then z else G r c) else G r c) tn last k rs ns := by
  have hg : W.grownBy ((W.setCell ⟨B i, j * 2, none⟩ (.bool s)).setCell ⟨B i, j * 2 + 1, none⟩ mv) (some (B i)) := gb_trans (gb_set _ _ _) (gb_set _ _ _)
  have hD : DX X fb m B rs ns (B i) := Or.inl (Or.inr (Or.inr (Or.inr ⟨i, hi, rfl⟩)))
  obtain ⟨o1, o2, o3⟩ := h.off i hi
  obtain ⟨a0, a1, a2, a3, a5⟩ := h.rest hg hD o3
  obtain ⟨f, hf⟩ := h.n
  refine ⟨h.own, fun b hb => Nat.lt_of_lt_of_le (h.xlt b hb) hg.size, a0, a1, a2, a3, a5, h.r.grow hg (fun b hb e => o1 (by rw [hb]; exact e.symm)), ⟨f, hf.grow hg (fun b hb e => o2 (by rw [hb]; exact e.symm))⟩, h.rf, h.inj, h.off, fun r hr => ?_⟩
  by_cases e : r = i
  · subst e
    have := (h.lie r hr).put (j := j) hj (by omega) hD hz hm
    rw [show max C (j + 1) = C by omega] at this
    exact this.congr fun c hc => by rw [if_pos rfl]
  · have := (h.lie r hr).grown hg (fun e' => e (h.inj _ _ hr hi e')) hD
    exact this.congr fun c hc => by rw [if_neg e]
theorem Fl.entry (h : Fl X W base fb m C B G tn last k rs ns) {i j : Nat} (hi : i < m) (hj : j < C) : ∃ s am an ac, (W.cell? ⟨B i, j * 2, none⟩ = some (.bool s) ∧ W.frozen? ⟨B i, j * 2, none⟩ = false) ∧ (W.cell? ⟨B i, j * 2 + 1, none⟩ = some (.slice am an ac) ∧ W.frozen? ⟨B i, j * 2 + 1, none⟩ = false) ∧
    RdZ W (.agg #[.bool s, .slice am an ac]) (G i j) ∧ ∀ b, (Value.slice am an ac).ownBlock = some b → b < W.heap.size ∧ ¬ DX X fb m B rs ns b := by
  obtain ⟨s, mv, c1, c2, c3, c4⟩ := (h.lie i hi).cells j hj
  obtain ⟨am, an, ac, rfl⟩ := c3.agg
  exact ⟨s, am, an, ac, ⟨c1, ((h.lie i hi).blk.cell (by omega)).2⟩, ⟨c2, ((h.lie i hi).blk.cell (by omega)).2⟩, c3.1, c4⟩
theorem Fl.lt (h : Fl X W base fb m C B G tn last k rs ns) {b : Nat} (hb : DF fb m B rs ns b) : b < W.heap.size := by
  rcases hb with rfl | e | e | ⟨t, ht, rfl⟩
  · exact h.fbW
  · exact (own_ge h.r b e).2
  · obtain ⟨f, hf⟩ := h.n
    exact (own_ge hf b e).2
  · exact (h.lie t ht).lt
theorem Fl.ltx (h : Fl X W base fb m C B G tn last k rs ns) {b : Nat} (hb : DX X fb m B rs ns b) : b < W.heap.size := hb.elim h.lt (h.xlt b)
theorem Fl.others {X' : Nat → Prop} (h : Fl X W base fb m C B G tn last k rs ns) {r : Option Nat} (hg : W.grownBy W' r) (hr : ∀ d, r = some d → X d ∧ ¬ DF fb m B rs ns d) (hx : ∀ b, X' b → X b ∨ W.heap.size ≤ b) (hl : ∀ b, X' b → b < W'.heap.size) :
    Fl X' W' base fb m C B G tn last k rs ns := by
  have hD : ∀ b, b < W.heap.size → ¬ DX X fb m B rs ns b → ¬ DX X' fb m B rs ns b := fun b hb hn hd => hn (hd.imp id fun hx' => (hx b hx').elim id fun h => absurd h (by omega))
  have nb : ∀ b, DF fb m B rs ns b → r ≠ some b := fun b hb e => (hr b e).2 hb
  have kc := fun {i : Nat} {u : Value} (hu : W.cell? ⟨fb, i, none⟩ = some u ∧ W.frozen? ⟨fb, i, none⟩ = false) => kept_cell hg (nb fb (Or.inl rfl)) hu
  obtain ⟨s, mv, e1, e2, e3, e4⟩ := h.c3
  obtain ⟨f, hf⟩ := h.n
  have rd : ∀ {s : Bool} {mv : Value} {z : Int}, RdZ W (.agg #[.bool s, mv]) z → (∀ b, mv.ownBlock = some b → ¬ DX X fb m B rs ns b) → RdZ W' (.agg #[.bool s, mv]) z := fun {s mv z} e3 e4 => by
    cases r with
    | none => exact e3.below ⟨hg.os, hg.tape, hg.output, hg.size, fun k hk => hg.block k hk (by simp)⟩
    | some d => exact e3.gb hg (fun e => e4 d e (Or.inr (hr d rfl).1))
  have rdl : ∀ {s : Bool} {mv : Value} {z : Int}, LeZ W (.agg #[.bool s, mv]) z → (∀ b, mv.ownBlock = some b → ¬ DX X fb m B rs ns b) → LeZ W' (.agg #[.bool s, mv]) z := fun {s mv z} e3 e4 => by
    cases r with
    | none => exact e3.below ⟨hg.os, hg.tape, hg.output, hg.size, fun k hk => hg.block k hk (by simp)⟩
    | some d => exact e3.gb hg (fun e => e4 d e (Or.inr (hr d rfl).1))
  refine { own := h.own, xlt := hl, rf := h.rf, inj := h.inj, off := h.off, c0 := kc h.c0, c1 := kc h.c1, c2 := kc h.c2, c5 := kc h.c5, c3 := ⟨s, mv, kc e1, kc e2, rd e3 fun b hb => (e4 b hb).2, fun b hb' => ⟨Nat.lt_of_lt_of_le (e4 b hb').1 hg.size, hD b (e4 b hb').1 (e4 b hb').2⟩⟩, r := h.r.grow hg (fun b hb => nb b (Or.inr (Or.inl hb))), n := ⟨f, hf.grow hg (fun b hb => nb b (Or.inr (Or.inr (Or.inl hb))))⟩, lie := fun j hj => ?_ }
  have hne : some (B j) ≠ r := fun e => nb (B j) (Or.inr (Or.inr (Or.inr ⟨j, hj, rfl⟩))) e.symm
  refine ⟨(h.lie j hj).own, (h.lie j hj).blk.grown hg hne, fun i hi => ?_⟩
  obtain ⟨s, m, k1, k2, k3, k4⟩ := (h.lie j hj).cells i hi
  exact ⟨s, m, hg.cell k1 hne, hg.cell k2 hne, rdl k3 fun b hb => (k4 b hb).2, fun b hb => ⟨Nat.lt_of_lt_of_le (k4 b hb).1 hg.size, hD b (k4 b hb).1 (k4 b hb).2⟩⟩
end
end Go.Proofs.Ytejliecmdkmgiaa
namespace Go.Proofs.Ytejliecmdkmgiaa
open Go.RowKit
theorem undR : Try.prog.underlying 124 = some (.slice (Try.prog.elem 124)) := by kernel_rfl
theorem sizeR : ∀ u, (sizeOf (Try.prog.elem 124)).run Try.prog u = .ok 1 u := fun u => by kernel_rfl
theorem cutR (g n cap lo : Nat) (h1 : lo ≤ n) (h3 : n ≤ cap) :
    ∃ a', (∀ u : World, (Instr.slice 124 (.slice (some ⟨g, 0, none⟩) n cap) (some (.int .i64 (lo : Int))) none none).run Try.prog u = .ok (.slice a' (n - lo) (cap - lo)) u) ∧
      (∀ u : World, (Instr.sliceAt 124 (.slice (some ⟨g, 0, none⟩) n cap) (some (.int .i64 (lo : Int))) none none).run Try.prog u = .ok (.slice a' (n - lo) (cap - lo)) u) ∧ (lo < n → a' = some ⟨g, lo, none⟩) := by
  have key : ∀ u : World, (Instr.slice 124 (.slice (some ⟨g, 0, none⟩) n cap) (some (.int .i64 (lo : Int))) none none).run Try.prog u = .ok (.slice (if cap = lo then some ⟨g, 0, none⟩ else (some (⟨g, 0, none⟩ : Addr)).map (·.add (lo * 1))) (n - lo) (cap - lo)) u := fun u => by
    rw [run_slice_l u 124 (some ⟨g, 0, none⟩) n cap undR .i64 (lo : Int) (by omega) (by omega), sizeR]
    simp only [Result.andThen, sliced, Int.toNat_natCast]
  refine ⟨_, key, fun u => by rw [run_sliceAt_slice u 124 _ _ _ _ undR, key u], fun h => ?_⟩
  rw [if_neg (by omega)]; simp [Addr.add]
  exact fun e => e.symm
theorem sx_self (p k : Nat) : laQ.sx p k k = p := by
  unfold laQ.sx
  by_cases h : k = p
  · rw [if_pos h]; exact h
  · rw [if_neg h, if_pos rfl]
theorem rd_zero (w : World) : RdZ w (.agg #[.bool false, .slice none 0 0]) 0 := by
  have h : FrA .u64 62 w 0 (.slice none 0 0) 0 (fun _ => 0) := Or.inl ⟨rfl, rfl⟩
  exact ⟨⟨false, 0, fun _ => 0⟩, ⟨_, rfl, h.read, fun i hi => absurd (show i < 0 from hi) (by omega)⟩, rfl, Nat.zero_le _⟩
theorem le_zero (w : World) : LeZ w (.agg #[.bool false, .slice none 0 0]) 0 := ⟨rd_zero w, .slice none 0 0, 0, fun _ => 0, rfl, ⟨none, 0, rfl, Nat.le_refl _, Nat.zero_le _, fun h => absurd h (by omega)⟩, ⟨fun i h => absurd h (by omega), fun h => absurd h (by omega), rfl⟩⟩
def midG (k c r j : Nat) (last : Int) (G : Nat → Nat → Int) (x y : Nat) : Int := if x < r then stG k c last G x y else if x = r ∧ c < y ∧ y < j then stG k c last G x y else G x y
theorem stG_low {k c : Nat} {last : Int} {G : Nat → Nat → Int} {x y : Nat} (h : x ≤ k) : stG k c last G x y = G x y := if_neg (by omega)
theorem midG_start (k c : Nat) (last : Int) (G : Nat → Nat → Int) (x y : Nat) : midG k c (k + 1) (c + 1) last G x y = G x y := by
  unfold midG
  by_cases h : x < k + 1
  · rw [if_pos h, stG_low (by omega)]
  · rw [if_neg h, if_neg (by omega)]
theorem midG_put (k c r j : Nat) (last : Int) (G : Nat → Nat → Int) (hr : k < r) (hj : c < j) (x y : Nat) :
    (if x = r then (if y = j then (G k c * G r j - G r c * G k j) / last else midG k c r j last G x y) else midG k c r j last G x y) = midG k c r (j + 1) last G x y := by
  unfold midG
  by_cases h : x < r
  · rw [if_neg (by omega), if_pos h, if_pos h]
  · rw [if_neg h, if_neg h]
    by_cases e : x = r
    · subst e
      rw [if_pos rfl]
      by_cases e2 : y = j
      · subst e2
        rw [if_pos rfl, if_pos ⟨rfl, hj, by omega⟩]
        unfold stG
        rw [if_pos hr, if_neg (by omega), if_neg (by omega)]
      · rw [if_neg e2]
        by_cases e3 : c < y ∧ y < j
        · rw [if_pos ⟨rfl, e3⟩, if_pos ⟨rfl, e3.1, by omega⟩]
        · rw [if_neg (fun h => e3 h.2), if_neg (fun h => e3 ⟨h.2.1, by omega⟩)]
    · rw [if_neg e, if_neg (fun h => e h.1), if_neg (fun h => e h.1)]
theorem midG_row (k c r C : Nat) (last : Int) (G : Nat → Nat → Int) (hr : k < r) (x y : Nat) (hy : y < C) :
    (if x = r then (if y = c then 0 else midG k c r C last G x y) else midG k c r C last G x y) = midG k c (r + 1) (c + 1) last G x y := by
  unfold midG
  by_cases h : x < r
  · rw [if_neg (by omega), if_pos h, if_pos (by omega)]
  · rw [if_neg h]
    by_cases e : x = r
    · subst e
      rw [if_pos rfl, if_pos (show x < x + 1 by omega)]
      unfold stG
      rw [if_pos hr]
      by_cases e2 : y = c
      · rw [if_pos e2, if_neg (show ¬ y < c by omega), if_pos e2]
      · rw [if_neg e2]
        by_cases e3 : c < y
        · rw [if_pos ⟨rfl, e3, hy⟩]
        · rw [if_neg (fun h => e3 h.2.1), if_pos (show y < c by omega)]
    · rw [if_neg e, if_neg (fun h => e h.1), if_neg (show ¬ x < r + 1 by omega), if_neg (show ¬ (x = r + 1 ∧ c < y ∧ y < c + 1) by omega)]
theorem midG_at {k c r j : Nat} {last : Int} {G : Nat → Nat → Int} (hr : k < r) {x y : Nat} (h : x = k ∨ (x = r ∧ (y ≤ c ∨ j ≤ y))) : midG k c r j last G x y = G x y := by
  unfold midG
  rcases h with h | ⟨h, h2⟩
  · rw [if_pos (by omega), stG_low (by omega)]
  · rw [if_neg (by omega), if_neg (by omega)]
def StepE (X : Nat → Prop) (base N fb m C : Nat) (B : Nat → Nat) (G : Nat → Nat → Int) (tn : Bool) (last : Int) (k c : Nat) (rs ns : Value) (W : World) (e : Ending) (W' : World) : Prop :=
  Frm base N W W' ∧ W.heap.size ≤ W'.heap.size ∧
  ((e = .returned (.bool false) ∧ (∀ i, k ≤ i → i < m → G i c = 0) ∧ Fl X W' base fb m C B G tn last k rs ns) ∨
   ∃ p, k ≤ p ∧ p < m ∧ (∀ i, k ≤ i → i < p → G i c = 0) ∧ G p c ≠ 0 ∧ e = .returned (.bool true) ∧
    Fl X W' base fb m C (fun i => B (laQ.sx p k i)) (stG k c last (fun i => G (laQ.sx p k i))) (if p = k then tn else !tn) (G p c) (k + 1) rs ns)
theorem step_any (X : Nat → Prop) (W : World) (base N fb m C : Nat) (B : Nat → Nat) (G : Nat → Nat → Int) (tn : Bool) (last : Int) (k c : Nat) (rs ns : Value) (hm : m ≤ 64) (hC : C ≤ 64) (hc : c < C) (hk : k ≤ m) (hl : last ≠ 0) (hfl : Fl X W base fb m C B G tn last k rs ns) (hdn : ∀ b, DF fb m B rs ns b → b < N)
    (S : Nat) (hS : 4 * S + 1 ≤ 274877906944) (hzb : ∀ i j, k ≤ i → i < m → j < C → ZB S (G i j)) (hdv : ∀ p, k ≤ p → p < m → G p c ≠ 0 → ∀ i j, k < i → i < m → j < C → last ∣ G p c * G (laQ.sx p k i) j - G (laQ.sx p k i) c * G p j) :
    Calls Try.prog 116 #[.pointer (some ⟨fb, 0, none⟩), .int .i64 c] W (StepE X base N fb m C B G tn last k c rs ns W) := by
  obtain ⟨ra, rc, rfl, hrc, hrm⟩ := hfl.r.slice
  obtain ⟨na, nc, rfl, hnc, hnm⟩ : ∃ a cap, ns = .slice a m cap ∧ m ≤ cap ∧ cap ≤ maxLen := by obtain ⟨f, hf⟩ := hfl.n; exact hf.slice
  have c0 := hfl.c0.1
  have c5 := hfl.c5.1
  have hbW : base ≤ W.heap.size := Nat.le_trans hfl.own (Nat.le_of_lt hfl.fbW)
  have HFL := Lib.hid hfl
  have HZB := Lib.hid hzb
  have HDV := Lib.hid hdv
  have HS := Lib.hid hS
  have HL := Lib.hid hl
  have HDN := Lib.hid hdn
  clear hfl hzb hdv hS hl hdn
  go_enter Try.func116, Try.ntmps116
  go_wp2_with fail
  go_loopw [6] (fun pv wr => ∃ p : Nat, k ≤ p ∧ p ≤ m ∧ pv = .int .i64 p ∧ Fl X wr base fb m C B G tn last k (.slice ra m rc) (.slice na m nc) ∧ Below W.heap.size W wr ∧ ∀ i, k ≤ i → i < p → G i c = 0) (fun pv _ => m - (intOf pv).toNat)
  case atStart => exact ⟨k, Nat.le_refl _, hk, rfl, HFL.out, Below.refl _ _, fun i h1 h2 => absurd h2 (by omega)⟩
  case round =>
    clear HFL
    obtain ⟨p, hkp, hpm, rfl, hfl, hbl, hze⟩ := hrel
    have c0 := hfl.c0.1
    by_cases hp : p < m
    · obtain ⟨g, gc, e, hgc, hbg, hgs, hrow⟩ := hfl.r.cell (by omega)
      simp only [Value.slice.injEq, true_and] at e
      obtain ⟨rfl, rfl⟩ := e
      have r1 : wr.cell? ⟨g, p, none⟩ = some (.slice (some ⟨B p, 0, none⟩) C C) := (hrow p hp).1
      obtain ⟨s, am, an, ac, ⟨e1, -⟩, ⟨e2, -⟩, hz, -⟩ := hfl.entry hp hc
      have hsg := zSign_any _ (G p c) wr hz
      have HSG := Lib.hid hsg
      have HFL := Lib.hid hfl
      have HBL := Lib.hid hbl
      have HZE := Lib.hid hze
      clear hsg hfl hbl hze hrow hz
      by_cases h0 : G p c = 0
      · rw [show sgZ (G p c) = 0 by unfold sgZ; rw [if_pos h0]] at HSG
        have H0 := Lib.hid h0
        clear h0
        go_wp2_with (go_at_call 39; refine HSG.out.mono ?_; rintro e w3 ⟨rfl, hb3⟩)
        go_roundw
        case rel => exact ⟨p + 1, by omega, by omega, by go_num, HFL.out.below hb3, HBL.out.trans (hb3.mono HBL.out.size), fun i h1 h2 => by
          by_cases e : i = p
          · rw [e]; exact H0.out
          · exact HZE.out i h1 (by omega)⟩
        case measure => simp [intOf]; omega
      · have hs0 : (sgZ (G p c) == 0) = false := by
          rw [beq_eq_false_iff_ne]; unfold sgZ; rw [if_neg h0]; split <;> omega
        have H0 := Lib.hid h0
        clear h0
        have hmp : (p == m) = false := by rw [beq_eq_false_iff_ne]; omega
        have hmp' : ((p : Int) == m) = false := by rw [beq_eq_false_iff_ne]; omega
        go_upto_if 50 with (go_at_call 39; refine HSG.out.mono ?_; rintro e w3 ⟨rfl, hb3⟩; have c0 := cell_stays hb3 c0)
        obtain ⟨B', hB'⟩ : ∃ B', B' = fun i => B (laQ.sx p k i) := ⟨_, rfl⟩
        obtain ⟨G', hG'⟩ : ∃ G', G' = fun i => G (laQ.sx p k i) := ⟨_, rfl⟩
        obtain ⟨tn', htn'⟩ : ∃ tn', tn' = if p = k then tn else !tn := ⟨_, rfl⟩
        have HB' := Lib.hid hB'
        have HG' := Lib.hid hG'
        have HT' := Lib.hid htn'
        have HF3 := Lib.hid (HFL.out.below hb3)
        have HB3 := Lib.hid (HBL.out.trans (hb3.mono HBL.out.size))
        clear hB' hG' htn' HFL HBL hb3 HSG hs0 e1 e2 r1
        go_cut [] (fun wx => Fl X wx base fb m C B' G' tn' last k (.slice (some ⟨g, 0, none⟩) m rc) (.slice na m nc) ∧ Frm base N W wx ∧ W.heap.size ≤ wx.heap.size)
        case first =>
          -- [first
          by_cases hpk : p = k
          · have hpk' : ((p : Int) != k) = false := by rw [bne_eq_false_iff_eq]; omega
            have E := Lib.hid hpk
            clear hpk
            go_wp2_with fail
            go_meet
            refine ⟨?_, Frm.of HB3.out hbW, HB3.out.size⟩
            have e1 : B' = B := by rw [HB'.out]; funext i; show B (laQ.sx p k i) = B i; rw [E.out]; congr 1; unfold laQ.sx; split <;> simp_all
            have e2 : G' = G := by rw [HG'.out]; funext i; show G (laQ.sx p k i) = G i; rw [E.out]; congr 1; unfold laQ.sx; split <;> simp_all
            rw [e1, e2, show tn' = tn by rw [HT'.out, if_pos E.out]]
            exact HF3.out
          · have hpk' : ((p : Int) != k) = true := by rw [bne_iff_ne]; omega
            have E := Lib.hid hpk
            clear hpk
            obtain ⟨g3, gc3, e3, hgc3, hbg3, hgs3, hrow3⟩ := HF3.out.r.cell (by omega)
            simp only [Value.slice.injEq, Option.some.injEq, Addr.mk.injEq, and_true, true_and] at e3
            obtain ⟨rfl, rfl⟩ := e3
            have hpe : ∀ (w : World) (b : Nat) (i j : Nat) (u v : Value), i ≠ j → w.cell? ⟨b, i, none⟩ = some u → (w.setCell ⟨b, j, none⟩ v).cell? ⟨b, i, none⟩ = some u := fun w b i j u v hij hu => by
              rw [World.cell?_setCell_other _ _ _ _ (by intro e'; injection e' with _ e3 _; omega)]; exact hu
            have hkm : k < m := by omega
            have q1 : w3.cell? ⟨g, p, none⟩ = some (.slice (some ⟨B p, 0, none⟩) C C) := (hrow3 p hp).1
            have q2 : w3.cell? ⟨g, k, none⟩ = some (.slice (some ⟨B k, 0, none⟩) C C) := (hrow3 k hkm).1
            have q3 := (hrow3 p hp).2
            have q4 := (hrow3 k hkm).2
            have q5 := hpe w3 g k p _ (.slice (some ⟨B k, 0, none⟩) C C) (Ne.symm E.out) q2
            have q6 := hpe w3 g p k _ (.slice (some ⟨B p, 0, none⟩) C C) E.out q1
            have hf4 := (HF3.out.swapRows (p := p) (q := k) rfl hp hkm E.out).below (Below.refl _ _).drew
            have gg : w3.grownBy ((w3.setCell ⟨g, p, none⟩ (.slice (some ⟨B k, 0, none⟩) C C)).setCell ⟨g, k, none⟩ (.slice (some ⟨B p, 0, none⟩) C C)).drew (some g) := gb_trans (gb_trans (gb_set _ _ _) (gb_set _ _ _)) (gb_below (Below.refl _ _).drew _)
            have hb4 : Frm base N W _ := (Frm.of HB3.out hbW).grown gg (Nat.le_trans hbW HB3.out.size) (fun k hk => by injection hk with hk; rw [← hk]; exact ⟨hbg3, HDN.out g (Or.inr (Or.inl rfl))⟩)
            have HF4 := Lib.hid hf4
            have HB4 := Lib.hid hb4
            have HNE := Lib.hid hpe
            clear hpe hf4 hrow3 gg hb4
            have hmix : Try.prog.follows .mixedOrders = true := by kernel_rfl
            have i1 : (p : Int) < m := by omega
            have i2 : (k : Int) < m := by omega
            go_wp2_with fail
            have cS := c0
            -- [swap8
            refine region_held (fun u => u.cell? ⟨fb, 0, none⟩ = some (.slice (some ⟨g, 0, none⟩) m rc) ∧ u.cell? ⟨g, p, none⟩ = some (.slice (some ⟨B p, 0, none⟩) C C) ∧ u.cell? ⟨g, k, none⟩ = some (.slice (some ⟨B k, 0, none⟩) C C)) 24 hmix ?_
            have hS : w3.drew.cell? ⟨fb, 0, none⟩ = some (.slice (some ⟨g, 0, none⟩) m rc) ∧ w3.drew.cell? ⟨g, p, none⟩ = some (.slice (some ⟨B p, 0, none⟩) C C) ∧ w3.drew.cell? ⟨g, k, none⟩ = some (.slice (some ⟨B k, 0, none⟩) C C) := ⟨cS, q1, q2⟩
            refine anyL_pure (i := 0) (v := .pointer (some ⟨fb, 0, none⟩)) rfl (by kernel_rfl) (by kernel_rfl) (by kernel_rfl) (by kernel_rfl) (fun _ _ _ h => h) (Or.inl ⟨by rfl, ?_⟩) hS ?_
            · intro u hu
              go_simp
            simp only [Act.put, List.setIfInBounds_toArray, List.set_cons_zero, List.set_cons_succ]
            refine anyL_pure (i := 1) (v := .pointer (some ⟨fb, 0, none⟩)) rfl (by kernel_rfl) (by kernel_rfl) (by kernel_rfl) (by kernel_rfl) (fun _ _ _ h => h) (Or.inl ⟨by rfl, ?_⟩) hS ?_
            · intro u hu
              go_simp
            simp only [Act.put, List.setIfInBounds_toArray, List.set_cons_zero, List.set_cons_succ]
            refine anyL_pure (i := 2) (v := .pointer (some ⟨fb, 0, none⟩)) rfl (by kernel_rfl) (by kernel_rfl) (by kernel_rfl) (by kernel_rfl) (fun _ _ _ h => h) (Or.inl ⟨by rfl, ?_⟩) hS ?_
            · intro u hu
              go_simp
            simp only [Act.put, List.setIfInBounds_toArray, List.set_cons_zero, List.set_cons_succ]
            refine anyL_take (i := 3) (v := .slice (some ⟨g, 0, none⟩) m rc) rfl (by kernel_rfl) (by kernel_rfl) (by kernel_rfl) (by kernel_rfl) (fun _ _ _ h => h) (Or.inl ⟨by rfl, ?_⟩) hS ?_
            · intro u hu
              obtain ⟨u1, u2, u3⟩ := hu
              go_simp
            simp only [Act.put, List.setIfInBounds_toArray, List.set_cons_zero, List.set_cons_succ]
            refine anyL_pure (i := 4) (v := .int .i64 p) rfl (by kernel_rfl) (by kernel_rfl) (by kernel_rfl) (by kernel_rfl) (fun _ _ _ h => h) (Or.inl ⟨by rfl, ?_⟩) hS ?_
            · intro u hu
              go_simp
            simp only [Act.put, List.setIfInBounds_toArray, List.set_cons_zero, List.set_cons_succ]
            refine anyL_pure (i := 5) (v := .pointer (some ⟨fb, 0, none⟩)) rfl (by kernel_rfl) (by kernel_rfl) (by kernel_rfl) (by kernel_rfl) (fun _ _ _ h => h) (Or.inl ⟨by rfl, ?_⟩) hS ?_
            · intro u hu
              go_simp
            simp only [Act.put, List.setIfInBounds_toArray, List.set_cons_zero, List.set_cons_succ]
            refine anyL_pure (i := 6) (v := .pointer (some ⟨fb, 0, none⟩)) rfl (by kernel_rfl) (by kernel_rfl) (by kernel_rfl) (by kernel_rfl) (fun _ _ _ h => h) (Or.inl ⟨by rfl, ?_⟩) hS ?_
            · intro u hu
              go_simp
            simp only [Act.put, List.setIfInBounds_toArray, List.set_cons_zero, List.set_cons_succ]
            refine anyL_pure (i := 7) (v := .pointer (some ⟨fb, 0, none⟩)) rfl (by kernel_rfl) (by kernel_rfl) (by kernel_rfl) (by kernel_rfl) (fun _ _ _ h => h) (Or.inl ⟨by rfl, ?_⟩) hS ?_
            · intro u hu
              go_simp
            simp only [Act.put, List.setIfInBounds_toArray, List.set_cons_zero, List.set_cons_succ]
            refine anyL_take (i := 8) (v := .slice (some ⟨g, 0, none⟩) m rc) rfl (by kernel_rfl) (by kernel_rfl) (by kernel_rfl) (by kernel_rfl) (fun _ _ _ h => h) (Or.inl ⟨by rfl, ?_⟩) hS ?_
            · intro u hu
              obtain ⟨u1, u2, u3⟩ := hu
              go_simp
            simp only [Act.put, List.setIfInBounds_toArray, List.set_cons_zero, List.set_cons_succ]
            refine anyL_pure (i := 9) (v := .int .i64 k) rfl (by kernel_rfl) (by kernel_rfl) (by kernel_rfl) (by kernel_rfl) (fun _ _ _ h => h) (Or.inl ⟨by rfl, ?_⟩) hS ?_
            · intro u hu
              go_simp
            simp only [Act.put, List.setIfInBounds_toArray, List.set_cons_zero, List.set_cons_succ]
            refine anyL_pure (i := 10) (v := .pointer (some ⟨fb, 0, none⟩)) rfl (by kernel_rfl) (by kernel_rfl) (by kernel_rfl) (by kernel_rfl) (fun _ _ _ h => h) (Or.inl ⟨by rfl, ?_⟩) hS ?_
            · intro u hu
              go_simp
            simp only [Act.put, List.setIfInBounds_toArray, List.set_cons_zero, List.set_cons_succ]
            refine anyL_pure (i := 11) (v := .pointer (some ⟨fb, 0, none⟩)) rfl (by kernel_rfl) (by kernel_rfl) (by kernel_rfl) (by kernel_rfl) (fun _ _ _ h => h) (Or.inl ⟨by rfl, ?_⟩) hS ?_
            · intro u hu
              go_simp
            simp only [Act.put, List.setIfInBounds_toArray, List.set_cons_zero, List.set_cons_succ]
            refine anyL_pure (i := 12) (v := .pointer (some ⟨fb, 0, none⟩)) rfl (by kernel_rfl) (by kernel_rfl) (by kernel_rfl) (by kernel_rfl) (fun _ _ _ h => h) (Or.inl ⟨by rfl, ?_⟩) hS ?_
            · intro u hu
              go_simp
            simp only [Act.put, List.setIfInBounds_toArray, List.set_cons_zero, List.set_cons_succ]
            refine anyL_take (i := 13) (v := .slice (some ⟨g, 0, none⟩) m rc) rfl (by kernel_rfl) (by kernel_rfl) (by kernel_rfl) (by kernel_rfl) (fun _ _ _ h => h) (Or.inl ⟨by rfl, ?_⟩) hS ?_
            · intro u hu
              obtain ⟨u1, u2, u3⟩ := hu
              go_simp
            simp only [Act.put, List.setIfInBounds_toArray, List.set_cons_zero, List.set_cons_succ]
            refine anyL_pure (i := 14) (v := .int .i64 k) rfl (by kernel_rfl) (by kernel_rfl) (by kernel_rfl) (by kernel_rfl) (fun _ _ _ h => h) (Or.inl ⟨by rfl, ?_⟩) hS ?_
            · intro u hu
              go_simp
            simp only [Act.put, List.setIfInBounds_toArray, List.set_cons_zero, List.set_cons_succ]
            refine anyL_pure (i := 15) (v := .pointer (some ⟨g, k, none⟩)) rfl (by kernel_rfl) (by kernel_rfl) (by kernel_rfl) (by kernel_rfl) (fun _ _ _ h => h) (Or.inl ⟨by rfl, ?_⟩) hS ?_
            · intro u hu
              go_simp
            simp only [Act.put, List.setIfInBounds_toArray, List.set_cons_zero, List.set_cons_succ]
            refine anyL_take (i := 16) (v := .slice (some ⟨B k, 0, none⟩) C C) rfl (by kernel_rfl) (by kernel_rfl) (by kernel_rfl) (by kernel_rfl) (fun _ _ _ h => h) (Or.inl ⟨by rfl, ?_⟩) hS ?_
            · intro u hu
              obtain ⟨u1, u2, u3⟩ := hu
              go_simp
            simp only [Act.put, List.setIfInBounds_toArray, List.set_cons_zero, List.set_cons_succ]
            refine anyL_pure (i := 17) (v := .pointer (some ⟨fb, 0, none⟩)) rfl (by kernel_rfl) (by kernel_rfl) (by kernel_rfl) (by kernel_rfl) (fun _ _ _ h => h) (Or.inl ⟨by rfl, ?_⟩) hS ?_
            · intro u hu
              go_simp
            simp only [Act.put, List.setIfInBounds_toArray, List.set_cons_zero, List.set_cons_succ]
            refine anyL_pure (i := 18) (v := .pointer (some ⟨fb, 0, none⟩)) rfl (by kernel_rfl) (by kernel_rfl) (by kernel_rfl) (by kernel_rfl) (fun _ _ _ h => h) (Or.inl ⟨by rfl, ?_⟩) hS ?_
            · intro u hu
              go_simp
            simp only [Act.put, List.setIfInBounds_toArray, List.set_cons_zero, List.set_cons_succ]
            refine anyL_pure (i := 19) (v := .pointer (some ⟨fb, 0, none⟩)) rfl (by kernel_rfl) (by kernel_rfl) (by kernel_rfl) (by kernel_rfl) (fun _ _ _ h => h) (Or.inl ⟨by rfl, ?_⟩) hS ?_
            · intro u hu
              go_simp
            simp only [Act.put, List.setIfInBounds_toArray, List.set_cons_zero, List.set_cons_succ]
            refine anyL_take (i := 20) (v := .slice (some ⟨g, 0, none⟩) m rc) rfl (by kernel_rfl) (by kernel_rfl) (by kernel_rfl) (by kernel_rfl) (fun _ _ _ h => h) (Or.inl ⟨by rfl, ?_⟩) hS ?_
            · intro u hu
              obtain ⟨u1, u2, u3⟩ := hu
              go_simp
            simp only [Act.put, List.setIfInBounds_toArray, List.set_cons_zero, List.set_cons_succ]
            refine anyL_pure (i := 21) (v := .int .i64 p) rfl (by kernel_rfl) (by kernel_rfl) (by kernel_rfl) (by kernel_rfl) (fun _ _ _ h => h) (Or.inl ⟨by rfl, ?_⟩) hS ?_
            · intro u hu
              go_simp
            simp only [Act.put, List.setIfInBounds_toArray, List.set_cons_zero, List.set_cons_succ]
            refine anyL_pure (i := 22) (v := .pointer (some ⟨g, p, none⟩)) rfl (by kernel_rfl) (by kernel_rfl) (by kernel_rfl) (by kernel_rfl) (fun _ _ _ h => h) (Or.inl ⟨by rfl, ?_⟩) hS ?_
            · intro u hu
              go_simp
            simp only [Act.put, List.setIfInBounds_toArray, List.set_cons_zero, List.set_cons_succ]
            refine anyL_take (i := 23) (v := .slice (some ⟨B p, 0, none⟩) C C) rfl (by kernel_rfl) (by kernel_rfl) (by kernel_rfl) (by kernel_rfl) (fun _ _ _ h => h) (Or.inl ⟨by rfl, ?_⟩) hS ?_
            · intro u hu
              obtain ⟨u1, u2, u3⟩ := hu
              go_simp
            simp only [Act.put, List.setIfInBounds_toArray, List.set_cons_zero, List.set_cons_succ]
            refine anyL_one (i := 24) (by kernel_rfl) rfl rfl fun K hK => ?_
            go_simp
            refine hK _ _ (fun e => absurd e (by decide)) ?_
            clear hK K
            refine anyL_one (i := 25) (by kernel_rfl) rfl rfl fun K hK => ?_
            go_simp
            refine hK _ _ (fun e => absurd e (by decide)) ?_
            clear hK K
            refine anyL_one (i := 26) (by kernel_rfl) rfl rfl fun K hK => ?_
            go_simp
            refine hK _ _ (fun e => absurd e (by decide)) ?_
            clear hK K
            refine anyL_one (i := 27) (by kernel_rfl) rfl rfl fun K hK => ?_
            go_simp
            refine hK _ _ (fun e => absurd e (by decide)) ?_
            clear hK K
            refine anyL_done (by kernel_rfl) ?_ _
            -- swap8]
            clear q1 q2 q3 q4 q5 q6 c0 cS
            generalize ((w3.setCell ⟨g, p, none⟩ (.slice (some ⟨B k, 0, none⟩) C C)).setCell ⟨g, k, none⟩ (.slice (some ⟨B p, 0, none⟩) C C)).drew = w4 at *
            obtain ⟨fn, hfn⟩ := HF4.out.n
            obtain ⟨hh, hc3, e4, hnc3, hbh3, hhs3, hnum3⟩ := hfn.cell (by omega)
            simp only [Value.slice.injEq, true_and] at e4
            obtain ⟨rfl, rfl⟩ := e4
            have c1 := HF4.out.c1.1
            have q1 := (hnum3 p hp).1
            have q2 := (hnum3 k hkm).1
            have q3 := (hnum3 p hp).2
            have q4 := (hnum3 k hkm).2
            have q5 := HNE.out w4 hh k p _ (.int .i64 (fn k)) (Ne.symm E.out) q2
            have q6 := HNE.out w4 hh p k _ (.int .i64 (fn p)) E.out q1
            have hf5 := (HF4.out.swapNums (p := p) (q := k) rfl hp hkm (fn k) (fn p)).below (Below.refl _ _).drew
            have gg : w4.grownBy ((w4.setCell ⟨hh, p, none⟩ (.int .i64 (fn k))).setCell ⟨hh, k, none⟩ (.int .i64 (fn p))).drew (some hh) := gb_trans (gb_trans (gb_set _ _ _) (gb_set _ _ _)) (gb_below (Below.refl _ _).drew _)
            have hb5 := HB4.out.grown gg (Nat.le_trans hbW HB4.out.size) (fun k hk => by injection hk with hk; rw [← hk]; exact ⟨hbh3, HDN.out hh (Or.inr (Or.inr (Or.inl rfl)))⟩)
            have HF5 := Lib.hid hf5
            have HB5 := Lib.hid hb5
            clear hf5 hfn hnum3 gg hb5
            go_wp2_with fail
            have cS := c1
            -- [swap9
            refine region_held (fun u => u.cell? ⟨fb, 1, none⟩ = some (.slice (some ⟨hh, 0, none⟩) m nc) ∧ u.cell? ⟨hh, p, none⟩ = some (.int .i64 (fn p)) ∧ u.cell? ⟨hh, k, none⟩ = some (.int .i64 (fn k))) 24 hmix ?_
            have hS : w4.drew.cell? ⟨fb, 1, none⟩ = some (.slice (some ⟨hh, 0, none⟩) m nc) ∧ w4.drew.cell? ⟨hh, p, none⟩ = some (.int .i64 (fn p)) ∧ w4.drew.cell? ⟨hh, k, none⟩ = some (.int .i64 (fn k)) := ⟨cS, q1, q2⟩
            refine anyL_pure (i := 0) (v := .pointer (some ⟨fb, 0, none⟩)) rfl (by kernel_rfl) (by kernel_rfl) (by kernel_rfl) (by kernel_rfl) (fun _ _ _ h => h) (Or.inl ⟨by rfl, ?_⟩) hS ?_
            · intro u hu
              go_simp
            simp only [Act.put, List.setIfInBounds_toArray, List.set_cons_zero, List.set_cons_succ]
            refine anyL_pure (i := 1) (v := .pointer (some ⟨fb, 0, none⟩)) rfl (by kernel_rfl) (by kernel_rfl) (by kernel_rfl) (by kernel_rfl) (fun _ _ _ h => h) (Or.inl ⟨by rfl, ?_⟩) hS ?_
            · intro u hu
              go_simp
            simp only [Act.put, List.setIfInBounds_toArray, List.set_cons_zero, List.set_cons_succ]
            refine anyL_pure (i := 2) (v := .pointer (some ⟨fb, 1, none⟩)) rfl (by kernel_rfl) (by kernel_rfl) (by kernel_rfl) (by kernel_rfl) (fun _ _ _ h => h) (Or.inl ⟨by rfl, ?_⟩) hS ?_
            · intro u hu
              go_simp
            simp only [Act.put, List.setIfInBounds_toArray, List.set_cons_zero, List.set_cons_succ]
            refine anyL_take (i := 3) (v := .slice (some ⟨hh, 0, none⟩) m nc) rfl (by kernel_rfl) (by kernel_rfl) (by kernel_rfl) (by kernel_rfl) (fun _ _ _ h => h) (Or.inl ⟨by rfl, ?_⟩) hS ?_
            · intro u hu
              obtain ⟨u1, u2, u3⟩ := hu
              go_simp
            simp only [Act.put, List.setIfInBounds_toArray, List.set_cons_zero, List.set_cons_succ]
            refine anyL_pure (i := 4) (v := .int .i64 p) rfl (by kernel_rfl) (by kernel_rfl) (by kernel_rfl) (by kernel_rfl) (fun _ _ _ h => h) (Or.inl ⟨by rfl, ?_⟩) hS ?_
            · intro u hu
              go_simp
            simp only [Act.put, List.setIfInBounds_toArray, List.set_cons_zero, List.set_cons_succ]
            refine anyL_pure (i := 5) (v := .pointer (some ⟨fb, 0, none⟩)) rfl (by kernel_rfl) (by kernel_rfl) (by kernel_rfl) (by kernel_rfl) (fun _ _ _ h => h) (Or.inl ⟨by rfl, ?_⟩) hS ?_
            · intro u hu
              go_simp
            simp only [Act.put, List.setIfInBounds_toArray, List.set_cons_zero, List.set_cons_succ]
            refine anyL_pure (i := 6) (v := .pointer (some ⟨fb, 0, none⟩)) rfl (by kernel_rfl) (by kernel_rfl) (by kernel_rfl) (by kernel_rfl) (fun _ _ _ h => h) (Or.inl ⟨by rfl, ?_⟩) hS ?_
            · intro u hu
              go_simp
            simp only [Act.put, List.setIfInBounds_toArray, List.set_cons_zero, List.set_cons_succ]
            refine anyL_pure (i := 7) (v := .pointer (some ⟨fb, 1, none⟩)) rfl (by kernel_rfl) (by kernel_rfl) (by kernel_rfl) (by kernel_rfl) (fun _ _ _ h => h) (Or.inl ⟨by rfl, ?_⟩) hS ?_
            · intro u hu
              go_simp
            simp only [Act.put, List.setIfInBounds_toArray, List.set_cons_zero, List.set_cons_succ]
            refine anyL_take (i := 8) (v := .slice (some ⟨hh, 0, none⟩) m nc) rfl (by kernel_rfl) (by kernel_rfl) (by kernel_rfl) (by kernel_rfl) (fun _ _ _ h => h) (Or.inl ⟨by rfl, ?_⟩) hS ?_
            · intro u hu
              obtain ⟨u1, u2, u3⟩ := hu
              go_simp
            simp only [Act.put, List.setIfInBounds_toArray, List.set_cons_zero, List.set_cons_succ]
            refine anyL_pure (i := 9) (v := .int .i64 k) rfl (by kernel_rfl) (by kernel_rfl) (by kernel_rfl) (by kernel_rfl) (fun _ _ _ h => h) (Or.inl ⟨by rfl, ?_⟩) hS ?_
            · intro u hu
              go_simp
            simp only [Act.put, List.setIfInBounds_toArray, List.set_cons_zero, List.set_cons_succ]
            refine anyL_pure (i := 10) (v := .pointer (some ⟨fb, 0, none⟩)) rfl (by kernel_rfl) (by kernel_rfl) (by kernel_rfl) (by kernel_rfl) (fun _ _ _ h => h) (Or.inl ⟨by rfl, ?_⟩) hS ?_
            · intro u hu
              go_simp
            simp only [Act.put, List.setIfInBounds_toArray, List.set_cons_zero, List.set_cons_succ]
            refine anyL_pure (i := 11) (v := .pointer (some ⟨fb, 0, none⟩)) rfl (by kernel_rfl) (by kernel_rfl) (by kernel_rfl) (by kernel_rfl) (fun _ _ _ h => h) (Or.inl ⟨by rfl, ?_⟩) hS ?_
            · intro u hu
              go_simp
            simp only [Act.put, List.setIfInBounds_toArray, List.set_cons_zero, List.set_cons_succ]
            refine anyL_pure (i := 12) (v := .pointer (some ⟨fb, 1, none⟩)) rfl (by kernel_rfl) (by kernel_rfl) (by kernel_rfl) (by kernel_rfl) (fun _ _ _ h => h) (Or.inl ⟨by rfl, ?_⟩) hS ?_
            · intro u hu
              go_simp
            simp only [Act.put, List.setIfInBounds_toArray, List.set_cons_zero, List.set_cons_succ]
            refine anyL_take (i := 13) (v := .slice (some ⟨hh, 0, none⟩) m nc) rfl (by kernel_rfl) (by kernel_rfl) (by kernel_rfl) (by kernel_rfl) (fun _ _ _ h => h) (Or.inl ⟨by rfl, ?_⟩) hS ?_
            · intro u hu
              obtain ⟨u1, u2, u3⟩ := hu
              go_simp
            simp only [Act.put, List.setIfInBounds_toArray, List.set_cons_zero, List.set_cons_succ]
            refine anyL_pure (i := 14) (v := .int .i64 k) rfl (by kernel_rfl) (by kernel_rfl) (by kernel_rfl) (by kernel_rfl) (fun _ _ _ h => h) (Or.inl ⟨by rfl, ?_⟩) hS ?_
            · intro u hu
              go_simp
            simp only [Act.put, List.setIfInBounds_toArray, List.set_cons_zero, List.set_cons_succ]
            refine anyL_pure (i := 15) (v := .pointer (some ⟨hh, k, none⟩)) rfl (by kernel_rfl) (by kernel_rfl) (by kernel_rfl) (by kernel_rfl) (fun _ _ _ h => h) (Or.inl ⟨by rfl, ?_⟩) hS ?_
            · intro u hu
              go_simp
            simp only [Act.put, List.setIfInBounds_toArray, List.set_cons_zero, List.set_cons_succ]
            refine anyL_take (i := 16) (v := .int .i64 (fn k)) rfl (by kernel_rfl) (by kernel_rfl) (by kernel_rfl) (by kernel_rfl) (fun _ _ _ h => h) (Or.inl ⟨by rfl, ?_⟩) hS ?_
            · intro u hu
              obtain ⟨u1, u2, u3⟩ := hu
              go_simp
            simp only [Act.put, List.setIfInBounds_toArray, List.set_cons_zero, List.set_cons_succ]
            refine anyL_pure (i := 17) (v := .pointer (some ⟨fb, 0, none⟩)) rfl (by kernel_rfl) (by kernel_rfl) (by kernel_rfl) (by kernel_rfl) (fun _ _ _ h => h) (Or.inl ⟨by rfl, ?_⟩) hS ?_
            · intro u hu
              go_simp
            simp only [Act.put, List.setIfInBounds_toArray, List.set_cons_zero, List.set_cons_succ]
            refine anyL_pure (i := 18) (v := .pointer (some ⟨fb, 0, none⟩)) rfl (by kernel_rfl) (by kernel_rfl) (by kernel_rfl) (by kernel_rfl) (fun _ _ _ h => h) (Or.inl ⟨by rfl, ?_⟩) hS ?_
            · intro u hu
              go_simp
            simp only [Act.put, List.setIfInBounds_toArray, List.set_cons_zero, List.set_cons_succ]
            refine anyL_pure (i := 19) (v := .pointer (some ⟨fb, 1, none⟩)) rfl (by kernel_rfl) (by kernel_rfl) (by kernel_rfl) (by kernel_rfl) (fun _ _ _ h => h) (Or.inl ⟨by rfl, ?_⟩) hS ?_
            · intro u hu
              go_simp
            simp only [Act.put, List.setIfInBounds_toArray, List.set_cons_zero, List.set_cons_succ]
            refine anyL_take (i := 20) (v := .slice (some ⟨hh, 0, none⟩) m nc) rfl (by kernel_rfl) (by kernel_rfl) (by kernel_rfl) (by kernel_rfl) (fun _ _ _ h => h) (Or.inl ⟨by rfl, ?_⟩) hS ?_
            · intro u hu
              obtain ⟨u1, u2, u3⟩ := hu
              go_simp
            simp only [Act.put, List.setIfInBounds_toArray, List.set_cons_zero, List.set_cons_succ]
            refine anyL_pure (i := 21) (v := .int .i64 p) rfl (by kernel_rfl) (by kernel_rfl) (by kernel_rfl) (by kernel_rfl) (fun _ _ _ h => h) (Or.inl ⟨by rfl, ?_⟩) hS ?_
            · intro u hu
              go_simp
            simp only [Act.put, List.setIfInBounds_toArray, List.set_cons_zero, List.set_cons_succ]
            refine anyL_pure (i := 22) (v := .pointer (some ⟨hh, p, none⟩)) rfl (by kernel_rfl) (by kernel_rfl) (by kernel_rfl) (by kernel_rfl) (fun _ _ _ h => h) (Or.inl ⟨by rfl, ?_⟩) hS ?_
            · intro u hu
              go_simp
            simp only [Act.put, List.setIfInBounds_toArray, List.set_cons_zero, List.set_cons_succ]
            refine anyL_take (i := 23) (v := .int .i64 (fn p)) rfl (by kernel_rfl) (by kernel_rfl) (by kernel_rfl) (by kernel_rfl) (fun _ _ _ h => h) (Or.inl ⟨by rfl, ?_⟩) hS ?_
            · intro u hu
              obtain ⟨u1, u2, u3⟩ := hu
              go_simp
            simp only [Act.put, List.setIfInBounds_toArray, List.set_cons_zero, List.set_cons_succ]
            refine anyL_one (i := 24) (by kernel_rfl) rfl rfl fun K hK => ?_
            go_simp
            refine hK _ _ (fun e => absurd e (by decide)) ?_
            clear hK K
            refine anyL_one (i := 25) (by kernel_rfl) rfl rfl fun K hK => ?_
            go_simp
            refine hK _ _ (fun e => absurd e (by decide)) ?_
            clear hK K
            refine anyL_one (i := 26) (by kernel_rfl) rfl rfl fun K hK => ?_
            go_simp
            refine hK _ _ (fun e => absurd e (by decide)) ?_
            clear hK K
            refine anyL_one (i := 27) (by kernel_rfl) rfl rfl fun K hK => ?_
            go_simp
            refine hK _ _ (fun e => absurd e (by decide)) ?_
            clear hK K
            refine anyL_done (by kernel_rfl) ?_ _
            -- swap9]
            clear cS
            clear q1 q2 q3 q4 q5 q6 c1
            generalize ((w4.setCell ⟨hh, p, none⟩ (.int .i64 (fn k))).setCell ⟨hh, k, none⟩ (.int .i64 (fn p))).drew = w5 at *
            have c2 := HF5.out.c2.1
            have c2' := HF5.out.c2.2
            go_wp2_with fail
            go_meet
            have hf6 := HF5.out.setTn (!tn)
            have gg := gb_set w5 ⟨fb, 2, none⟩ (.bool (!tn))
            refine ⟨?_, HB5.out.grown gg (Nat.le_trans hbW HB5.out.size) (fun k hk => by injection hk with hk; rw [← hk]; exact ⟨HF5.out.own, HDN.out fb (Or.inl rfl)⟩), Nat.le_trans HB5.out.size gg.size⟩
            rw [show tn' = !tn by rw [HT'.out, if_neg E.out], HB'.out, HG'.out]
            exact hf6
          -- first]
        case rest =>
          -- [rest
          obtain ⟨hfl, hbx, hsx⟩ := hcut
          have hkm : k < m := by omega
          obtain ⟨g3, gc3, e3, hgc3, hbg3, hgs3, hrow3⟩ := hfl.r.cell (by omega)
          simp only [Value.slice.injEq, Option.some.injEq, Addr.mk.injEq, and_true, true_and] at e3
          obtain ⟨rfl, rfl⟩ := e3
          have d0 := hfl.c0.1
          have d5 := hfl.c5.1
          have r1 : wc.cell? ⟨g, k, none⟩ = some (.slice (some ⟨B' k, 0, none⟩) C C) := (hrow3 k hkm).1
          obtain ⟨a', hs1, hs2, ha'⟩ := cutR g m rc (k + 1) (by omega) hgc3
          rw [show ((k + 1 : Nat) : Int) = (k : Int) + 1 by omega] at hs1 hs2
          have hz' : G' k c ≠ 0 := by rw [HG'.out]; show G (laQ.sx p k k) c ≠ 0; rw [sx_self]; exact H0.out
          have hzb' : ∀ i j, k ≤ i → i < m → j < C → ZB S (G' i j) := fun i j h1 h2 h3 => by
            rw [HG'.out]
            exact HZB.out _ j (by unfold laQ.sx; (repeat' split) <;> omega) (laQ.sx_lt hp hkm h2) h3
          have hdv' : ∀ i j, k < i → i < m → j < C → last ∣ G' k c * G' i j - G' i c * G' k j := fun i j h1 h2 h3 => by
            rw [HG'.out]
            show last ∣ G (laQ.sx p k k) c * G (laQ.sx p k i) j - G (laQ.sx p k i) c * G (laQ.sx p k k) j
            rw [sx_self]
            exact HDV.out p hkp hp H0.out i j h1 h2 h3
          have hdn' : ∀ r, r < m → B' r < N := fun r hr => by rw [HB'.out]; exact HDN.out _ (Or.inr (Or.inr (Or.inr ⟨laQ.sx p k r, laQ.sx_lt hp hkm hr, rfl⟩)))
          have HDN' := Lib.hid hdn'
          clear hdn'
          have HFX := Lib.hid hfl
          have HBX := Lib.hid hbx
          have HSX := Lib.hid hsx
          have HA := Lib.hid ha'
          have HZ' := Lib.hid hz'
          have HZB' := Lib.hid hzb'
          have HDV' := Lib.hid hdv'
          clear hfl hbx hsx hrow3 ha' c0 HF3 HB3 hz' hzb' hdv' HZB HDV
          go_wp2_with fail
          go_loopw [126] (fun tv wr => ∃ t : Nat, t ≤ m - (k + 1) ∧ tv = .int .i64 t ∧ Fl X wr base fb m C B' (midG k c (k + 1 + t) (c + 1) last G') tn' last k (.slice (some ⟨g, 0, none⟩) m rc) (.slice na m nc) ∧ Frm base N W wr ∧ W.heap.size ≤ wr.heap.size) (fun tv _ => m - (k + 1) - (intOf tv).toNat)
          case atStart => exact ⟨0, Nat.zero_le _, rfl, HFX.out.congr fun i j _ _ => (midG_start k c last G' i j).symm, HBX.out, HSX.out⟩
          case round =>
            clear HFX HBX HSX
            obtain ⟨t, ht, rfl, hfl, hbx, hsx⟩ := hrel
            by_cases htl : t < m - (k + 1)
            · obtain ⟨r, hr⟩ : ∃ r, r = k + 1 + t := ⟨_, rfl⟩
              rw [← hr] at hfl
              have hkr : k < r := by omega
              have hrm : r < m := by omega
              obtain ⟨g3, gc3, e3, hgc3, hbg3, hgs3, hrow3⟩ := hfl.r.cell (by omega)
              simp only [Value.slice.injEq, Option.some.injEq, Addr.mk.injEq, and_true, true_and] at e3
              obtain ⟨rfl, rfl⟩ := e3
              have ea : a' = some ⟨g, (k + 1), none⟩ := HA.out (by omega)
              have r2 : wr.cell? ⟨g, k + 1 + t, none⟩ = some (.slice (some ⟨B' r, 0, none⟩) C C) := by rw [← hr]; exact (hrow3 r hrm).1
              obtain ⟨sh, ham, han, hac, ⟨h1, -⟩, ⟨h2, -⟩, hhz, hho⟩ := hfl.entry hrm hc
              rw [midG_at hkr (Or.inr ⟨rfl, Or.inl (Nat.le_refl _)⟩)] at hhz
              subst ea
              have tl : (t : Int) < ((m - (k + 1) : Nat) : Int) := by omega
              have HFL := Lib.hid hfl
              have HBX := Lib.hid hbx
              have HSX := Lib.hid hsx
              have HHZ := Lib.hid hhz
              have HHO := Lib.hid hho
              have HR := Lib.hid hr
              clear hfl hbx hsx hrow3 hhz hho hr
              have hhd : ¬ DF fb m B' (.slice (some ⟨g, 0, none⟩) m rc) (.slice na m nc) wr.heap.size := fun h => by have := HFL.out.lt h; omega
              have hbh : Below wr.heap.size wr (wr.alloc (.cells #[.bool sh, .slice ham han hac] 49)) := (Below.refl _ _).alloc (Nat.le_refl _) _
              obtain ⟨y0, y1, -, -⟩ := two_cells wr (.bool sh) (.slice ham han hac) 49
              have HHD := Lib.hid hhd
              have HBH := Lib.hid hbh
              have HY := Lib.hid (And.intro y0 y1)
              clear hhd hbh y0 y1
              have wc1 : IntKind.i64.wrap ((c : Int) + 1) = (c : Int) + 1 := IntWalk.i64_in _ (by omega)
              go_wp2_with fail
              obtain ⟨hd, hhd2⟩ : ∃ hd, hd = wr.heap.size := ⟨_, rfl⟩
              have hbr : base ≤ wr.heap.size := Nat.le_trans hbW HSX.out
              rw [← hhd2] at HHD HY hbr ⊢
              go_loopw [11] (fun jv wi => ∃ j : Nat, c + 1 ≤ j ∧ j ≤ C ∧ jv = .int .i64 j ∧ Fl X wi base fb m C B' (midG k c r j last G') tn' last k (.slice (some ⟨g, 0, none⟩) m rc) (.slice na m nc) ∧ Frm base N W wi ∧ W.heap.size ≤ wi.heap.size ∧
                hd < wi.heap.size ∧ wi.cell? ⟨hd, 0, none⟩ = some (.bool sh) ∧ wi.cell? ⟨hd, 1, none⟩ = some (.slice ham han hac) ∧ RdZ wi (.agg #[.bool sh, .slice ham han hac]) (G' r c)) (fun jv _ => C - (intOf jv).toNat)
              case atStart =>
                have hsz := HBH.out.size
                exact ⟨c + 1, Nat.le_refl _, by omega, by go_num, HFL.out.below HBH.out, HBX.out.next HBH.out hbW, Nat.le_trans HSX.out hsz, World.block_lt_of_cell? _ _ HY.out.1, HY.out.1, HY.out.2, HHZ.out.below HBH.out⟩
              case round =>
                clear HFL HBX HSX HBH HY HHZ hbr hhd2
                clear c5 d0 d5 r1 r2 h1 h2
                obtain ⟨j, j1, j2, rfl, hfl, hbx, hsx, hdl, z0, z1, hhz⟩ := hrel
                obtain ⟨wi, hwi⟩ : ∃ wi, wi = wr := ⟨_, rfl⟩
                rw [← hwi] at hfl hbx hsx hdl z0 z1 hhz ⊢
                clear hwi
                by_cases hj : j < C
                · have hmix : Try.prog.follows .mixedOrders = true := by kernel_rfl
                  obtain ⟨s1, a1, n1, c1, ⟨p1, -⟩, ⟨p2, -⟩, zk, -⟩ := hfl.entry hkm hc
                  obtain ⟨s2, a2, n2, c2, ⟨p3, -⟩, ⟨p4, -⟩, zr, -⟩ := hfl.entry hrm hj
                  obtain ⟨s3, a3, n3, c3, ⟨p5, -⟩, ⟨p6, -⟩, zj, -⟩ := hfl.entry hkm hj
                  rw [midG_at hkr (Or.inl rfl)] at zk zj
                  rw [midG_at hkr (Or.inr ⟨rfl, Or.inr (Nat.le_refl _)⟩)] at zr
                  have hp1 : ZB (S + S) (G' k c * G' r j) := (HZB'.out k c (Nat.le_refl _) hkm hc).mul (HZB'.out r j (by omega) hrm hj)
                  have hp2 : ZB (S + S) (G' r c * G' k j) := (HZB'.out r c (by omega) hrm hc).mul (HZB'.out k j (Nat.le_refl _) hkm hj)
                  have hp3 : ZB (4 * S + 1) (G' k c * G' r j - G' r c * G' k j) := by
                    have := hp1.add hp2.neg
                    rw [← Int.sub_eq_add_neg] at this
                    exact this.mono (by omega)
                  have HM1 := Lib.hid fun (u : World) (hu : Below wi.heap.size wi u) => zMul_any _ _ _ _ u (zk.below hu) (zr.below hu)
                  have HM2 := Lib.hid fun (u : World) (hu : Below wi.heap.size wi u) => zMul_any _ _ _ _ u (hhz.below hu) (zj.below hu)
                  have HSU := Lib.hid fun (u : World) (_ : Below wi.heap.size wi u) (x y : Value) (hx : RdZ u x (G' k c * G' r j)) (hy : RdZ u y (G' r c * G' k j)) => zSub_any x y _ _ u hx hy
                  have HSB := Lib.hid fun (u : World) (hu : Below wi.heap.size wi u) => show u.cell? ⟨B' k, c * 2, none⟩ = some (.bool s1) ∧ u.cell? ⟨B' k, c * 2 + 1, none⟩ = some (.slice a1 n1 c1) ∧ u.cell? ⟨B' r, j * 2, none⟩ = some (.bool s2) ∧ u.cell? ⟨B' r, j * 2 + 1, none⟩ = some (.slice a2 n2 c2) ∧ u.cell? ⟨hd, 0, none⟩ = some (.bool sh) ∧ u.cell? ⟨hd, 1, none⟩ = some (.slice ham han hac) ∧ u.cell? ⟨B' k, j * 2, none⟩ = some (.bool s3) ∧ u.cell? ⟨B' k, j * 2 + 1, none⟩ = some (.slice a3 n3 c3) from ⟨cell_stays hu p1, cell_stays hu p2, cell_stays hu p3, cell_stays hu p4, cell_stays hu z0, cell_stays hu z1, cell_stays hu p5, cell_stays hu p6⟩
                  have HP1 := Lib.hid hp1
                  have HP2 := Lib.hid hp2
                  have HP3 := Lib.hid hp3
                  have HFI := Lib.hid hfl
                  have HBI := Lib.hid (And.intro hbx hsx)
                  have HHI := Lib.hid (And.intro hdl (And.intro z0 (And.intro z1 hhz)))
                  have i1 : (j : Int) < C := by omega
                  have i2 : (c : Int) < C := by omega
                  clear hp1 hp2 hp3 hfl hbx hsx hdl z0 z1 hhz zk zr zj p1 p2 p3 p4 p5 p6
                  go_upto_region 19 with fail
                  go_cut [12] (fun xv wz => ∃ xb sx ax nx cx, xv = .pointer (some ⟨xb, 0, none⟩) ∧ wi.heap.size ≤ xb ∧ wz.cell? ⟨xb, 0, none⟩ = some (.bool sx) ∧ wz.cell? ⟨xb, 1, none⟩ = some (.slice ax nx cx) ∧ RdZ wz (.agg #[.bool sx, .slice ax nx cx]) (G' k c * G' r j - G' r c * G' k j) ∧ Below wi.heap.size wi wz)
                  case first =>
                    -- [s19
                    refine region_held (fun u => u.cell? ⟨B' k, c * 2, none⟩ = some (.bool s1) ∧ u.cell? ⟨B' k, c * 2 + 1, none⟩ = some (.slice a1 n1 c1) ∧ u.cell? ⟨B' r, j * 2, none⟩ = some (.bool s2) ∧ u.cell? ⟨B' r, j * 2 + 1, none⟩ = some (.slice a2 n2 c2) ∧ u.cell? ⟨hd, 0, none⟩ = some (.bool sh) ∧ u.cell? ⟨hd, 1, none⟩ = some (.slice ham han hac) ∧ u.cell? ⟨B' k, j * 2, none⟩ = some (.bool s3) ∧ u.cell? ⟨B' k, j * 2 + 1, none⟩ = some (.slice a3 n3 c3)) 17 hmix ?_
                    have HBc := (Below.refl wi.heap.size wi).drew
                    have hS := HSB.out wi.drew HBc
                    refine anyL_pure (i := 0) (v := .slice (some ⟨B' k, 0, none⟩) C C) rfl (by kernel_rfl) (by kernel_rfl) (by kernel_rfl) (by kernel_rfl) (fun _ _ _ h => h) (Or.inl ⟨by rfl, ?_⟩) hS ?_
                    · intro u hu
                      go_simp
                    try simp only [Act.put, List.setIfInBounds_toArray, List.set_cons_zero, List.set_cons_succ]
                    refine anyL_pure (i := 1) (v := .int .i64 c) rfl (by kernel_rfl) (by kernel_rfl) (by kernel_rfl) (by kernel_rfl) (fun _ _ _ h => h) (Or.inl ⟨by rfl, ?_⟩) hS ?_
                    · intro u hu
                      go_simp
                    try simp only [Act.put, List.setIfInBounds_toArray, List.set_cons_zero, List.set_cons_succ]
                    refine anyL_pure (i := 2) (v := .pointer (some ⟨B' k, c * 2, none⟩)) rfl (by kernel_rfl) (by kernel_rfl) (by kernel_rfl) (by kernel_rfl) (fun _ _ _ h => h) (Or.inl ⟨by rfl, ?_⟩) hS ?_
                    · intro u hu
                      go_simp
                    try simp only [Act.put, List.setIfInBounds_toArray, List.set_cons_zero, List.set_cons_succ]
                    refine anyL_take (i := 3) (v := .agg #[.bool s1, .slice a1 n1 c1]) rfl (by kernel_rfl) (by kernel_rfl) (by kernel_rfl) (by kernel_rfl) (fun _ _ _ h => h) (Or.inl ⟨by rfl, ?_⟩) hS ?_
                    · intro u hu
                      obtain ⟨u1, u2, u3, u4, u5, u6, u7, u8⟩ := hu
                      go_simp
                    try simp only [Act.put, List.setIfInBounds_toArray, List.set_cons_zero, List.set_cons_succ]
                    refine anyL_pure (i := 4) (v := .slice (some ⟨B' r, 0, none⟩) C C) rfl (by kernel_rfl) (by kernel_rfl) (by kernel_rfl) (by kernel_rfl) (fun _ _ _ h => h) (Or.inl ⟨by rfl, ?_⟩) hS ?_
                    · intro u hu
                      go_simp
                    try simp only [Act.put, List.setIfInBounds_toArray, List.set_cons_zero, List.set_cons_succ]
                    refine anyL_pure (i := 5) (v := .int .i64 j) rfl (by kernel_rfl) (by kernel_rfl) (by kernel_rfl) (by kernel_rfl) (fun _ _ _ h => h) (Or.inl ⟨by rfl, ?_⟩) hS ?_
                    · intro u hu
                      go_simp
                    try simp only [Act.put, List.setIfInBounds_toArray, List.set_cons_zero, List.set_cons_succ]
                    refine anyL_pure (i := 6) (v := .pointer (some ⟨B' r, j * 2, none⟩)) rfl (by kernel_rfl) (by kernel_rfl) (by kernel_rfl) (by kernel_rfl) (fun _ _ _ h => h) (Or.inl ⟨by rfl, ?_⟩) hS ?_
                    · intro u hu
                      go_simp
                    try simp only [Act.put, List.setIfInBounds_toArray, List.set_cons_zero, List.set_cons_succ]
                    refine anyL_take (i := 7) (v := .agg #[.bool s2, .slice a2 n2 c2]) rfl (by kernel_rfl) (by kernel_rfl) (by kernel_rfl) (by kernel_rfl) (fun _ _ _ h => h) (Or.inl ⟨by rfl, ?_⟩) hS ?_
                    · intro u hu
                      obtain ⟨u1, u2, u3, u4, u5, u6, u7, u8⟩ := hu
                      go_simp
                    try simp only [Act.put, List.setIfInBounds_toArray, List.set_cons_zero, List.set_cons_succ]
                    refine anyL_take (i := 9) (v := .agg #[.bool sh, .slice ham han hac]) rfl (by kernel_rfl) (by kernel_rfl) (by kernel_rfl) (by kernel_rfl) (fun _ _ _ h => h) (Or.inl ⟨by rfl, ?_⟩) hS ?_
                    · intro u hu
                      obtain ⟨u1, u2, u3, u4, u5, u6, u7, u8⟩ := hu
                      go_simp
                    try simp only [Act.put, List.setIfInBounds_toArray, List.set_cons_zero, List.set_cons_succ]
                    refine anyL_pure (i := 10) (v := .slice (some ⟨B' k, 0, none⟩) C C) rfl (by kernel_rfl) (by kernel_rfl) (by kernel_rfl) (by kernel_rfl) (fun _ _ _ h => h) (Or.inl ⟨by rfl, ?_⟩) hS ?_
                    · intro u hu
                      go_simp
                    try simp only [Act.put, List.setIfInBounds_toArray, List.set_cons_zero, List.set_cons_succ]
                    refine anyL_pure (i := 11) (v := .int .i64 j) rfl (by kernel_rfl) (by kernel_rfl) (by kernel_rfl) (by kernel_rfl) (fun _ _ _ h => h) (Or.inl ⟨by rfl, ?_⟩) hS ?_
                    · intro u hu
                      go_simp
                    try simp only [Act.put, List.setIfInBounds_toArray, List.set_cons_zero, List.set_cons_succ]
                    refine anyL_pure (i := 12) (v := .pointer (some ⟨B' k, j * 2, none⟩)) rfl (by kernel_rfl) (by kernel_rfl) (by kernel_rfl) (by kernel_rfl) (fun _ _ _ h => h) (Or.inl ⟨by rfl, ?_⟩) hS ?_
                    · intro u hu
                      go_simp
                    try simp only [Act.put, List.setIfInBounds_toArray, List.set_cons_zero, List.set_cons_succ]
                    refine anyL_take (i := 13) (v := .agg #[.bool s3, .slice a3 n3 c3]) rfl (by kernel_rfl) (by kernel_rfl) (by kernel_rfl) (by kernel_rfl) (fun _ _ _ h => h) (Or.inl ⟨by rfl, ?_⟩) hS ?_
                    · intro u hu
                      obtain ⟨u1, u2, u3, u4, u5, u6, u7, u8⟩ := hu
                      go_simp
                    try simp only [Act.put, List.setIfInBounds_toArray, List.set_cons_zero, List.set_cons_succ]
                    clear hS
                    refine anyL_two (i := 8) (j := 16) (by kernel_rfl) rfl rfl rfl rfl (fun K hK => ?_) (fun K hK => ?_)
                    · go_simp
                      refine (HM1.out _ HBc).mono ?_
                      rintro e wn ⟨v8, rfl, hf8, hb⟩
                      have hsb := HBc.size
                      replace HBc := HBc.trans (hb.mono HBc.size)
                      have R8 := hf8.rd HP1.out (by have := HS.out; omega)
                      refine hK _ _ (fun _ => HSB.out _ HBc) ?_
                      clear hK K
                      try simp only [Act.put, List.setIfInBounds_toArray, List.set_cons_zero, List.set_cons_succ]
                      refine anyL_two (i := 14) (j := 16) (by kernel_rfl) rfl rfl rfl rfl (fun K hK => ?_) (fun K hK => ?_)
                      · go_simp
                        refine (HM2.out _ HBc).mono ?_
                        rintro e wn ⟨v14, rfl, hf14, hb⟩
                        have hsb := HBc.size
                        replace HBc := HBc.trans (hb.mono HBc.size)
                        replace R8 := R8.below hb
                        have R14 := hf14.rd HP2.out (by have := HS.out; omega)
                        refine hK _ _ (fun _ => HSB.out _ HBc) ?_
                        clear hK K
                        try simp only [Act.put, List.setIfInBounds_toArray, List.set_cons_zero, List.set_cons_succ]
                        refine anyL_two (i := 15) (j := 16) (by kernel_rfl) rfl rfl rfl rfl (fun K hK => ?_) (fun K hK => ?_)
                        · go_simp
                          refine (HSU.out _ HBc _ _ R8 R14).mono ?_
                          rintro e wn ⟨v15, rfl, hf15, hb⟩
                          have hsb := HBc.size
                          replace HBc := HBc.trans (hb.mono HBc.size)
                          replace R8 := R8.below hb
                          replace R14 := R14.below hb
                          have R15 := hf15.rd HP3.out HS.out
                          obtain ⟨a5, n5, c5', rfl, ho5⟩ := hf15.agg
                          have NE : ∀ b, (Value.slice a5 n5 c5').ownBlock = some b → b < wn.heap.size := fun b hb' => (ho5 b hb').2
                          refine hK _ _ (fun _ => HSB.out _ HBc) ?_
                          clear hK K
                          try simp only [Act.put, List.setIfInBounds_toArray, List.set_cons_zero, List.set_cons_succ]
                          refine anyL_one (i := 16) (by kernel_rfl) rfl rfl fun K hK => ?_
                          go_simp
                          obtain ⟨wm, hwm⟩ : ∃ wm, wm = wn.alloc (.cells #[.bool false, .slice none 0 0] 49) := ⟨_, rfl⟩
                          have hb : Below wn.heap.size wn wm := by rw [hwm]; exact (Below.refl _ _).alloc (Nat.le_refl _) _
                          obtain ⟨x0, x1, x2, x3⟩ := two_cells wn (.bool false) (.slice none 0 0) 49
                          rw [← hwm] at x0 x1 x2 x3
                          have XL : wn.heap.size < wm.heap.size := World.block_lt_of_cell? wm _ x0
                          rw [← hwm]
                          have hsb := HBc.size
                          replace HBc := HBc.trans (hb.mono HBc.size)
                          have XI : wi.heap.size ≤ wn.heap.size := by first | exact Nat.le_refl _ | exact hsb
                          replace R8 := R8.below hb
                          replace R14 := R14.below hb
                          replace R15 := R15.below hb
                          have NX : ∀ b, (Value.slice a5 n5 c5').ownBlock = some b → b ≠ wn.heap.size := fun b hb' => Nat.ne_of_lt (NE b hb')
                          refine hK _ _ (fun _ => HSB.out _ HBc) ?_
                          clear hK K
                          try simp only [Act.put, List.setIfInBounds_toArray, List.set_cons_zero, List.set_cons_succ]
                          generalize wn.heap.size = xb at *
                          clear hwm
                          refine anyL_one (i := 17) (by kernel_rfl) rfl rfl fun K hK => ?_
                          go_simp
                          refine hK _ _ (fun e => absurd e (by decide)) ?_
                          clear hK K
                          refine anyL_done (by kernel_rfl) ?_ _
                          have hgx := stored2_gb wm xb (.bool (decide (G' k c * G' r j - G' r c * G' k j < 0))) (.slice a5 n5 c5')
                          have hx := two_own (W := wm) (q := xb) (x0 := .bool (decide (G' k c * G' r j - G' r c * G' k j < 0))) (x1 := .slice a5 n5 c5') x0 x1
                          have HXR := Lib.hid (R15.gb hgx (fun e => NX _ e rfl))
                          have HXB := Lib.hid (HBc.grown hgx HBc.size (fun k hk => by injection hk with hk; omega))
                          have HX := Lib.hid hx
                          have HXI := Lib.hid XI
                          clear x0 x1 x2 x3 R8 R14 R15 NX hgx hx
                          go_wp2_with fail
                          go_meet
                          exact ⟨xb, _, a5, n5, c5', rfl, HXI.out, HX.out.1, HX.out.2, HXR.out, HXB.out⟩
                        · go_simp
                          obtain ⟨wm, hwm⟩ : ∃ wm, wm = wn.alloc (.cells #[.bool false, .slice none 0 0] 49) := ⟨_, rfl⟩
                          have hb : Below wn.heap.size wn wm := by rw [hwm]; exact (Below.refl _ _).alloc (Nat.le_refl _) _
                          obtain ⟨x0, x1, x2, x3⟩ := two_cells wn (.bool false) (.slice none 0 0) 49
                          rw [← hwm] at x0 x1 x2 x3
                          have XL : wn.heap.size < wm.heap.size := World.block_lt_of_cell? wm _ x0
                          rw [← hwm]
                          have hsb := HBc.size
                          replace HBc := HBc.trans (hb.mono HBc.size)
                          have XI : wi.heap.size ≤ wn.heap.size := by first | exact Nat.le_refl _ | exact hsb
                          replace R8 := R8.below hb
                          replace R14 := R14.below hb
                          refine hK _ _ (fun _ => HSB.out _ HBc) ?_
                          clear hK K
                          try simp only [Act.put, List.setIfInBounds_toArray, List.set_cons_zero, List.set_cons_succ]
                          generalize wn.heap.size = xb at *
                          clear hwm
                          refine anyL_one (i := 15) (by kernel_rfl) rfl rfl fun K hK => ?_
                          go_simp
                          refine (HSU.out _ HBc _ _ R8 R14).mono ?_
                          rintro e wn ⟨v15, rfl, hf15, hb⟩
                          have hsb := HBc.size
                          replace HBc := HBc.trans (hb.mono HBc.size)
                          replace R8 := R8.below hb
                          replace R14 := R14.below hb
                          have R15 := hf15.rd HP3.out HS.out
                          obtain ⟨a5, n5, c5', rfl, ho5⟩ := hf15.agg
                          have NE : ∀ b, (Value.slice a5 n5 c5').ownBlock = some b → b < wn.heap.size := fun b hb' => (ho5 b hb').2
                          have NX : ∀ b, (Value.slice a5 n5 c5').ownBlock = some b → b ≠ xb := fun b hb' => by have := (ho5 b hb').1; omega
                          have u2 := froz_stays hb x0 x2
                          have u3 := froz_stays hb x1 x3
                          replace x0 := cell_stays hb x0
                          replace x1 := cell_stays hb x1
                          have x2 := u2
                          have x3 := u3
                          replace XL : xb < wn.heap.size := Nat.lt_of_lt_of_le XL hb.size
                          clear u2 u3
                          refine hK _ _ (fun _ => HSB.out _ HBc) ?_
                          clear hK K
                          try simp only [Act.put, List.setIfInBounds_toArray, List.set_cons_zero, List.set_cons_succ]
                          refine anyL_one (i := 17) (by kernel_rfl) rfl rfl fun K hK => ?_
                          go_simp
                          refine hK _ _ (fun e => absurd e (by decide)) ?_
                          clear hK K
                          refine anyL_done (by kernel_rfl) ?_ _
                          have hgx := stored2_gb wn xb (.bool (decide (G' k c * G' r j - G' r c * G' k j < 0))) (.slice a5 n5 c5')
                          have hx := two_own (W := wn) (q := xb) (x0 := .bool (decide (G' k c * G' r j - G' r c * G' k j < 0))) (x1 := .slice a5 n5 c5') x0 x1
                          have HXR := Lib.hid (R15.gb hgx (fun e => NX _ e rfl))
                          have HXB := Lib.hid (HBc.grown hgx HBc.size (fun k hk => by injection hk with hk; omega))
                          have HX := Lib.hid hx
                          have HXI := Lib.hid XI
                          clear x0 x1 x2 x3 R8 R14 R15 NX hgx hx
                          go_wp2_with fail
                          go_meet
                          exact ⟨xb, _, a5, n5, c5', rfl, HXI.out, HX.out.1, HX.out.2, HXR.out, HXB.out⟩
                      · go_simp
                        obtain ⟨wm, hwm⟩ : ∃ wm, wm = wn.alloc (.cells #[.bool false, .slice none 0 0] 49) := ⟨_, rfl⟩
                        have hb : Below wn.heap.size wn wm := by rw [hwm]; exact (Below.refl _ _).alloc (Nat.le_refl _) _
                        obtain ⟨x0, x1, x2, x3⟩ := two_cells wn (.bool false) (.slice none 0 0) 49
                        rw [← hwm] at x0 x1 x2 x3
                        have XL : wn.heap.size < wm.heap.size := World.block_lt_of_cell? wm _ x0
                        rw [← hwm]
                        have hsb := HBc.size
                        replace HBc := HBc.trans (hb.mono HBc.size)
                        have XI : wi.heap.size ≤ wn.heap.size := by first | exact Nat.le_refl _ | exact hsb
                        replace R8 := R8.below hb
                        refine hK _ _ (fun _ => HSB.out _ HBc) ?_
                        clear hK K
                        try simp only [Act.put, List.setIfInBounds_toArray, List.set_cons_zero, List.set_cons_succ]
                        generalize wn.heap.size = xb at *
                        clear hwm
                        refine anyL_one (i := 14) (by kernel_rfl) rfl rfl fun K hK => ?_
                        go_simp
                        refine (HM2.out _ HBc).mono ?_
                        rintro e wn ⟨v14, rfl, hf14, hb⟩
                        have hsb := HBc.size
                        replace HBc := HBc.trans (hb.mono HBc.size)
                        replace R8 := R8.below hb
                        have R14 := hf14.rd HP2.out (by have := HS.out; omega)
                        have u2 := froz_stays hb x0 x2
                        have u3 := froz_stays hb x1 x3
                        replace x0 := cell_stays hb x0
                        replace x1 := cell_stays hb x1
                        have x2 := u2
                        have x3 := u3
                        replace XL : xb < wn.heap.size := Nat.lt_of_lt_of_le XL hb.size
                        clear u2 u3
                        refine hK _ _ (fun _ => HSB.out _ HBc) ?_
                        clear hK K
                        try simp only [Act.put, List.setIfInBounds_toArray, List.set_cons_zero, List.set_cons_succ]
                        refine anyL_one (i := 15) (by kernel_rfl) rfl rfl fun K hK => ?_
                        go_simp
                        refine (HSU.out _ HBc _ _ R8 R14).mono ?_
                        rintro e wn ⟨v15, rfl, hf15, hb⟩
                        have hsb := HBc.size
                        replace HBc := HBc.trans (hb.mono HBc.size)
                        replace R8 := R8.below hb
                        replace R14 := R14.below hb
                        have R15 := hf15.rd HP3.out HS.out
                        obtain ⟨a5, n5, c5', rfl, ho5⟩ := hf15.agg
                        have NE : ∀ b, (Value.slice a5 n5 c5').ownBlock = some b → b < wn.heap.size := fun b hb' => (ho5 b hb').2
                        have NX : ∀ b, (Value.slice a5 n5 c5').ownBlock = some b → b ≠ xb := fun b hb' => by have := (ho5 b hb').1; omega
                        have u2 := froz_stays hb x0 x2
                        have u3 := froz_stays hb x1 x3
                        replace x0 := cell_stays hb x0
                        replace x1 := cell_stays hb x1
                        have x2 := u2
                        have x3 := u3
                        replace XL : xb < wn.heap.size := Nat.lt_of_lt_of_le XL hb.size
                        clear u2 u3
                        refine hK _ _ (fun _ => HSB.out _ HBc) ?_
                        clear hK K
                        try simp only [Act.put, List.setIfInBounds_toArray, List.set_cons_zero, List.set_cons_succ]
                        refine anyL_one (i := 17) (by kernel_rfl) rfl rfl fun K hK => ?_
                        go_simp
                        refine hK _ _ (fun e => absurd e (by decide)) ?_
                        clear hK K
                        refine anyL_done (by kernel_rfl) ?_ _
                        have hgx := stored2_gb wn xb (.bool (decide (G' k c * G' r j - G' r c * G' k j < 0))) (.slice a5 n5 c5')
                        have hx := two_own (W := wn) (q := xb) (x0 := .bool (decide (G' k c * G' r j - G' r c * G' k j < 0))) (x1 := .slice a5 n5 c5') x0 x1
                        have HXR := Lib.hid (R15.gb hgx (fun e => NX _ e rfl))
                        have HXB := Lib.hid (HBc.grown hgx HBc.size (fun k hk => by injection hk with hk; omega))
                        have HX := Lib.hid hx
                        have HXI := Lib.hid XI
                        clear x0 x1 x2 x3 R8 R14 R15 NX hgx hx
                        go_wp2_with fail
                        go_meet
                        exact ⟨xb, _, a5, n5, c5', rfl, HXI.out, HX.out.1, HX.out.2, HXR.out, HXB.out⟩
                    · go_simp
                      obtain ⟨wm, hwm⟩ : ∃ wm, wm = wi.drew.alloc (.cells #[.bool false, .slice none 0 0] 49) := ⟨_, rfl⟩
                      have hwm' : wm = (wi.alloc (.cells #[.bool false, .slice none 0 0] 49)).drew := hwm
                      have hb : Below wi.drew.heap.size wi.drew wm := by rw [hwm]; exact (Below.refl _ _).alloc (Nat.le_refl _) _
                      obtain ⟨x0, x1, x2, x3⟩ := two_cells wi.drew (.bool false) (.slice none 0 0) 49
                      rw [← hwm] at x0 x1 x2 x3
                      have XL : wi.drew.heap.size < wm.heap.size := World.block_lt_of_cell? wm _ x0
                      rw [← hwm']
                      have x0 : wm.cell? ⟨wi.heap.size, 0, none⟩ = _ := x0
                      have x1 : wm.cell? ⟨wi.heap.size, 1, none⟩ = _ := x1
                      have x2 : wm.frozen? ⟨wi.heap.size, 0, none⟩ = _ := x2
                      have x3 : wm.frozen? ⟨wi.heap.size, 1, none⟩ = _ := x3
                      have XL : wi.heap.size < wm.heap.size := XL
                      have hsb := HBc.size
                      replace HBc := HBc.trans (hb.mono HBc.size)
                      have XI : wi.heap.size ≤ wi.heap.size := by first | exact Nat.le_refl _ | exact hsb
                      refine hK _ _ (fun _ => HSB.out _ HBc) ?_
                      clear hK K
                      try simp only [Act.put, List.setIfInBounds_toArray, List.set_cons_zero, List.set_cons_succ]
                      obtain ⟨xb, hxb⟩ : ∃ xb, xb = wi.heap.size := ⟨_, rfl⟩
                      clear XI
                      have XI : wi.heap.size ≤ xb := Nat.le_of_eq hxb.symm
                      rw [← hxb] at x0 x1 x2 x3 XL
                      rw [← hxb]
                      clear hxb
                      clear hwm hwm'
                      refine anyL_one (i := 8) (by kernel_rfl) rfl rfl fun K hK => ?_
                      go_simp
                      refine (HM1.out _ HBc).mono ?_
                      rintro e wn ⟨v8, rfl, hf8, hb⟩
                      have hsb := HBc.size
                      replace HBc := HBc.trans (hb.mono HBc.size)
                      have R8 := hf8.rd HP1.out (by have := HS.out; omega)
                      have u2 := froz_stays hb x0 x2
                      have u3 := froz_stays hb x1 x3
                      replace x0 := cell_stays hb x0
                      replace x1 := cell_stays hb x1
                      have x2 := u2
                      have x3 := u3
                      replace XL : xb < wn.heap.size := Nat.lt_of_lt_of_le XL hb.size
                      clear u2 u3
                      refine hK _ _ (fun _ => HSB.out _ HBc) ?_
                      clear hK K
                      try simp only [Act.put, List.setIfInBounds_toArray, List.set_cons_zero, List.set_cons_succ]
                      refine anyL_one (i := 14) (by kernel_rfl) rfl rfl fun K hK => ?_
                      go_simp
                      refine (HM2.out _ HBc).mono ?_
                      rintro e wn ⟨v14, rfl, hf14, hb⟩
                      have hsb := HBc.size
                      replace HBc := HBc.trans (hb.mono HBc.size)
                      replace R8 := R8.below hb
                      have R14 := hf14.rd HP2.out (by have := HS.out; omega)
                      have u2 := froz_stays hb x0 x2
                      have u3 := froz_stays hb x1 x3
                      replace x0 := cell_stays hb x0
                      replace x1 := cell_stays hb x1
                      have x2 := u2
                      have x3 := u3
                      replace XL : xb < wn.heap.size := Nat.lt_of_lt_of_le XL hb.size
                      clear u2 u3
                      refine hK _ _ (fun _ => HSB.out _ HBc) ?_
                      clear hK K
                      try simp only [Act.put, List.setIfInBounds_toArray, List.set_cons_zero, List.set_cons_succ]
                      refine anyL_one (i := 15) (by kernel_rfl) rfl rfl fun K hK => ?_
                      go_simp
                      refine (HSU.out _ HBc _ _ R8 R14).mono ?_
                      rintro e wn ⟨v15, rfl, hf15, hb⟩
                      have hsb := HBc.size
                      replace HBc := HBc.trans (hb.mono HBc.size)
                      replace R8 := R8.below hb
                      replace R14 := R14.below hb
                      have R15 := hf15.rd HP3.out HS.out
                      obtain ⟨a5, n5, c5', rfl, ho5⟩ := hf15.agg
                      have NE : ∀ b, (Value.slice a5 n5 c5').ownBlock = some b → b < wn.heap.size := fun b hb' => (ho5 b hb').2
                      have NX : ∀ b, (Value.slice a5 n5 c5').ownBlock = some b → b ≠ xb := fun b hb' => by have := (ho5 b hb').1; omega
                      have u2 := froz_stays hb x0 x2
                      have u3 := froz_stays hb x1 x3
                      replace x0 := cell_stays hb x0
                      replace x1 := cell_stays hb x1
                      have x2 := u2
                      have x3 := u3
                      replace XL : xb < wn.heap.size := Nat.lt_of_lt_of_le XL hb.size
                      clear u2 u3
                      refine hK _ _ (fun _ => HSB.out _ HBc) ?_
                      clear hK K
                      try simp only [Act.put, List.setIfInBounds_toArray, List.set_cons_zero, List.set_cons_succ]
                      refine anyL_one (i := 17) (by kernel_rfl) rfl rfl fun K hK => ?_
                      go_simp
                      refine hK _ _ (fun e => absurd e (by decide)) ?_
                      clear hK K
                      refine anyL_done (by kernel_rfl) ?_ _
                      have hgx := stored2_gb wn xb (.bool (decide (G' k c * G' r j - G' r c * G' k j < 0))) (.slice a5 n5 c5')
                      have hx := two_own (W := wn) (q := xb) (x0 := .bool (decide (G' k c * G' r j - G' r c * G' k j < 0))) (x1 := .slice a5 n5 c5') x0 x1
                      have HXR := Lib.hid (R15.gb hgx (fun e => NX _ e rfl))
                      have HXB := Lib.hid (HBc.grown hgx HBc.size (fun k hk => by injection hk with hk; omega))
                      have HX := Lib.hid hx
                      have HXI := Lib.hid XI
                      clear x0 x1 x2 x3 R8 R14 R15 NX hgx hx
                      go_wp2_with fail
                      go_meet
                      exact ⟨xb, _, a5, n5, c5', rfl, HXI.out, HX.out.1, HX.out.2, HXR.out, HXB.out⟩
                    -- s19]
                  case rest =>
                    obtain ⟨xb, sx, ax, nx, cx, rfl, hxi, x0, x1, hxz, hbz⟩ := hcut
                    have hfc := HFI.out.below hbz
                    obtain ⟨sl, mv, ⟨l0, -⟩, ⟨l1, -⟩, hlz, -⟩ := hfc.c3
                    obtain ⟨al, nl, cl, rfl⟩ := hlz.agg
                    obtain ⟨s4, a4, n4, c4, z0, z1, -, -⟩ := hfc.entry hrm hj
                    have hex := zExact_any _ _ (G' k c * G' r j - G' r c * G' k j) last wc.drew HL.out (HDV'.out r j hkr hrm hj) (hxz.below (Below.refl _ _).drew) (hlz.below (Below.refl _ _).drew)
                    have hq : ZB (4 * S + 1) ((G' k c * G' r j - G' r c * G' k j) / last) := by
                      have h1 := HP3.out
                      unfold ZB at *
                      have h2 := Int.natAbs_ediv_le_natAbs (G' k c * G' r j - G' r c * G' k j) last
                      omega
                    have HEX := Lib.hid hex
                    have HQ := Lib.hid hq
                    have HFC := Lib.hid hfc
                    have HBZ := Lib.hid hbz
                    clear hex hq hfc hbz hxz hlz HM1 HM2 HSU HSB HP1 HP2 HP3
                    go_wp2_with fail
                    -- [s20
                    refine region_held (fun u => u.cell? ⟨xb, 0, none⟩ = some (.bool sx) ∧ u.cell? ⟨xb, 1, none⟩ = some (.slice ax nx cx) ∧ u.cell? ⟨fb, 3, none⟩ = some (.bool sl) ∧ u.cell? ⟨fb, 4, none⟩ = some (.slice al nl cl)) 11 hmix ?_
                    have hS : wc.drew.cell? ⟨xb, 0, none⟩ = some (.bool sx) ∧ wc.drew.cell? ⟨xb, 1, none⟩ = some (.slice ax nx cx) ∧ wc.drew.cell? ⟨fb, 3, none⟩ = some (.bool sl) ∧ wc.drew.cell? ⟨fb, 4, none⟩ = some (.slice al nl cl) := ⟨x0, x1, l0, l1⟩
                    refine anyL_pure (i := 0) (v := .slice (some ⟨B' r, 0, none⟩) C C) rfl (by kernel_rfl) (by kernel_rfl) (by kernel_rfl) (by kernel_rfl) (fun _ _ _ h => h) (Or.inl ⟨by rfl, ?_⟩) hS ?_
                    · intro u hu
                      go_simp
                    try simp only [Act.put, List.setIfInBounds_toArray, List.set_cons_zero, List.set_cons_succ]
                    refine anyL_pure (i := 1) (v := .int .i64 j) rfl (by kernel_rfl) (by kernel_rfl) (by kernel_rfl) (by kernel_rfl) (fun _ _ _ h => h) (Or.inl ⟨by rfl, ?_⟩) hS ?_
                    · intro u hu
                      go_simp
                    try simp only [Act.put, List.setIfInBounds_toArray, List.set_cons_zero, List.set_cons_succ]
                    refine anyL_take (i := 2) (v := .agg #[.bool sx, .slice ax nx cx]) rfl (by kernel_rfl) (by kernel_rfl) (by kernel_rfl) (by kernel_rfl) (fun _ _ _ h => h) (Or.inl ⟨by rfl, ?_⟩) hS ?_
                    · intro u hu
                      obtain ⟨u1, u2, u3, u4⟩ := hu
                      go_simp
                    try simp only [Act.put, List.setIfInBounds_toArray, List.set_cons_zero, List.set_cons_succ]
                    refine anyL_pure (i := 3) (v := .pointer (some ⟨fb, 0, none⟩)) rfl (by kernel_rfl) (by kernel_rfl) (by kernel_rfl) (by kernel_rfl) (fun _ _ _ h => h) (Or.inl ⟨by rfl, ?_⟩) hS ?_
                    · intro u hu
                      go_simp
                    try simp only [Act.put, List.setIfInBounds_toArray, List.set_cons_zero, List.set_cons_succ]
                    refine anyL_pure (i := 4) (v := .pointer (some ⟨fb, 0, none⟩)) rfl (by kernel_rfl) (by kernel_rfl) (by kernel_rfl) (by kernel_rfl) (fun _ _ _ h => h) (Or.inl ⟨by rfl, ?_⟩) hS ?_
                    · intro u hu
                      go_simp
                    try simp only [Act.put, List.setIfInBounds_toArray, List.set_cons_zero, List.set_cons_succ]
                    refine anyL_pure (i := 5) (v := .pointer (some ⟨fb, 3, none⟩)) rfl (by kernel_rfl) (by kernel_rfl) (by kernel_rfl) (by kernel_rfl) (fun _ _ _ h => h) (Or.inl ⟨by rfl, ?_⟩) hS ?_
                    · intro u hu
                      go_simp
                    try simp only [Act.put, List.setIfInBounds_toArray, List.set_cons_zero, List.set_cons_succ]
                    refine anyL_take (i := 6) (v := .agg #[.bool sl, .slice al nl cl]) rfl (by kernel_rfl) (by kernel_rfl) (by kernel_rfl) (by kernel_rfl) (fun _ _ _ h => h) (Or.inl ⟨by rfl, ?_⟩) hS ?_
                    · intro u hu
                      obtain ⟨u1, u2, u3, u4⟩ := hu
                      go_simp
                    try simp only [Act.put, List.setIfInBounds_toArray, List.set_cons_zero, List.set_cons_succ]
                    refine anyL_one (i := 7) (by kernel_rfl) rfl rfl fun K hK => ?_
                    go_simp
                    refine HEX.out.mono ?_
                    rintro e wn ⟨v, rfl, hf, hb⟩
                    have hb : Below wc.heap.size wc wn := below_drew hb
                    obtain ⟨a6, n6, c6, rfl, ho6⟩ := hf.agg
                    have R6 := hf.le HQ.out HS.out
                    have hS6 : wn.cell? ⟨xb, 0, none⟩ = some (.bool sx) ∧ wn.cell? ⟨xb, 1, none⟩ = some (.slice ax nx cx) ∧ wn.cell? ⟨fb, 3, none⟩ = some (.bool sl) ∧ wn.cell? ⟨fb, 4, none⟩ = some (.slice al nl cl) := ⟨cell_stays hb x0, cell_stays hb x1, cell_stays hb l0, cell_stays hb l1⟩
                    refine hK _ _ (fun _ => hS6) ?_
                    clear hK K
                    try simp only [Act.put, List.setIfInBounds_toArray, List.set_cons_zero, List.set_cons_succ]
                    refine anyL_pure (i := 8) (v := .tuple #[.agg #[.bool (decide ((G' k c * G' r j - G' r c * G' k j) / last < 0)), .slice a6 n6 c6], .int .i64 0]) rfl (by kernel_rfl) (by kernel_rfl) (by kernel_rfl) (by kernel_rfl) (fun _ _ _ h => h) (Or.inl ⟨by rfl, ?_⟩) hS6 ?_
                    · intro u hu
                      go_simp
                    try simp only [Act.put, List.setIfInBounds_toArray, List.set_cons_zero, List.set_cons_succ]
                    refine anyL_pure (i := 9) (v := .agg #[.bool (decide ((G' k c * G' r j - G' r c * G' k j) / last < 0)), .slice a6 n6 c6]) rfl (by kernel_rfl) (by kernel_rfl) (by kernel_rfl) (by kernel_rfl) (fun _ _ _ h => h) (Or.inl ⟨by rfl, ?_⟩) hS6 ?_
                    · intro u hu
                      go_simp
                    try simp only [Act.put, List.setIfInBounds_toArray, List.set_cons_zero, List.set_cons_succ]
                    refine anyL_pure (i := 10) (v := .int .i64 0) rfl (by kernel_rfl) (by kernel_rfl) (by kernel_rfl) (by kernel_rfl) (fun _ _ _ h => h) (Or.inl ⟨by rfl, ?_⟩) hS6 ?_
                    · intro u hu
                      go_simp
                    try simp only [Act.put, List.setIfInBounds_toArray, List.set_cons_zero, List.set_cons_succ]
                    have y0 := kept_cell (gb_below hb none) (by simp) z0
                    have y1 := kept_cell (gb_below hb none) (by simp) z1
                    obtain ⟨y0, y0'⟩ := y0
                    obtain ⟨y1, y1'⟩ := y1
                    refine anyL_one (i := 11) (by kernel_rfl) rfl rfl fun K hK => ?_
                    go_simp
                    refine hK _ _ (fun e => absurd e (by decide)) ?_
                    clear hK K
                    refine anyL_one (i := 12) (by kernel_rfl) rfl rfl fun K hK => ?_
                    go_simp
                    refine hK _ _ (fun e => absurd e (by decide)) ?_
                    clear hK K
                    refine anyL_done (by kernel_rfl) ?_ _
                    -- s20]
                    have hfn := HFC.out.below hb
                    have hput := hfn.put hrm hj R6 (fun b hb' => ⟨(ho6 b hb').2, fun hd' => by have := HFC.out.ltx hd'; have := (ho6 b hb').1; have h : wc.heap.size ≤ b := this; omega⟩)
                    have hput2 := hput.congr (F := midG k c r (j + 1) last G') (fun x y _ _ => midG_put k c r j last G' hkr (by omega) x y)
                    have hgp : wn.grownBy ((wn.setCell ⟨B' r, j * 2, none⟩ (.bool (decide ((G' k c * G' r j - G' r c * G' k j) / last < 0)))).setCell ⟨B' r, j * 2 + 1, none⟩ (.slice a6 n6 c6)) (some (B' r)) := gb_trans (gb_set _ _ _) (gb_set _ _ _)
                    have hbi := HBZ.out.trans (hb.mono HBZ.out.size)
                    obtain ⟨k1, k2, k3, k4⟩ := HHI.out
                    have hdB : hd ≠ B' r := fun e => HHD.out (Or.inr (Or.inr (Or.inr ⟨r, hrm, e⟩)))
                    have HN := Lib.hid hput2
                    have HN2 : Hid (Frm base N W ((wn.setCell ⟨B' r, j * 2, none⟩ (.bool (decide ((G' k c * G' r j - G' r c * G' k j) / last < 0)))).setCell ⟨B' r, j * 2 + 1, none⟩ (.slice a6 n6 c6))) :=
                      Lib.hid ((HBI.out.1.next hbi hbW).grown hgp (by have := hbi.size; have := HBI.out.2; omega) (fun k hk => by injection hk with hk; rw [← hk]; exact ⟨(HFC.out.lie r hrm).own, HDN'.out r hrm⟩))
                    have HN3 := Lib.hid (And.intro (Nat.le_trans (Nat.le_trans HBI.out.2 hbi.size) hgp.size) (And.intro (Nat.lt_of_lt_of_le k1 (Nat.le_trans hbi.size hgp.size)) (And.intro (hgp.cell (cell_stays hbi k2) (fun e => hdB (Option.some.inj e))) (And.intro (hgp.cell (cell_stays hbi k3) (fun e => hdB (Option.some.inj e))) ((k4.below hbi).gb hgp (fun e => (HHO.out _ e).2 (Or.inl (Or.inr (Or.inr (Or.inr ⟨r, hrm, rfl⟩))))))))))
                    clear hfn hput hput2 hgp hbi k1 k2 k3 k4 z0 z1 x0 x1 l0 l1 y0 y1 y0' y1' hS6 hS R6 ho6 hf hb
                    have wj : IntKind.i64.wrap ((j : Int) + 1) = (j : Int) + 1 := IntWalk.i64_in _ (by omega)
                    go_wp2_with fail
                    go_roundw
                    case rel => exact ⟨j + 1, by omega, by omega, by go_num, HN.out, HN2.out, HN3.out.1, HN3.out.2.1, HN3.out.2.2.1, HN3.out.2.2.2.1, HN3.out.2.2.2.2⟩
                    case measure => simp [intOf]; omega
                · obtain rfl : j = C := by omega
                  obtain ⟨s4, a4, n4, c4, ⟨z2, z2'⟩, ⟨z3, z3'⟩, -, -⟩ := hfl.entry hrm hc
                  have hput := hfl.put hrm hc (le_zero wi) (fun b hb => by simp [Value.ownBlock] at hb)
                  have hput2 := hput.congr (F := midG k c (r + 1) (c + 1) last G') (fun x y _ hy => midG_row k c r j last G' hkr x y hy)
                  have hgp : wi.grownBy ((wi.setCell ⟨B' r, c * 2, none⟩ (.bool false)).setCell ⟨B' r, c * 2 + 1, none⟩ (.slice none 0 0)) (some (B' r)) := gb_trans (gb_set _ _ _) (gb_set _ _ _)
                  have HN := Lib.hid hput2
                  have HN2 := Lib.hid (hbx.grown hgp (Nat.le_trans hbW hsx) (fun k hk => by injection hk with hk; rw [← hk]; exact ⟨(hfl.lie r hrm).own, HDN'.out r hrm⟩))
                  have HN3 := Lib.hid (Nat.le_trans hsx hgp.size)
                  have i2 : (c : Int) < j := by omega
                  clear hput hput2 hgp hfl hbx hsx hhz z0 z1
                  go_wp2_with fail
                  go_roundw
                  case rel => exact ⟨t + 1, by omega, by go_num, by rw [show k + 1 + (t + 1) = r + 1 by have := HR.out; omega]; exact HN.out, HN2.out, HN3.out⟩
                  case measure => simp [intOf]; omega
            · obtain rfl : t = m - (k + 1) := by omega
              rw [show k + 1 + (m - (k + 1)) = m by omega] at hfl
              obtain ⟨s4, a4, n4, c4, ⟨z2, -⟩, ⟨z3, -⟩, hkz, hko⟩ := hfl.entry hkm hc
              have e0 : midG k c m (c + 1) last G' k c = G' k c := by unfold midG; rw [if_pos hkm, stG_low (Nat.le_refl _)]
              rw [e0] at hkz
              have hfl2 := (hfl.setLast hkz hko).setTaken (k + 1)
              have e1 : ∀ i j, i < m → j < C → midG k c m (c + 1) last G' i j = stG k c last G' i j := fun i j hi _ => by unfold midG; rw [if_pos hi]
              have hfl3 := hfl2.congr e1
              obtain ⟨sl, mv, ⟨l0, l0'⟩, ⟨l1, l1'⟩, -, -⟩ := hfl.c3
              obtain ⟨d5, d5'⟩ := kept_set (v := .slice a4 n4 c4) (show 5 ≠ 4 by omega) (kept_set (v := .bool s4) (show 5 ≠ 3 by omega) hfl.c5)
              have hgp : wr.grownBy (((wr.setCell ⟨fb, 3, none⟩ (.bool s4)).setCell ⟨fb, 4, none⟩ (.slice a4 n4 c4)).setCell ⟨fb, 5, none⟩ (.int .i64 ((k + 1 : Nat) : Int))) (some fb) := gb_trans (gb_trans (gb_set _ _ _) (gb_set _ _ _)) (gb_set _ _ _)
              have HN := Lib.hid hfl3
              have HN2 := Lib.hid (hbx.grown hgp (Nat.le_trans hbW hsx) (fun k hk => by injection hk with hk; rw [← hk]; exact ⟨hfl.own, HDN.out fb (Or.inl rfl)⟩))
              have HN3 := Lib.hid (Nat.le_trans hsx hgp.size)
              have i2 : (c : Int) < C := by omega
              have wk : IntKind.i64.wrap ((k : Int) + 1) = (k : Int) + 1 := IntWalk.i64_in _ (by omega)
              clear hfl hfl2 hfl3 hbx hsx hgp hkz hko e0 e1
              go_wp2_with fail
              go_ret
              have e3 : G' k c = G p c := by rw [HG'.out]; show G (laQ.sx p k k) c = G p c; rw [sx_self]
              refine ⟨HN2.out, HN3.out, Or.inr ⟨p, hkp, hp, HZE.out, H0.out, rfl, ?_⟩⟩
              rw [← e3, ← HB'.out, ← HG'.out, ← HT'.out]
              exact HN.out
          -- rest]
    · obtain rfl : p = m := by omega
      have HFL := Lib.hid hfl
      have HZE := Lib.hid hze
      have HBL := Lib.hid hbl
      clear hfl hze hbl
      go_wp2_with fail
      go_ret
      exact ⟨Frm.of HBL.out hbW, HBL.out.size, Or.inl ⟨rfl, HZE.out, HFL.out⟩⟩
end Go.Proofs.Ytejliecmdkmgiaa
