import Derived.Test.YtejliecmdkmgiaaGY
import Derived.Test.YtejliecmdkmgiaaGH
set_option linter.unusedVariables false
set_option linter.unusedSimpArgs false
namespace Go.Proofs.Ytejliecmdkmgiaa
open Go.RowKit Go.Shelf
section
variable {w wr w' u w0 : World} {b d base : Nat} {s : Bool} {v : Value} {z : Int} {am : Option Addr} {an ac : Nat}
structure KBox (w : World) (b : Nat) (z : Int) (a : Option Addr) (n c : Nat) : Prop where
  b2 : ZBox w b (decide (z < 0)) (.slice a n c)
  fr : FrZ w 0 (.agg #[.bool (decide (z < 0)), .slice a n c]) z
theorem FrZ.apart {m : Value} (h : FrZ w base (.agg #[.bool s, m]) z) (hg : w.grownBy w' (some d)) (hd : m.ownBlock ≠ some d) : FrZ w' base (.agg #[.bool s, m]) z := by
  obtain ⟨m', n, f, e, h1, h2⟩ := h
  simp only [Value.agg.injEq, Array.mk.injEq, List.cons.injEq, and_true] at e
  obtain ⟨e1, rfl⟩ := e
  refine ⟨m, n, f, by rw [e1], h1.grown hg (Or.inr hd), h2⟩
theorem FrZ.own_base {m : Value} (h : FrZ w base (.agg #[.bool s, m]) z) {k : Nat} (e : m.ownBlock = some k) : base ≤ k ∧ k < w.heap.size := by
  obtain ⟨a', n', c', e2, ho⟩ := h.agg
  simp only [Value.agg.injEq, Array.mk.injEq, List.cons.injEq, and_true] at e2
  rw [e2.2] at e
  exact ho _ e
theorem KBox.new (h : FrZ w base (.agg #[.bool (decide (z < 0)), .slice am an ac]) z) : KBox (w.alloc (.cells #[.bool (decide (z < 0)), .slice am an ac] 49)) w.heap.size z am an ac :=
  ⟨ZBox.new w _ _, (h.mono (Nat.zero_le _)).below (bl_alloc _ _)⟩
theorem KBox.below (h : KBox w b z am an ac) (hb : Below w.heap.size w w') : KBox w' b z am an ac := ⟨h.b2.below hb, h.fr.below hb⟩
theorem KBox.gb (h : KBox w b z am an ac) (hg : w.grownBy w' (some d)) (hd : b ≠ d) (ho : (Value.slice am an ac).ownBlock ≠ some d) : KBox w' b z am an ac := ⟨h.b2.grown hg hd, h.fr.apart hg ho⟩
theorem ZBox.iput (h : ZBox w b s v) (hf : FrZ w base (.agg #[.bool (decide (z < 0)), .slice am an ac]) z) (hs : (Value.slice am an ac).ownBlock ≠ some b) : KBox (stored2 w b (.bool (decide (z < 0))) (.slice am an ac)) b z am an ac :=
  ⟨h.store, (hf.mono (Nat.zero_le _)).apart (stored2_gb w b _ _) hs⟩
theorem KBox.rd {S : Nat} (h : KBox w b z am an ac) (hz : ZB S z) (hS : S ≤ 274877906944) : RdZ w (.agg #[.bool (decide (z < 0)), .slice am an ac]) z := h.fr.rd hz hS
end
structure IvR (w wr : World) (n : Int) (N ab gb lb : Nat) (d g : Int) (ad : Option Addr) (nd cd : Nat) (ag : Option Addr) (ng cg : Nat) (F : Nat → Int) : Prop where
  below : Below w.heap.size w wr
  r : MBox wr (w.heap.size + 1) 0 0 (.slice none 0 0)
  z : KBox wr (w.heap.size + 2) d ad nd cd
  a : MBox wr ab n n (.slice (some ⟨lb, 0, none⟩) N N)
  g : KBox wr gb g ag ng cg
  p : PaE wr w.heap.size (fun b => b ≤ lb ∨ b = gb) lb N N F
  lr : w.heap.size + 2 < lb
  la : lb < ab
  lg : lb < gb
  ane : ab ≠ gb
  oz : (Value.slice ad nd cd).ownBlock ≠ some lb
  og : (Value.slice ag ng cg).ownBlock ≠ some lb
  ozg : (Value.slice ad nd cd).ownBlock ≠ some gb
section
variable {w wr w' : World} {n : Int} {N ab gb lb : Nat} {d g : Int} {ad ag : Option Addr} {nd cd ng cg : Nat} {F F' : Nat → Int}
theorem IvR.on (h : IvR w wr n N ab gb lb d g ad nd cd ag ng cg F) (hb : Below wr.heap.size wr w') : IvR w w' n N ab gb lb d g ad nd cd ag ng cg F :=
  { h with below := below_via h.below hb, r := h.r.below hb, z := h.z.below hb, a := h.a.below hb, g := h.g.below hb, p := h.p.below hb }
theorem IvR.congr (h : IvR w wr n N ab gb lb d g ad nd cd ag ng cg F) (e : ∀ j, j < N → F j = F' j) : IvR w wr n N ab gb lb d g ad nd cd ag ng cg F' := { h with p := h.p.congr e }
theorem IvR.turn (h : IvR w wr n N ab gb lb d g ad nd cd ag ng cg F) (hg : wr.grownBy w' (some lb)) (hp : PaE w' w.heap.size (fun b => b ≤ lb ∨ b = gb) lb N N F') : IvR w w' n N ab gb lb d g ad nd cd ag ng cg F' :=
  { h with below := h.below.grown hg h.below.size (fun k hk => by injection hk with hk; have := h.lr; omega), r := h.r.grown hg (by have := h.lr; omega), z := h.z.gb hg (by have := h.lr; omega) h.oz, a := h.a.grown hg (by have := h.la; omega), g := h.g.gb hg (by have := h.lg; omega) h.og, p := hp }
theorem IvR.neg {ag' : Option Addr} {ng' cg' base : Nat} {g' : Int} (h : IvR w wr n N ab gb lb d g ad nd cd ag ng cg F) (hf : FrZ wr base (.agg #[.bool (decide (g' < 0)), .slice ag' ng' cg']) g') (hb : gb < base) :
    IvR w (stored2 wr gb (.bool (decide (g' < 0))) (.slice ag' ng' cg')) n N ab gb lb d g' ad nd cd ag' ng' cg' F := by
  have hg := stored2_gb wr gb (.bool (decide (g' < 0))) (.slice ag' ng' cg')
  have h1 := h.lr
  have h2 := h.lg
  have ho : ∀ k, (Value.slice ag' ng' cg').ownBlock = some k → base ≤ k := fun k e => (hf.own_base e).1
  exact { h with
    below := h.below.grown hg h.below.size (fun k hk => by injection hk with hk; omega)
    r := h.r.grown hg (by omega)
    z := h.z.gb hg (by omega) h.ozg
    a := h.a.grown hg h.ane
    g := h.g.b2.iput hf (fun e => by have := ho _ e; omega)
    p := h.p.grown hg (by omega) (Or.inr rfl)
    og := fun e => by have := ho _ e; omega }
theorem IvR.out {am : Option Addr} {an ac base : Nat} {d' : Int} (h : IvR w wr n N ab gb lb d g ad nd cd ag ng cg F) (hf : FrZ wr base (.agg #[.bool (decide (d' < 0)), .slice am an ac]) d') (hb : lb < base) :
    ZBox (stored2 wr (w.heap.size + 2) (.bool (decide (d' < 0))) (.slice am an ac)) (w.heap.size + 2) (decide (d' < 0)) (.slice am an ac) ∧ MBox (stored2 wr (w.heap.size + 2) (.bool (decide (d' < 0))) (.slice am an ac)) (w.heap.size + 1) 0 0 (.slice none 0 0) ∧
    MBox (stored2 wr (w.heap.size + 2) (.bool (decide (d' < 0))) (.slice am an ac)) ab n n (.slice (some ⟨lb, 0, none⟩) N N) ∧
    FrE (stored2 wr (w.heap.size + 2) (.bool (decide (d' < 0))) (.slice am an ac)) w.heap.size (fun b => b ≤ lb) lb N F ∧
    FrZ (stored2 wr (w.heap.size + 2) (.bool (decide (d' < 0))) (.slice am an ac)) base (.agg #[.bool (decide (d' < 0)), .slice am an ac]) d' ∧
    Below w.heap.size w (stored2 wr (w.heap.size + 2) (.bool (decide (d' < 0))) (.slice am an ac)) := by
  have hg := stored2_gb wr (w.heap.size + 2) (.bool (decide (d' < 0))) (.slice am an ac)
  have h1 := h.lr
  have h2 := h.la
  exact ⟨h.z.b2.store, h.r.grown hg (by omega), h.a.grown hg (by omega), (h.p.grown hg (by omega) (Or.inl (by omega))).turnD (fun b _ hn hd => hn (Or.inl hd)), hf.far hg (by omega), h.below.grown hg h.below.size (fun k hk => by injection hk with hk; omega)⟩
end
end Go.Proofs.Ytejliecmdkmgiaa
namespace Go.Proofs.Ytejliecmdkmgiaa
open Go.RowKit Go.Shelf
end Go.Proofs.Ytejliecmdkmgiaa
