import Derived.Test.YtejliecmdkmgiaaGU
import Derived.Test.YtejliecmdkmgiaaGR
import Derived.Test.YtejliecmdkmgiaaGS
import Derived.Test.YtejliecmdkmgiaaGI
import Derived.Test.YtejliecmdkmgiaaGK
import Derived.Test.YtejliecmdkmgiaaGH
import Derived.Test.YtejliecmdkmgiaaGD
set_option linter.unusedVariables false
set_option linter.unusedSimpArgs false
namespace Go.Proofs.Ytejliecmdkmgiaa
open Go.RowKit Go.Shelf
structure IBox (w : World) (b base : Nat) (z : Int) (a : Option Addr) (n c : Nat) : Prop where
  c0 : w.cell? ⟨b, 0, none⟩ = some (.bool (decide (z < 0)))
  c1 : w.cell? ⟨b, 1, none⟩ = some (.slice a n c)
  f0 : w.frozen? ⟨b, 0, none⟩ = false
  f1 : w.frozen? ⟨b, 1, none⟩ = false
  fr : FrZ w base (.agg #[.bool (decide (z < 0)), .slice a n c]) z
  lt : b < base
section
variable {w w' u : World} {b base n c : Nat} {z z' : Int} {a : Option Addr}
theorem IBox.below (h : IBox w b base z a n c) (hb : Below w.heap.size w w') : IBox w' b base z a n c :=
  ⟨cell_stays hb h.c0, cell_stays hb h.c1, froz_stays hb h.c0 h.f0, froz_stays hb h.c1 h.f1, h.fr.below hb, h.lt⟩
theorem IBox.put (h : IBox w b base z a n c) {a' : Option Addr} {n' c' : Nat} (hf : FrZ w base (.agg #[.bool (decide (z' < 0)), .slice a' n' c']) z') :
    IBox ((w.setCell ⟨b, 0, none⟩ (.bool (decide (z' < 0)))).setCell ⟨b, 1, none⟩ (.slice a' n' c')) b base z' a' n' c' := by
  have ne : (⟨b, 0, none⟩ : Addr) ≠ ⟨b, 1, none⟩ := fun e => by injection e with _ e _; omega
  refine ⟨?_, ?_, ?_, ?_, hf.far (gb_two w b 0 1 (.bool (decide (z' < 0))) (.slice a' n' c')) h.lt, h.lt⟩
  · rw [World.cell?_setCell_other _ _ _ _ (fun e => ne e.symm)]
    exact World.cell?_setCell_same _ _ _ h.c0
  · refine World.cell?_setCell_same _ _ _ (u := .slice a n c) ?_
    rw [World.cell?_setCell_other _ _ _ _ ne]; exact h.c1
  · rw [World.frozen?_setCell, World.frozen?_setCell]; exact h.f0
  · rw [World.frozen?_setCell, World.frozen?_setCell]; exact h.f1
theorem IBox.new (w : World) {s : Bool} (hs : s = decide (z < 0)) (hf : FrZ w base (.agg #[.bool (decide (z < 0)), .slice a n c]) z) (base' : Nat) (hb : w.heap.size < base') (hbb : base' ≤ base) : IBox (w.alloc (.cells #[.bool s, .slice a n c] 49)) w.heap.size base' z a n c := by
  subst hs
  obtain ⟨k0, k1, k2, k3⟩ := two_cells w (.bool (decide (z < 0))) (.slice a n c) 49
  exact ⟨k0, k1, k2, k3, (hf.mono hbb).below (bl_alloc _ _), hb⟩
end
end Go.Proofs.Ytejliecmdkmgiaa
namespace Go.Proofs.Ytejliecmdkmgiaa
open Go.RowKit Go.Shelf
end Go.Proofs.Ytejliecmdkmgiaa
namespace Go.Proofs.Ytejliecmdkmgiaa
open laZ
end Go.Proofs.Ytejliecmdkmgiaa
namespace Go.Proofs.Ytejliecmdkmgiaa
open Go.RowKit Go.Shelf
theorem MBox.laid {w w1 : World} {mb base lb n N : Nat} {r c : Int} {v : Value} {E : Nat → Int} (h : MBox w mb r c v) (hb : Below w.heap.size w w1) (hf : FrE w1 base (fun b => b ≤ lb) lb N E) (hbase : w.heap.size ≤ base) (hN : N ≤ 1048576) (r' c' : Int) :
    MBox (stored3 w1 mb (.int .i64 r') (.int .i64 c') (.slice (some ⟨lb, 0, none⟩) N N)) mb r' c' (.slice (some ⟨lb, 0, none⟩) N N) ∧
    RdE (stored3 w1 mb (.int .i64 r') (.int .i64 c') (.slice (some ⟨lb, 0, none⟩) N N)) (.slice (some ⟨lb, 0, none⟩) N N) N E ∧
    w1.grownBy (stored3 w1 mb (.int .i64 r') (.int .i64 c') (.slice (some ⟨lb, 0, none⟩) N N)) (some mb) := by
  have hg := stored3_gb w1 mb (.int .i64 r') (.int .i64 c') (.slice (some ⟨lb, 0, none⟩) N N)
  have hl := hf.own
  have hm : mb < w.heap.size := World.block_lt_of_cell? w _ h.m0
  exact ⟨(h.below hb).store, (hf.grown hg (by omega) (show mb ≤ lb by omega)).rd (Nat.le_refl _) hN, hg⟩
end Go.Proofs.Ytejliecmdkmgiaa
namespace Go.Proofs.Ytejliecmdkmgiaa
open Go.RowKit Go.ChangeShapes Go.WideShapes Go.Deep Go.Joins
section
variable {H : Type} {enc : TypeId × Value → H} {w : World} {base : Nat} {spare : Nat → Bool} {held : Bool}
end
end Go.Proofs.Ytejliecmdkmgiaa
