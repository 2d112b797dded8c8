import Derived.Test.YtejliecmdkmgiaaGU
import Derived.Test.YtejliecmdkmgiaaGV
import Derived.Test.YtejliecmdkmgiaaGX
import Derived.Test.YtejliecmdkmgiaaGK
import Derived.Test.YtejliecmdkmgiaaGQ
import Derived.Test.YtejliecmdkmgiaaGS
set_option linter.unusedVariables false
set_option linter.unusedSimpArgs false
namespace Go.Proofs.Ytejliecmdkmgiaa
open Go.RowKit Go.Shelf
end Go.Proofs.Ytejliecmdkmgiaa
namespace Go.Proofs.Ytejliecmdkmgiaa
open laZ
end Go.Proofs.Ytejliecmdkmgiaa
namespace Go.Proofs.Ytejliecmdkmgiaa
open Go.RowKit Go.Shelf
structure ZBox (w : World) (b : Nat) (s : Bool) (v : Value) : Prop where
  m0 : w.cell? ⟨b, 0, none⟩ = some (.bool s)
  m1 : w.cell? ⟨b, 1, none⟩ = some v
  f0 : w.frozen? ⟨b, 0, none⟩ = false
  f1 : w.frozen? ⟨b, 1, none⟩ = false
section
variable {w w' w0 u : World} {b d q base : Nat} {s s' : Bool} {v v' x : Value} {z : Int} {am : Option Addr} {an ac : Nat}
theorem ZBox.below (h : ZBox w b s v) (hb : Below w.heap.size w w') : ZBox w' b s v := ⟨cell_stays hb h.m0, cell_stays hb h.m1, froz_stays hb h.m0 h.f0, froz_stays hb h.m1 h.f1⟩
theorem ZBox.grown (h : ZBox w b s v) (hg : w.grownBy w' (some d)) (hd : b ≠ d) : ZBox w' b s v :=
  have ne : some b ≠ some d := fun e => hd (Option.some.inj e)
  ⟨hg.cell h.m0 ne, hg.cell h.m1 ne, froz_grown hg hd h.m0 h.f0, froz_grown hg hd h.m1 h.f1⟩
theorem ZBox.new (w : World) (s : Bool) (v : Value) : ZBox (w.alloc (.cells #[.bool s, v] 49)) w.heap.size s v := by
  obtain ⟨h0, h1, k0, k1⟩ := two_cells w (.bool s) v 49
  exact ⟨h0, h1, k0, k1⟩
theorem ZBox.store (h : ZBox w b s v) : ZBox (stored2 w b (.bool s') v') b s' v' := by
  obtain ⟨n0, n1⟩ := two_own (x0 := .bool s') (x1 := v') h.m0 h.m1
  exact ⟨n0, n1, by unfold stored2; rw [World.frozen?_setCell, World.frozen?_setCell]; exact h.f0, by unfold stored2; rw [World.frozen?_setCell, World.frozen?_setCell]; exact h.f1⟩
end
end Go.Proofs.Ytejliecmdkmgiaa
