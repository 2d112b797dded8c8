/- The walks of mat.place with its closure, and of mat.Add. The walk of the law BareissProducts. -/
import Derived.Test.YtejliecmdkmgiaaGJ
set_option linter.unusedVariables false
set_option linter.unusedSimpArgs false
namespace Go.Proofs.Ytejliecmdkmgiaa
open Go.RowKit

end Go.Proofs.Ytejliecmdkmgiaa

namespace Go.Proofs.Ytejliecmdkmgiaa
open Go.RowKit

theorem boxes2M (w : World) (a0 a1 a2 b0 b1 b2 : Value) :
    let W := (w.alloc (.cells #[a0, a1, a2] 24)).alloc (.cells #[b0, b1, b2] 24)
    (W.cell? ⟨w.heap.size, 0, none⟩ = some a0 ∧ W.cell? ⟨w.heap.size, 1, none⟩ = some a1 ∧ W.cell? ⟨w.heap.size, 2, none⟩ = some a2) ∧
    (W.cell? ⟨w.heap.size + 1, 0, none⟩ = some b0 ∧ W.cell? ⟨w.heap.size + 1, 1, none⟩ = some b1 ∧ W.cell? ⟨w.heap.size + 1, 2, none⟩ = some b2) ∧ Below w.heap.size w W := by
  intro W
  obtain ⟨w1, h1⟩ : ∃ w1, w1 = w.alloc (.cells #[a0, a1, a2] 24) := ⟨_, rfl⟩
  have hW : W = w1.alloc (.cells #[b0, b1, b2] 24) := by rw [h1]
  have s1 : w1.heap.size = w.heap.size + 1 := by rw [h1]; simp
  have b1' : Below w.heap.size w w1 := by rw [h1]; exact bl_alloc _ _
  have b2' : Below w1.heap.size w1 W := by rw [hW]; exact bl_alloc _ _
  have k1 := three_cells w a0 a1 a2 24
  have k2 := three_cells w1 b0 b1 b2 24
  rw [← h1] at k1
  rw [← hW, s1] at k2
  clear_value W
  exact ⟨⟨cell_stays b2' (k1 0 _ rfl).1, cell_stays b2' (k1 1 _ rfl).1, cell_stays b2' (k1 2 _ rfl).1⟩, ⟨(k2 0 _ rfl).1, (k2 1 _ rfl).1, (k2 2 _ rfl).1⟩, below_via b1' b2'⟩

theorem mulE_zb {A B : Nat → Int} {R K C S T : Nat} (hK : K ≤ 64) (hA : ∀ q, q < R * K → ZB S (A q)) (hB : ∀ q, q < K * C → ZB T (B q)) : ∀ q, q < R * C → ZB (S + T + 1) (mulE A B K C q) := fun q hq => by
  obtain ⟨h1, h2⟩ := idx_at hq
  exact psum_zb hK h1 h2 hA hB (Nat.le_refl _)

end Go.Proofs.Ytejliecmdkmgiaa
