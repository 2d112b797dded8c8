/- The walks of mat.place with its closure, and of mat.Add. The walk of the law BareissProducts. -/
import Derived.Test.YtejliecmdkmgiaaGJ
set_option linter.unusedVariables false
set_option linter.unusedSimpArgs false
namespace Go.Proofs.Ytejliecmdkmgiaa
open Go.RowKit
theorem boxes4M (w : World) (a0 a1 a2 b0 b1 b2 f : Value) (t : TypeId) :
    let W := (((w.alloc (.cells #[a0, a1, a2] 24)).alloc (.cells #[b0, b1, b2] 24)).alloc (.cells #[f] t)).alloc (.cells #[.int .i64 0, .int .i64 0, .slice none 0 0] 24)
    (W.cell? ⟨w.heap.size, 0, none⟩ = some a0 ∧ W.cell? ⟨w.heap.size, 1, none⟩ = some a1 ∧ W.cell? ⟨w.heap.size, 2, none⟩ = some a2) ∧
    (W.cell? ⟨w.heap.size + 1, 0, none⟩ = some b0 ∧ W.cell? ⟨w.heap.size + 1, 1, none⟩ = some b1 ∧ W.cell? ⟨w.heap.size + 1, 2, none⟩ = some b2) ∧ W.cell? ⟨w.heap.size + 1 + 1, 0, none⟩ = some f ∧
    (∀ i y, [Value.int .i64 0, .int .i64 0, .slice none 0 0][i]? = some y → W.cell? ⟨w.heap.size + 1 + 1 + 1, i, none⟩ = some y ∧ W.frozen? ⟨w.heap.size + 1 + 1 + 1, i, none⟩ = false) ∧
    Below w.heap.size w W ∧ W.heap.size = w.heap.size + 4 := by
  intro W
  obtain ⟨w1, h1⟩ : ∃ w1, w1 = w.alloc (.cells #[a0, a1, a2] 24) := ⟨_, rfl⟩
  obtain ⟨w2, h2⟩ : ∃ w2, w2 = w1.alloc (.cells #[b0, b1, b2] 24) := ⟨_, rfl⟩
  obtain ⟨w3, h3⟩ : ∃ w3, w3 = w2.alloc (.cells #[f] t) := ⟨_, rfl⟩
  have hW : W = w3.alloc (.cells #[.int .i64 0, .int .i64 0, .slice none 0 0] 24) := by rw [h3, h2, h1]
  have s1 : w1.heap.size = w.heap.size + 1 := by rw [h1]; simp
  have s2 : w2.heap.size = w.heap.size + 1 + 1 := by rw [h2]; simp [s1]
  have s3 : w3.heap.size = w.heap.size + 1 + 1 + 1 := by rw [h3]; simp [s2]
  have b1' : Below w.heap.size w w1 := by rw [h1]; exact bl_alloc _ _
  have b2' : Below w1.heap.size w1 w2 := by rw [h2]; exact bl_alloc _ _
  have b3' : Below w2.heap.size w2 w3 := by rw [h3]; exact bl_alloc _ _
  have b4' : Below w3.heap.size w3 W := by rw [hW]; exact bl_alloc _ _
  have k1 := three_cells w a0 a1 a2 24
  have k2 := three_cells w1 b0 b1 b2 24
  have k3 := cell1_new w2 f t
  have k4 := three_cells w3 (.int .i64 0) (.int .i64 0) (.slice none 0 0) 24
  rw [← h1] at k1
  rw [← h2, s1] at k2
  rw [← h3, s2] at k3
  rw [← hW, s3] at k4
  have sW : W.heap.size = w.heap.size + 4 := by rw [hW]; simp [s3]
  clear_value W
  have b34 := below_via b3' b4'
  have b24 := below_via b2' b34
  exact ⟨⟨cell_stays b24 (k1 0 _ rfl).1, cell_stays b24 (k1 1 _ rfl).1, cell_stays b24 (k1 2 _ rfl).1⟩, ⟨cell_stays b34 (k2 0 _ rfl).1, cell_stays b34 (k2 1 _ rfl).1, cell_stays b34 (k2 2 _ rfl).1⟩, cell_stays b4' k3, k4, below_via b1' b24, sW⟩
end Go.Proofs.Ytejliecmdkmgiaa
namespace Go.Proofs.Ytejliecmdkmgiaa
open Go.RowKit
theorem cmpZ_self (a : Int) : cmpZ a a = 0 := by unfold cmpZ; rw [if_neg (by omega), if_neg (by omega)]
theorem zCmp_eq (x y : Value) (a : Int) (w : World) (hx : RdZ w x a) (hy : RdZ w y a) :
    Calls Try.prog 35 #[x, y] w fun e w' => e = .returned (.int .i64 0) ∧ Below w.heap.size w w' := by
  have h := zCmp_any x y a a w hx hy
  rw [cmpZ_self] at h
  exact h
theorem mulE_zb {A B : Nat → Int} {R K C S T : Nat} (hK : K ≤ 64) (hA : ∀ q, q < R * K → ZB S (A q)) (hB : ∀ q, q < K * C → ZB T (B q)) : ∀ q, q < R * C → ZB (S + T + 1) (mulE A B K C q) := fun q hq => by
  obtain ⟨h1, h2⟩ := idx_at hq
  exact psum_zb hK h1 h2 hA hB (Nat.le_refl _)
end Go.Proofs.Ytejliecmdkmgiaa
