/- The walk of the law's plays where each call with a prime is refused; modp.Solve refused. The walk of the law's refuses. -/
import Derived.Test.YtdlpemmoobbgnaaGG
set_option linter.unusedVariables false
set_option linter.unusedSimpArgs false
namespace Go.Proofs.Ytdlpemmoobbgnaa
open Go.RowKit

/-- two boxes of eight cells beside the parameter's -/
theorem opBox (w : World) (l : List Value) (t u : TypeId) :
    let Z : List Value := [.int .i64 0, .int .i64 0, .slice none 0 0, .slice none 0 0, .int .u64 0, .int .i64 0, .bool false, .int .i64 0]
    let W := ((w.alloc (.cells l.toArray t)).alloc (.cells Z.toArray u)).alloc (.cells Z.toArray u)
    (∀ i y, l[i]? = some y → W.cell? ⟨w.heap.size, i, none⟩ = some y) ∧ (∀ i y, Z[i]? = some y → W.cell? ⟨w.heap.size + 1, i, none⟩ = some y ∧ W.frozen? ⟨w.heap.size + 1, i, none⟩ = false) ∧
      (∀ i y, Z[i]? = some y → W.cell? ⟨w.heap.size + 1 + 1, i, none⟩ = some y ∧ W.frozen? ⟨w.heap.size + 1 + 1, i, none⟩ = false) ∧ Below w.heap.size w W ∧ W.heap.size = w.heap.size + 3 := by
  intro Z W
  obtain ⟨w1, h1⟩ : ∃ w1, w1 = w.alloc (.cells l.toArray t) := ⟨_, rfl⟩
  obtain ⟨w2, h2⟩ : ∃ w2, w2 = w1.alloc (.cells Z.toArray u) := ⟨_, rfl⟩
  have hW : W = w2.alloc (.cells Z.toArray u) := by rw [h2, h1]
  have s1 : w1.heap.size = w.heap.size + 1 := by rw [h1]; simp
  have s2 : w2.heap.size = w.heap.size + 1 + 1 := by rw [h2]; simp [s1]
  have b1 : Below w.heap.size w w1 := by rw [h1]; exact (Below.refl _ _).alloc (Nat.le_refl _) _
  have b2 : Below w1.heap.size w1 w2 := by rw [h2]; exact (Below.refl _ _).alloc (Nat.le_refl _) _
  have b3 : Below w2.heap.size w2 W := by rw [hW]; exact (Below.refl _ _).alloc (Nat.le_refl _) _
  have k1 := cellsOf w l t
  have k2 := cellsOf w1 Z u
  have k3 := cellsOf w2 Z u
  rw [← h1] at k1
  rw [← h2, s1] at k2
  rw [← hW, s2] at k3
  have sW : W.heap.size = w.heap.size + 3 := by rw [hW]; simp [s2]
  clear_value W Z
  exact ⟨fun i y h => cell_stays b3 (cell_stays b2 (k1 i y h).1), fun i y h => ⟨cell_stays b3 (k2 i y h).1, froz_stays b3 (k2 i y h).1 (k2 i y h).2⟩, fun i y h => k3 i y h,
    b1.trans ((b2.mono (by omega)).trans (b3.mono (by omega))), sW⟩

-- BY gen_s4.py FROM HERE ON

end Go.Proofs.Ytdlpemmoobbgnaa

namespace Go.Proofs.Ytdlpemmoobbgnaa
open Go.RowKit

end Go.Proofs.Ytdlpemmoobbgnaa
