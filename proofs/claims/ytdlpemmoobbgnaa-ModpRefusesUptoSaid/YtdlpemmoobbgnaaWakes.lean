/- The law's two fixed calls. -/
import Derived.Test.YtdlpemmoobbgnaaDetW
set_option linter.unusedVariables false
set_option linter.unusedSimpArgs false
namespace Go.Proofs.Ytdlpemmoobbgnaa
open Go.RowKit

theorem of_any (n : Int) (w : World) :
    Calls Try.prog 37 #[.int .u64 n] w fun e w' => ∃ b, e = .returned (.agg #[.bool false, .slice (some ⟨b, 0, none⟩) 1 1]) ∧ w'.cell? ⟨b, 0, none⟩ = some (.int .u64 n) ∧ Below w.heap.size w w' := by
  go_enter Try.func37, Try.ntmps37
  go_wp2_with fail
  refine bodyPost_ret (v := .agg #[.bool false, .slice (some ⟨w.heap.size + 1, 0, none⟩) 1 1]) (by simp [results, Try.results37, go_sem]) rfl ⟨w.heap.size + 1, rfl, ?_, ?_⟩
  · go_simp
  · exact ((Below.refl _ _).alloc (Nat.le_refl _) _).alloc (by simp) _

theorem one_int (w2 : World) (b : Nat) (n : Int) (t : TypeId) (h0 : 0 ≤ n) (h1 : n ≤ 18446744073709551615) (hc : w2.cell? ⟨b, 0, none⟩ = some (.int .u64 n)) :
    RdL (w2.alloc (.cells #[.bool false, .slice (some ⟨b, 0, none⟩) 1 1] t)) (.slice (some ⟨w2.heap.size, 0, none⟩) 1 1) 1 (fun _ => ⟨false, 1, fun _ => n⟩) := by
  refine ⟨_, 1, rfl, Nat.le_refl _, by omega, fun _ => ⟨w2.heap.size, 0, rfl, fun i hi => ?_⟩⟩
  obtain rfl : i = 0 := by omega
  have hn := heap_alloc_new w2 (.cells #[.bool false, .slice (some ⟨b, 0, none⟩) 1 1] t)
  have hb : Below w2.heap.size w2 (w2.alloc (.cells #[.bool false, .slice (some ⟨b, 0, none⟩) 1 1] t)) := (Below.refl _ _).alloc (Nat.le_refl _) _
  refine ⟨.slice (some ⟨b, 0, none⟩) 1 1, ?_, ?_, ⟨_, 1, rfl, Nat.le_refl _, (by decide : (1 : Nat) ≤ 17592186044416), fun _ => ⟨b, 0, rfl, fun j hj => ?_⟩⟩, fun _ _ => ⟨h0, h1⟩⟩
  · rw [cell_of_row _ _ _ _ _ _ hn]; rfl
  · rw [cell_of_row _ _ _ _ _ _ hn]; rfl
  · have hj : j < 1 := hj
    obtain rfl : j = 0 := by omega
    exact cell_stays hb hc

def nine : Nat → Raw := fun _ => ⟨false, 1, fun _ => 9⟩

theorem wake1 : belowU 10 = 7 := by decide +kernel
theorem wake2 : belowE 10 = 0 := by decide +kernel
theorem wake3 : detE 1 1 1 7 = 0 := by decide +kernel
theorem wake4 : detV 1 1 1 nine 7 = 2 := by decide +kernel

set_option maxHeartbeats 400000 in
theorem wakes_any (w : World) : Calls Try.prog 11 #[] w fun e w' => e = .returned (.bool true) ∧ Below w.heap.size w w' := by
  go_enter Try.func11, Try.ntmps11
  go_wp2_with (first | (go_at_call 13; refine (Below_any 10 (by omega) _).mono ?_; rw [wake1, wake2]; rintro e w1 ⟨rfl, rfl⟩) | (go_at_call 37; refine (of_any 9 _).mono ?_; rintro e w2 ⟨b, rfl, hc2, hb2⟩))
  have hr := one_int w2 b 9 56 (by omega) (by omega) hc2
  refine (Det_any 1 1 7 (by omega) _ 1 nine _ hr).mono ?_
  rw [wake3, wake4]
  rintro e w3 ⟨rfl, hb3⟩
  go_wp2_with fail
  go_ret
  exact ⟨rfl, (hb2.trans ((Below.refl _ _).alloc hb2.size _)).trans (hb3.mono (by have := hb2.size; simp; omega))⟩
end Go.Proofs.Ytdlpemmoobbgnaa
