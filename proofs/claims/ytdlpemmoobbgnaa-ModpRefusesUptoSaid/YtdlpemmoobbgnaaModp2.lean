/- The walk of modp's field: take. -/
import Derived.Test.YtdlpemmoobbgnaaModp1
import Derived.BigRegion
set_option linter.unusedVariables false
set_option linter.unusedSimpArgs false
namespace Go.Proofs.Ytdlpemmoobbgnaa
open Go.RowKit

set_option maxHeartbeats 1000000 in
theorem take_any (p x : Int) (h1 : 1 ≤ p) (h2 : p < 2147483648) (x0 : 0 ≤ x) (x1 : x < p) (b o cap b' o' cap' m n s : Nat) (f g : Nat → Int) (hn : n ≤ 17592186044416) (hm : m ≤ 17592186044416) (hnm : n ≤ m) (hs : s ≤ n) (hbb : b ≠ b')
    (hf : ∀ i, i < n → 0 ≤ f i ∧ f i < p) (hg : ∀ i, i < n → 0 ≤ g i ∧ g i < p) (w : World) (hr : RowAt .u64 w b o m f) (hr' : RowAt .u64 w b' o' n g) :
    Calls Try.prog 56 #[.int .u64 p, .slice (some ⟨b, o, none⟩) m cap, .slice (some ⟨b', o', none⟩) n cap', .int .u64 x, .int .i64 s] w fun e w' =>
      e = .returned (.tuple #[]) ∧ RowAt .u64 w' b o m (fun i => if s ≤ i ∧ i < n then (f i + g i * (p - x)) % p else f i) ∧ w.grownBy w' (some b) := by
  have HF := Lib.hid hf
  have HG := Lib.hid hg
  clear hf hg
  by_cases hx : x = 0
  · have hxb : (x == 0) = true := beq_iff_eq.2 hx
    have HX := Lib.hid hx
    clear hx
    go_enter Try.func56, Try.ntmps56
    go_wp2_with fail
    refine bodyPost_ret (results_none rfl _ _ _) rfl ?_
    refine ⟨rfl, hr.congr fun i hi => ?_, gb_refl _ _⟩
    by_cases e : s ≤ i ∧ i < n
    · rw [if_pos e]
      obtain ⟨a1, a2⟩ := HF.out i e.2
      rw [HX.out, Int.sub_zero, Int.add_mul_emod_self_right, Int.emod_eq_of_lt a1 a2]
    · rw [if_neg e]
  have hxb : (x == 0) = false := beq_eq_false_iff_ne.2 hx
  have HX := Lib.hid hx
  clear hx
  go_enter Try.func56, Try.ntmps56
  go_wp2_with fail
  go_loopw [11] (fun i wr => ∃ j : Nat, s ≤ j ∧ j ≤ n ∧ i = .int .i64 j ∧ RowAt .u64 wr b o m (fun i => if s ≤ i ∧ i < j then (f i + g i * (p - x)) % p else f i) ∧ RowAt .u64 wr b' o' n g ∧ w.grownBy wr (some b))
    (fun i _ => n - (intOf i).toNat)
  case atStart => exact ⟨s, Nat.le_refl _, hs, rfl, hr.congr fun i _ => by rw [if_neg (by omega)], hr', gb_refl _ _⟩
  case round =>
    obtain ⟨j, j0, j1, rfl, hj, hj', hg⟩ := hrel
    by_cases hjn : j < n
    · obtain ⟨f0, f1⟩ := HF.out j hjn
      obtain ⟨g0, g1⟩ := HG.out j hjn
      obtain ⟨y, hy⟩ : ∃ y, y = f j := ⟨_, rfl⟩
      obtain ⟨z, hz⟩ : ∃ z, z = g j := ⟨_, rfl⟩
      obtain ⟨c1, c2⟩ := hj.get (i := j) (by omega) (x := y) ((if_neg (by omega)).trans hy.symm)
      obtain ⟨d1, d2⟩ := hj'.get hjn (x := z) hz.symm
      rw [← hy] at f0 f1
      rw [← hz] at g0 g1
      obtain ⟨q1, q2⟩ := md.prod_bd z (p - x) p g0 g1 (by omega) (by have := HX.out; omega) h2
      have HY := Lib.hid hy
      have HZ := Lib.hid hz
      have HJ := Lib.hid hj
      have HJ' := Lib.hid hj'
      have hjm : j < m := by omega
      clear hy hj hz hj'
      go_wp2_with fail
      go_region
      go_wp2_with fail
      go_roundw
      case rel =>
        refine ⟨j + 1, by omega, by omega, by go_num, ((HJ.out.set hjm _).block rfl).congr fun i hi => ?_, (HJ'.out.other hbb _).block rfl, gb_trans hg (gb_trans (gb_set _ _ _) (gb_drew _ _))⟩
        by_cases e : i = j
        · rw [if_pos e, if_pos (by omega), e, HY.out, HZ.out]
        · rw [if_neg e]
          by_cases e2 : s ≤ i ∧ i < j
          · rw [if_pos e2, if_pos (by omega)]
          · rw [if_neg e2, if_neg (by omega)]
      case measure => simp [intOf]; omega
    · have HJ := Lib.hid hj
      clear hj
      go_wp2_with fail
      go_end0
      refine ⟨rfl, HJ.out.congr fun i hi => ?_, hg⟩
      by_cases e2 : s ≤ i ∧ i < n
      · rw [if_pos e2, if_pos (by omega)]
      · rw [if_neg e2, if_neg (by omega)]

end Go.Proofs.Ytdlpemmoobbgnaa
