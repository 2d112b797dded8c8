/- The walk of modp.Det. -/
import Derived.Test.YtdlpemmoobbgnaaReduce
import Derived.Test.YtdlpemmoobbgnaaResid
import Derived.Test.YtdlpemmoobbgnaaModp3
set_option linter.unusedVariables false
set_option linter.unusedSimpArgs false
namespace Go.Proofs.Ytdlpemmoobbgnaa
open Go.RowKit

/-- the grid of a's residues -/
def resG (p : Int) (K : Nat) (x : Nat → Raw) : Nat → Nat → Int := fun i j => resid (x (i * K + j)) p
def redS (p : Int) (m n : Nat) (G : Nat → Nat → Int) (cols : Nat) : RS := RS.run p m n ⟨G, [], 1 % p⟩ cols

/-- what Det answers of a square matrix of R rows -/
def detM (p : Int) (R : Nat) (x : Nat → Raw) : Int :=
  if (redS p R R (resG p R x) R).P.length < R then 0 else (redS p R R (resG p R x) R).d

theorem resid_bd (r : Raw) (p : Int) (hp : 1 ≤ p) : 0 ≤ resid r p ∧ resid r p < p := by
  unfold resid
  have := md.mod_bd r.mag p hp
  split <;> omega

theorem resG_res (p : Int) (hp : 1 ≤ p) (m n K : Nat) (x : Nat → Raw) : Res p m n (resG p K x) := fun _ _ _ _ => resid_bd _ p hp

theorem primeB_bd {p : Int} (h : primeB p = true) : 2 ≤ p ∧ p < 2147483648 := by
  unfold primeB at h
  simp only [Bool.and_eq_true, decide_eq_true_eq] at h
  have := isPB_ge _ h.2
  omega

def detE (r c : Int) (n : Nat) (p : Int) : Int := openE r c n p (r == c)
def detV (r c : Int) (n : Nat) (x : Nat → Raw) (p : Int) : Int := if detE r c n p = 0 then detM p r.toNat x else 0

theorem RdL.slice {w : World} {v : Value} {n : Nat} {x : Nat → Raw} (h : RdL w v n x) : ∃ a cap, v = .slice a n cap ∧ n ≤ 17592186044416 := by
  obtain ⟨a, cap, e, h1, h2, _⟩ := h
  exact ⟨a, cap, e, by omega⟩

set_option maxHeartbeats 2000000 in
set_option maxRecDepth 100000 in
theorem Det_any (r c : Int) (p : Int) (hp : 0 ≤ p) (s : Value) (n : Nat) (x : Nat → Raw) (w : World) (hr : RdL w s n x) :
    Calls Try.prog 18 #[.agg #[.int .i64 r, .int .i64 c, s], .int .u64 p] w fun e w' =>
      e = .returned (.tuple #[.int .u64 (detV r c n x p), .int .i64 (detE r c n p)]) ∧ Below w.heap.size w w' := by
  obtain ⟨a, cap, rfl, hn⟩ := hr.slice
  have HR := Lib.hid hr
  clear hr
  by_cases he : detE r c n p = 0
  · have hs : soundB r c n = true := by
      unfold detE openE at he; by_cases h : soundB r c n = true
      · exact h
      · rw [if_neg h] at he; omega
    have hrc : (r == c) = true := by
      unfold detE openE at he; rw [if_pos hs] at he
      by_cases h : (r == c) = true
      · exact h
      · rw [if_neg h] at he; omega
    have hpr : primeB p = true := by
      unfold detE openE at he; rw [if_pos hs, if_pos hrc] at he
      by_cases h : primeB p = true
      · exact h
      · rw [if_neg h] at he; omega
    obtain ⟨⟨s0, s1⟩, -, s2⟩ := soundB_yes hs
    obtain rfl : r = c := by simpa using hrc
    obtain ⟨p0, p1⟩ := primeB_bd hpr
    obtain ⟨R, rfl⟩ := Int.eq_ofNat_of_zero_le s0
    have hN : n = R * R := by exact_mod_cast s2
    have HV : Hid (detV R R n x p = detM p R x) := by show _ = _; unfold detV; rw [if_pos he, Int.toNat_natCast]
    have HE : Hid (openE R R n p true = 0) := by have := he; unfold detE at this; rw [hrc] at this; exact this
    have HE' := Lib.hid he
    have HN := Lib.hid hN
    clear he hs hpr s2 hN
    go_enter Try.func18, Try.ntmps18
    go_wp2_with (go_at_call 43; refine (open_any R R a n cap hn p hp true _).mono ?_; rw [HE.out]; rintro e w1 ⟨rfl, hb1⟩)
    have hx := fun o u (h : (w.alloc (.cells #[.int .i64 R, .int .i64 R, .slice a n cap] 34)).cell? ⟨w.heap.size, o, none⟩ = some u) => cell_stays hb1 h
    have x0 := hx 0 (.int .i64 R) (by go_simp)
    have x1 := hx 1 (.int .i64 R) (by go_simp)
    have x2 := hx 2 (.slice a n cap) (by go_simp)
    have hB1 : Below w.heap.size w w1 := ((Below.refl _ _).alloc (Nat.le_refl _) _).trans (hb1.mono (by simp))
    have hsz : w.heap.size < w1.heap.size := by have := hb1.size; simp at this; omega
    have hr1 := Lib.hid (HR.out.below hB1)
    clear hx hb1
    obtain ⟨S, hS⟩ : ∃ S, S = RS.run p R R ⟨resG p R x, [], 1 % p⟩ R := ⟨_, rfl⟩
    have HM : Hid (detM p R x = if S.P.length < R then 0 else S.d) := by rw [hS]; rfl
    have HS := Lib.hid hS
    clear hS
    have hszd : w.heap.size < w1.drew.heap.size := hsz
    by_cases hlt : S.P.length < R
    · have HM : Hid (detM p R x = 0) := HM.out.trans (if_pos hlt)
      go_region_with ((first
        | (go_at_call 45; refine (residues_any p (by omega) p1 R R n (by omega) (by omega) HN.out _ x _ (hr1.out.below (Below.refl _ _).drew)).mono ?_; rintro e w2 ⟨gb, B, rfl, hp2, hb2⟩; have y0 := cell_stays (w := w1.drew) hb2 x0; have y1 := cell_stays (w := w1.drew) hb2 x1; have y2 := cell_stays (w := w1.drew) hb2 x2)
        | (go_at_call 44; refine (reduce_any p p0 p1 R R R R _ gb 0 B _ _ (resG p R x) (by omega) (by omega) (Nat.le_refl _) (resG_res p (by omega) R R R x) _ (hp2.grid (by omega)) hb2.size).mono ?_; rw [← HS.out]; rintro e w3 ⟨B', O', C', pv, rfl, hg3, ho3, hb3⟩; obtain ⟨pa, pc, rfl⟩ := own_slice ho3)))
      all_goals
        have z0 := (hb3.cell (p := ⟨w.heap.size, 0, none⟩) hszd).trans y0
        have hB3 : Below w.heap.size w w3 := ((hB1.drew).trans (hb2.mono (by omega))).trans (hb3.mono (by omega))
        clear hg3 ho3 hp2
        go_wp2_with fail
        go_ret2
        exact ⟨ret_ue (by rw [HV.out, HM.out]) HE'.out.symm, hB3⟩
    · have HM : Hid (detM p R x = S.d) := HM.out.trans (if_neg hlt)
      go_region_with ((first
        | (go_at_call 45; refine (residues_any p (by omega) p1 R R n (by omega) (by omega) HN.out _ x _ (hr1.out.below (Below.refl _ _).drew)).mono ?_; rintro e w2 ⟨gb, B, rfl, hp2, hb2⟩; have y0 := cell_stays (w := w1.drew) hb2 x0; have y1 := cell_stays (w := w1.drew) hb2 x1; have y2 := cell_stays (w := w1.drew) hb2 x2)
        | (go_at_call 44; refine (reduce_any p p0 p1 R R R R _ gb 0 B _ _ (resG p R x) (by omega) (by omega) (Nat.le_refl _) (resG_res p (by omega) R R R x) _ (hp2.grid (by omega)) hb2.size).mono ?_; rw [← HS.out]; rintro e w3 ⟨B', O', C', pv, rfl, hg3, ho3, hb3⟩; obtain ⟨pa, pc, rfl⟩ := own_slice ho3)))
      all_goals
        have z0 := (hb3.cell (p := ⟨w.heap.size, 0, none⟩) hszd).trans y0
        have hB3 : Below w.heap.size w w3 := ((hB1.drew).trans (hb2.mono (by omega))).trans (hb3.mono (by omega))
        clear hg3 ho3 hp2
        go_wp2_with fail
        go_ret2
        exact ⟨ret_ue (by rw [HV.out, HM.out]) HE'.out.symm, hB3⟩
  · have HE : Hid (openE r c n p (r == c) = detE r c n p) := rfl
    have HV : Hid (detV r c n x p = 0) := if_neg he
    have hne : (detE r c n p != 0) = true := by rw [bne_iff_ne]; exact he
    obtain ⟨E, hE⟩ : ∃ E, E = detE r c n p := ⟨_, rfl⟩
    rw [← hE] at hne ⊢
    have hE' : openE r c n p (r == c) = E := hE.symm
    have HE' := Lib.hid hE'
    clear he hE hE'
    go_enter Try.func18, Try.ntmps18
    go_wp2_with (go_at_call 43; refine (open_any r c a n cap hn p hp (r == c) _).mono ?_; rw [HE'.out]; rintro e w1 ⟨rfl, hb1⟩)
    go_ret2
    exact ⟨ret_ue HV.out.symm rfl, ((Below.refl _ _).alloc (Nat.le_refl _) _).trans (hb1.mono (by simp))⟩

end Go.Proofs.Ytdlpemmoobbgnaa
