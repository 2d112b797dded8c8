/- Fresh lists that stay while memory beside them is written; what the calls answer, over any such reading. The contracts of modp's calls and the reference's, with the same answers. The walk of the law's plays, kind by kind, from the contract of the call. The walk of the law's wants, kind by kind, from the contract of the call. A script of calls as an argument, opened; the bounds come of the form's own reach (each slice that is read weighs at most 2^47 bytes). The law's right and ModpAll: every call answers what the reference answers. -/
import Derived.Test.YtdlpemmoobbgnaaGP
import Derived.Test.YtdlpemmoobbgnaaGI
import Derived.Test.YtdlpemmoobbgnaaGO
import Derived.Test.YtdlpemmoobbgnaaGQ
import Derived.Test.YtdlpemmoobbgnaaGY
import Derived.Test.YtdlpemmoobbgnaaGH
import Derived.SizedLaws
set_option linter.unusedVariables false
set_option linter.unusedSimpArgs false
namespace Go.Proofs.Ytdlpemmoobbgnaa
open Go.RowKit

/-- memory is made, and written below base -/
inductive Rch (base : Nat) (w0 : World) : World → Prop
  | refl : Rch base w0 w0
  | set {w1 : World} {a : Addr} (v : Value) : Rch base w0 w1 → a.block < base → Rch base w0 (w1.setCell a v)
  | fresh {w1 w2 : World} : Rch base w0 w1 → Below w1.heap.size w1 w2 → Rch base w0 w2
theorem Rch.trans {base : Nat} {w w1 w2 : World} (h : Rch base w w1) (g : Rch base w1 w2) : Rch base w w2 := by
  induction g with
  | refl => exact h
  | set v _ ha ih => exact Rch.set v ih ha
  | fresh _ hb ih => exact Rch.fresh ih hb
theorem Rch.mono {base base' : Nat} {w w1 : World} (h : Rch base w w1) (hb : base ≤ base') : Rch base' w w1 := by
  induction h with
  | refl => exact Rch.refl
  | set v _ ha ih => exact Rch.set v ih (Nat.lt_of_lt_of_le ha hb)
  | fresh _ hc ih => exact Rch.fresh ih hc

/-- a list that reads the same as long as memory from base on stays -/
def FrL (w : World) (base : Nat) (v : Value) (n : Nat) (X : Nat → Raw) : Prop := ∀ w', Rch base w w' → RdL w' v n X
section
variable {w w' : World} {base base' n : Nat} {v : Value} {X : Nat → Raw}
theorem FrL.read (h : FrL w base v n X) : RdL w v n X := h w Rch.refl
theorem FrL.set (h : FrL w base v n X) {a : Addr} (ha : a.block < base) (y : Value) : FrL (w.setCell a y) base v n X := fun w' hr => h w' ((Rch.set y Rch.refl ha).trans hr)
theorem FrL.below (h : FrL w base v n X) (hb : Below w.heap.size w w') : FrL w' base v n X := fun w2 hr => h w2 ((Rch.fresh Rch.refl hb).trans hr)
theorem FrL.mono (h : FrL w base v n X) (hb : base' ≤ base) : FrL w base' v n X := fun w' hr => h w' (hr.mono hb)
theorem FrL.slice (h : FrL w base v n X) : ∃ a c, v = .slice a n c := by
  obtain ⟨a, c, e, -⟩ := h.read.slice
  exact ⟨a, c, e⟩
theorem FrL.nil : FrL w base (.slice none 0 0) 0 X := fun _ _ => ⟨none, 0, rfl, Nat.le_refl _, by omega, fun h => absurd h (by omega)⟩
theorem FrL.own (h : OwnF w base v n X) (hn : n ≤ 4398046511104) : FrL w base v n X := fun w' hr => by
  have : OwnF w' base v n X := by
    induction hr with
    | refl => exact h
    | set y _ ha ih => exact ih.set ha y
    | fresh _ hb ih => exact ih.below hb
  exact this.read hn
theorem FrL.ls {lb : Nat} {y : Nat → Int} {M : Nat → Value} (h : LS 56 22 w base base lb n n (fun q => small (y q)) M) (hn : n ≤ 4096) (hy : ∀ q, q < n → 0 ≤ y q ∧ y q < 2147483648) : FrL w base (.slice (some ⟨lb, 0, none⟩) n n) n (fun q => small (y q)) := fun w' hr => by
  have : LS 56 22 w' base base lb n n (fun q => small (y q)) M := by
    induction hr with
    | refl => exact h
    | set v _ ha ih => exact ih.set ha (by have := ih.own; omega) v
    | fresh _ hb ih => exact ih.below hb
  exact small_read this hn hy
end

/-- a reading of a fresh list that stays while memory below base is written and new memory is made -/
structure KeepQ (Q : World → Nat → Value → Nat → (Nat → Raw) → Prop) : Prop where
  set : ∀ {w : World} {base : Nat} {v : Value} {n : Nat} {X : Nat → Raw} {a : Addr}, Q w base v n X → a.block < base → ∀ y, Q (w.setCell a y) base v n X
  below : ∀ {w w' : World} {base : Nat} {v : Value} {n : Nat} {X : Nat → Raw}, Q w base v n X → Below w.heap.size w w' → Q w' base v n X
  mono : ∀ {w : World} {base base' : Nat} {v : Value} {n : Nat} {X : Nat → Raw}, Q w base v n X → base' ≤ base → Q w base' v n X
  nil : ∀ {w : World} {base : Nat} {X : Nat → Raw}, Q w base (.slice none 0 0) 0 X
  slice : ∀ {w : World} {base : Nat} {v : Value} {n : Nat} {X : Nat → Raw}, Q w base v n X → ∃ a c, v = .slice a n c
theorem FrL.keep : KeepQ FrL := ⟨fun h ha y => h.set ha y, fun h hb => h.below hb, fun h hb => h.mono hb, FrL.nil, fun h => h.slice⟩

/-- a matrix and an error are answered -/
def MatA (Q : World → Nat → Value → Nat → (Nat → Raw) → Prop) (rr cc : Int) (nn : Nat) (X : Nat → Raw) (E : Int) (base : Nat) (e : Ending) (w' : World) : Prop := ∃ s', e = .returned (.tuple #[.agg #[.int .i64 rr, .int .i64 cc, s'], .int .i64 E]) ∧ Q w' base s' nn X
/-- a list and an error are answered -/
def LstA (Q : World → Nat → Value → Nat → (Nat → Raw) → Prop) (nn : Nat) (X : Nat → Raw) (E : Int) (base : Nat) (e : Ending) (w' : World) : Prop := ∃ s', e = .returned (.tuple #[s', .int .i64 E]) ∧ Q w' base s' nn X

end Go.Proofs.Ytdlpemmoobbgnaa

namespace Go.Proofs.Ytdlpemmoobbgnaa
open Go.RowKit

theorem AnsM.mat {w' : World} {base : Nat} {v : Value} {m n : Nat} {G : Nat → Nat → Int} (h : AnsM w' base v 0 m n G) (hm : m ≤ 64) (hn : n ≤ 64) (hG : ∀ i j, i < m → j < n → 0 ≤ G i j ∧ G i j < 2147483648) :
    MatA FrL m n (m * n) (fun q => small (G (q / n) (q % n))) 0 base (.returned (.tuple #[v, .int .i64 0])) w' := by
  obtain ⟨lb, M, rfl, hl⟩ := h.1 rfl
  exact ⟨_, rfl, FrL.ls hl (Nat.mul_le_mul hm hn) fun q hq => by
    have h := mul_idx (K := 0) hq
    exact hG _ _ h.1 h.2⟩
theorem AnsM.mat0 {w' : World} {base : Nat} {v : Value} {m n : Nat} {G : Nat → Nat → Int} {E : Int} (h : AnsM w' base v E m n G) (hE : E ≠ 0) : MatA FrL 0 0 0 (fun _ => small 0) E base (.returned (.tuple #[v, .int .i64 E])) w' := by
  rw [h.2 hE]
  exact ⟨_, rfl, FrL.nil⟩

section
variable (r c p : Int) (hp : 0 ≤ p) (s : Value) (n : Nat) (x : Nat → Raw) (w : World) (hr : RdL w s n x)
include hp hr

theorem same_Reduce : ∃ rr cc nn X E, (∀ W, Below w.heap.size w W → Calls Try.prog 35 #[.agg #[.int .i64 r, .int .i64 c, s], .int .u64 p] W fun e w' => MatA FrL rr cc nn X E W.heap.size e w' ∧ Below W.heap.size W w') ∧
    ∀ W, Below w.heap.size w W → Calls Try.prog 84 #[.agg #[.int .i64 r, .int .i64 c, s], .int .u64 p] W fun e w' => MatA FrL rr cc nn X E W.heap.size e w' ∧ Below W.heap.size W w' := by
  by_cases he : openE r c n p true = 0
  · obtain ⟨R, C, rfl, rfl, hR, hC, rfl, p0, p1, -, hpr⟩ := openE_ok he
    refine ⟨R, C, R * C, fun t => small (resG p C x (t / C) (t % C)), 0, fun W hW => (Reduce_any R C p hp s _ x W (hr.below hW)).mono ?_, fun W hW => (Reduce12_good R C p hR hC hpr s x W (hr.below hW)).mono ?_⟩
    · rw [he, Int.toNat_natCast, Int.toNat_natCast]
      rintro e w' ⟨v, rfl, h, hb⟩
      exact ⟨h.mat hR hC fun i j _ _ => by have := resid_bd (x (i * C + j)) p (by omega); unfold resG; omega, hb⟩
    · rintro e w' ⟨v, rfl, h, hb⟩
      exact ⟨⟨_, rfl, FrL.own h (by have := Nat.mul_le_mul hR hC; omega)⟩, hb⟩
  · refine ⟨0, 0, 0, fun _ => small 0, openE r c n p true, fun W hW => (Reduce_any r c p hp s n x W (hr.below hW)).mono ?_, fun W hW => (Reduce12_bad r c p hp s n x W (hr.below hW) he).mono ?_⟩
    · rintro e w' ⟨v, rfl, h, hb⟩; exact ⟨h.mat0 he, hb⟩
    · rintro e w' ⟨rfl, hb⟩; exact ⟨⟨_, rfl, FrL.nil⟩, hb⟩

theorem same_Echelon : ∃ rr cc nn X E, (∀ W, Below w.heap.size w W → Calls Try.prog 25 #[.agg #[.int .i64 r, .int .i64 c, s], .int .u64 p] W fun e w' => MatA FrL rr cc nn X E W.heap.size e w' ∧ Below W.heap.size W w') ∧
    ∀ W, Below w.heap.size w W → Calls Try.prog 87 #[.agg #[.int .i64 r, .int .i64 c, s], .int .u64 p] W fun e w' => MatA FrL rr cc nn X E W.heap.size e w' ∧ Below W.heap.size W w' := by
  by_cases he : openE r c n p true = 0
  · obtain ⟨R, C, rfl, rfl, hR, hC, rfl, p0, p1, -, hpr⟩ := openE_ok he
    refine ⟨R, C, R * C, fun t => small ((redS p R C (resG p C x) C).G (t / C) (t % C)), 0, fun W hW => (Echelon_any R C p hp s _ x W (hr.below hW)).mono ?_, fun W hW => (Echelon12_good R C p hR hC hpr s x W (hr.below hW)).mono ?_⟩
    · rw [he, Int.toNat_natCast, Int.toNat_natCast]
      rintro e w' ⟨v, rfl, h, hb⟩
      exact ⟨h.mat hR hC fun i j hi hj => by have := redS_res p0 (resG_res p (by omega) R C C x) C i j hi hj; omega, hb⟩
    · rintro e w' ⟨v, rfl, h, hb⟩
      exact ⟨⟨_, rfl, FrL.own h (by have := Nat.mul_le_mul hR hC; omega)⟩, hb⟩
  · refine ⟨0, 0, 0, fun _ => small 0, openE r c n p true, fun W hW => (Echelon_any r c p hp s n x W (hr.below hW)).mono ?_, fun W hW => (Echelon12_bad r c p hp s n x W (hr.below hW) he).mono ?_⟩
    · rintro e w' ⟨v, rfl, h, hb⟩; exact ⟨h.mat0 he, hb⟩
    · rintro e w' ⟨rfl, hb⟩; exact ⟨⟨_, rfl, FrL.nil⟩, hb⟩

theorem same_Kernel : ∃ rr cc nn X E, (∀ W, Below w.heap.size w W → Calls Try.prog 26 #[.agg #[.int .i64 r, .int .i64 c, s], .int .u64 p] W fun e w' => MatA FrL rr cc nn X E W.heap.size e w' ∧ Below W.heap.size W w') ∧
    ∀ W, Below w.heap.size w W → Calls Try.prog 89 #[.agg #[.int .i64 r, .int .i64 c, s], .int .u64 p] W fun e w' => MatA FrL rr cc nn X E W.heap.size e w' ∧ Below W.heap.size W w' := by
  by_cases he : openE r c n p true = 0
  · obtain ⟨R, C, rfl, rfl, hR, hC, rfl, p0, p1, -, hpr⟩ := openE_ok he
    refine ⟨(R - kerR p R C x : Nat), R, (R - kerR p R C x) * R, fun t => small ((kerS p R C x).G (t / R) (t % R)), 0, fun W hW => (Kernel_any R C p hp s _ x W (hr.below hW)).mono ?_, fun W hW => (Kernel12_good R C p hR hC hpr s x W (hr.below hW)).mono ?_⟩
    · rw [he, Int.toNat_natCast, Int.toNat_natCast]
      rintro e w' ⟨v, rfl, h, hb⟩
      exact ⟨h.mat (by omega) hR fun i j hi hj => by have := kerS_res p p0 R C x i j hi hj; omega, hb⟩
    · rintro e w' ⟨v, rfl, h, hb⟩
      exact ⟨⟨_, rfl, FrL.own h (by have := Nat.mul_le_mul (show R - kerR p R C x ≤ 64 by omega) hR; omega)⟩, hb⟩
  · refine ⟨0, 0, 0, fun _ => small 0, openE r c n p true, fun W hW => (Kernel_any r c p hp s n x W (hr.below hW)).mono ?_, fun W hW => (Kernel12_bad r c p hp s n x W (hr.below hW) he).mono ?_⟩
    · rintro e w' ⟨v, rfl, h, hb⟩; exact ⟨h.mat0 he, hb⟩
    · rintro e w' ⟨rfl, hb⟩; exact ⟨⟨_, rfl, FrL.nil⟩, hb⟩

omit hp hr in
theorem fit_sq : (!(true && (r != c))) = (r == c) := by
  by_cases h : r = c
  · simp [h]
  · have h1 : (r == c) = false := beq_eq_false_iff_ne.2 h
    rw [bne, h1]; rfl

theorem same_Inverse : ∃ rr cc nn X E, (∀ W, Below w.heap.size w W → Calls Try.prog 20 #[.agg #[.int .i64 r, .int .i64 c, s], .int .u64 p] W fun e w' => MatA FrL rr cc nn X E W.heap.size e w' ∧ Below W.heap.size W w') ∧
    ∀ W, Below w.heap.size w W → Calls Try.prog 88 #[.agg #[.int .i64 r, .int .i64 c, s], .int .u64 p] W fun e w' => MatA FrL rr cc nn X E W.heap.size e w' ∧ Below W.heap.size W w' := by
  by_cases he : openE r c n p (r == c) = 0
  · obtain ⟨R, C, rfl, rfl, hR, hC, rfl, p0, p1, hrc, hpr⟩ := openE_ok he
    obtain rfl : R = C := by have : (R : Int) = C := by simpa using hrc
                             omega
    have hI : invE R R (R * R) x p = if kerR p R R x < R then 6 else 0 := by unfold invE; rw [if_pos he, Int.toNat_natCast]; rfl
    by_cases hlt : kerR p R R x < R
    · rw [if_pos hlt] at hI
      refine ⟨0, 0, 0, fun _ => small 0, 6, fun W hW => (Inverse_any R R p hp s _ x W (hr.below hW)).mono ?_, fun W hW => (Inverse12_good R p hR hpr s x W (hr.below hW)).mono ?_⟩
      · rw [hI]
        rintro e w' ⟨v, rfl, h, hb⟩; exact ⟨h.mat0 (by decide), hb⟩
      · rw [if_pos hlt]
        rintro e w' ⟨v, rfl, h1, -, hb⟩
        rw [h1 hlt]
        exact ⟨⟨_, rfl, FrL.nil⟩, hb⟩
    · rw [if_neg hlt] at hI
      refine ⟨R, R, R * R, fun t => small ((besS p R R x).G (t / R) (R + t % R)), 0, fun W hW => (Inverse_any R R p hp s _ x W (hr.below hW)).mono ?_, fun W hW => (Inverse12_good R p hR hpr s x W (hr.below hW)).mono ?_⟩
      · rw [hI, Int.toNat_natCast]
        rintro e w' ⟨v, rfl, h, hb⟩
        exact ⟨h.mat hR hR fun i j hi hj => by have := besS_res p p0 R R x i (R + j) hi (by omega); omega, hb⟩
      · rw [if_neg hlt]
        rintro e w' ⟨v, rfl, -, h2, hb⟩
        obtain ⟨s', rfl, h⟩ := h2 hlt
        exact ⟨⟨_, rfl, FrL.own h (by have := Nat.mul_le_mul hR hR; omega)⟩, hb⟩
  · have hi : invE r c n x p = openE r c n p (r == c) := if_neg he
    refine ⟨0, 0, 0, fun _ => small 0, openE r c n p (r == c), fun W hW => (Inverse_any r c p hp s n x W (hr.below hW)).mono ?_, fun W hW => (Inverse12_bad r c p hp s n x W (hr.below hW) (by rw [fit_sq]; exact he)).mono ?_⟩
    · rw [hi]
      rintro e w' ⟨v, rfl, h, hb⟩; exact ⟨h.mat0 he, hb⟩
    · rw [fit_sq]
      rintro e w' ⟨rfl, hb⟩; exact ⟨⟨_, rfl, FrL.nil⟩, hb⟩

theorem same_Det : ∃ D E : Int, (∀ W, Below w.heap.size w W → Calls Try.prog 18 #[.agg #[.int .i64 r, .int .i64 c, s], .int .u64 p] W fun e w' => e = .returned (.tuple #[.int .u64 D, .int .i64 E]) ∧ Below W.heap.size W w') ∧
    ∀ W, Below w.heap.size w W → Calls Try.prog 85 #[.agg #[.int .i64 r, .int .i64 c, s], .int .u64 p] W fun e w' => e = .returned (.tuple #[.int .u64 D, .int .i64 E]) ∧ Below W.heap.size W w' := by
  refine ⟨detV r c n x p, detE r c n p, fun W hW => Det_any r c p hp s n x W (hr.below hW), fun W hW => ?_⟩
  by_cases he : detE r c n p = 0
  · have hv : detV r c n x p = detM p r.toNat x := if_pos he
    rw [hv]
    obtain ⟨R, C, rfl, rfl, hR, hC, rfl, p0, p1, hrc, hpr⟩ := openE_ok he
    obtain rfl : R = C := by have : (R : Int) = C := by simpa using hrc
                             omega
    rw [he, Int.toNat_natCast]
    exact Det12_good R p hR hpr s x W (hr.below hW)
  · have hv : detV r c n x p = 0 := if_neg he
    rw [hv]
    have := Det12_bad r c p hp s n x W (hr.below hW) (by rw [fit_sq]; exact he)
    rw [fit_sq] at this
    exact this

theorem same_Rank : ∃ D E : Int, (∀ W, Below w.heap.size w W → Calls Try.prog 31 #[.agg #[.int .i64 r, .int .i64 c, s], .int .u64 p] W fun e w' => e = .returned (.tuple #[.int .i64 D, .int .i64 E]) ∧ Below W.heap.size W w') ∧
    ∀ W, Below w.heap.size w W → Calls Try.prog 86 #[.agg #[.int .i64 r, .int .i64 c, s], .int .u64 p] W fun e w' => e = .returned (.tuple #[.int .i64 D, .int .i64 E]) ∧ Below W.heap.size W w' := by
  refine ⟨rankV r c n x p, openE r c n p true, fun W hW => Rank_any r c p hp s n x W (hr.below hW), fun W hW => ?_⟩
  by_cases he : openE r c n p true = 0
  · have hv : rankV r c n x p = ((redS p r.toNat c.toNat (resG p c.toNat x) c.toNat).P.length : Nat) := if_pos he
    rw [hv, he]
    obtain ⟨R, C, rfl, rfl, hR, hC, rfl, p0, p1, -, hpr⟩ := openE_ok he
    rw [Int.toNat_natCast, Int.toNat_natCast]
    exact Rank12_good R C p hR hC hpr s x W (hr.below hW)
  · have hv : rankV r c n x p = 0 := if_neg he
    rw [hv]
    exact Rank12_bad r c p hp s n x W (hr.below hW) he

theorem same_Solve (sb : Value) (nb : Nat) (b : Nat → Raw) (hrb : RdL w sb nb b) : ∃ nn X E, (∀ W, Below w.heap.size w W → Calls Try.prog 29 #[.agg #[.int .i64 r, .int .i64 c, s], sb, .int .u64 p] W fun e w' => LstA FrL nn X E W.heap.size e w' ∧ Below W.heap.size W w') ∧
    ∀ W, Below w.heap.size w W → Calls Try.prog 90 #[.agg #[.int .i64 r, .int .i64 c, s], sb, .int .u64 p] W fun e w' => LstA FrL nn X E W.heap.size e w' ∧ Below W.heap.size W w' := by
  by_cases he : openE r c n p ((nb : Int) == c) = 0
  · obtain ⟨R, C, rfl, rfl, hR, hC, rfl, p0, p1, hrc, hpr⟩ := openE_ok he
    obtain rfl : nb = C := by have : (nb : Int) = C := by simpa using hrc
                              omega
    have hI : solE R nb (R * nb) nb x b p = if anyNZ (sol1 p R nb x b) nb = true then 6 else 0 := by unfold solE; rw [if_pos he, Int.toNat_natCast, Int.toNat_natCast]
    by_cases hz : anyNZ (sol1 p R nb x b) nb = true
    · rw [if_pos hz] at hI
      refine ⟨0, fun _ => small 0, 6, fun W hW => (Solve_any R nb p hp s _ x sb nb b W (hr.below hW) (hrb.below hW)).mono ?_, fun W hW => (Solve12_good R nb p hR hC hpr s x sb b W (hr.below hW) (hrb.below hW)).mono ?_⟩
      · rw [hI]
        rintro e w' ⟨v, rfl, -, h2, hb⟩
        rw [h2 (by decide)]
        exact ⟨⟨_, rfl, FrL.nil⟩, hb⟩
      · rw [if_pos hz]
        rintro e w' ⟨v, rfl, h1, -, hb⟩
        rw [h1 hz]
        exact ⟨⟨_, rfl, FrL.nil⟩, hb⟩
    · have hz' : anyNZ (sol1 p R nb x b) nb = false := by simpa using hz
      rw [if_neg hz] at hI
      have hg := sol_good (R := R) (C := nb) (xa := x) (b := b) hpr hz'
      refine ⟨R, fun t => small (sol3 p R nb x b t), 0, fun W hW => (Solve_any R nb p hp s _ x sb nb b W (hr.below hW) (hrb.below hW)).mono ?_, fun W hW => (Solve12_good R nb p hR hC hpr s x sb b W (hr.below hW) (hrb.below hW)).mono ?_⟩
      · rw [hI, Int.toNat_natCast, Int.toNat_natCast]
        rintro e w' ⟨v, rfl, h1, -, hb⟩
        obtain ⟨lb, M, rfl, hl⟩ := h1 rfl
        exact ⟨⟨_, rfl, FrL.ls hl (by omega) fun t ht => by have := hg.1 t ht; omega⟩, hb⟩
      · rw [if_neg hz]
        rintro e w' ⟨v, rfl, -, h2, hb⟩
        exact ⟨⟨_, rfl, FrL.own (h2 hz') (by omega)⟩, hb⟩
  · have hI : solE r c n nb x b p = openE r c n p ((nb : Int) == c) := if_neg he
    refine ⟨0, fun _ => small 0, openE r c n p ((nb : Int) == c), fun W hW => (Solve_any r c p hp s n x sb nb b W (hr.below hW) (hrb.below hW)).mono ?_, fun W hW => (Solve12_bad r c p hp s n x sb nb b W (hr.below hW) (hrb.below hW) he).mono ?_⟩
    · rw [hI]
      rintro e w' ⟨v, rfl, -, h2, hb⟩
      rw [h2 he]
      exact ⟨⟨_, rfl, FrL.nil⟩, hb⟩
    · rintro e w' ⟨rfl, hb⟩
      exact ⟨⟨_, rfl, FrL.nil⟩, hb⟩
end
end Go.Proofs.Ytdlpemmoobbgnaa

namespace Go.Proofs.Ytdlpemmoobbgnaa
open Go.RowKit

/-- what plays and wants answer: a matrix, a list, two numbers, a bool, an error -/
structure AnsD where
  rr : Int
  cc : Int
  nn : Nat
  X : Nat → Raw
  mm : Nat
  L : Nat → Raw
  W : Int
  N : Int
  ok : Bool
  E : Int
def AnsD.post (D : AnsD) (Q : World → Nat → Value → Nat → (Nat → Raw) → Prop) (base : Nat) (e : Ending) (w' : World) : Prop := ∃ s' l', e = .returned (.agg #[.int .i64 D.rr, .int .i64 D.cc, s', l', .int .u64 D.W, .int .i64 D.N, .bool D.ok, .int .i64 D.E]) ∧ Q w' base s' D.nn D.X ∧ Q w' base l' D.mm D.L


set_option maxHeartbeats 2000000 in
set_option maxRecDepth 100000 in
theorem plays12_1 {Q : World → Nat → Value → Nat → (Nat → Raw) → Prop} (hQ : KeepQ Q) (r c p : Int) (s : Value) (n : Nat) (x : Nat → Raw) (sb : Value) (nb : Nat) (b : Nat → Raw) (w : World) (hr : RdL w s n x) (hrb : RdL w sb nb b) (D : Bool) (E : Int)
    (hcall : ∀ W, Below w.heap.size w W → Calls Try.prog 12 #[.int .u64 p] W fun e w' => e = .returned (.tuple #[.bool D, .int .i64 E]) ∧ Below W.heap.size W w') :
    Calls Try.prog 60 #[.agg #[.int .i64 1, .int .i64 r, .int .i64 c, s, sb, .int .u64 p]] w fun e w' => AnsD.post ⟨0, 0, 0, fun _ => small 0, 0, fun _ => small 0, 0, 0, D, E⟩ Q w.heap.size e w' ∧ Below w.heap.size w w' := by
  obtain ⟨a, cap, rfl, -⟩ := hr.slice
  obtain ⟨ab, capb, rfl, -⟩ := hrb.slice
  obtain ⟨hx, hy, hz, hb, hs3⟩ := opBox w [.int .i64 1, .int .i64 r, .int .i64 c, .slice a n cap, .slice ab nb capb, .int .u64 p] 62 92
  have hcall := hcall _ hb
  have HC := Lib.hid hcall
  have HY := Lib.hid hy
  have HZ := Lib.hid hz
  have HB := Lib.hid hb
  have HS3 := Lib.hid hs3
  have x0 := hx 0 _ rfl
  have x1 := hx 1 _ rfl
  have x2 := hx 2 _ rfl
  have x3 := hx 3 _ rfl
  have x4 := hx 4 _ rfl
  have x5 := hx 5 _ rfl
  clear hr hrb hx hy hz hb hs3 hcall
  go_enter Try.func60, Try.ntmps60
  go_wp2_with fail
  refine HC.out.mono ?_
  rintro e w4 ⟨rfl, hb4⟩
  have Y := fun i y h => cell_stays hb4 (HZ.out i y h).1
  have Yf := fun i y h => froz_stays hb4 (HZ.out i y h).1 (HZ.out i y h).2
  have Z := fun i y h => cell_stays hb4 (HY.out i y h).1
  have Zf := fun i y h => froz_stays hb4 (HY.out i y h).1 (HY.out i y h).2
  have y0 := Y 0 _ rfl
  have y1 := Y 1 _ rfl
  have y2 := Y 2 _ rfl
  have y3 := Y 3 _ rfl
  have y4 := Y 4 _ rfl
  have y5 := Y 5 _ rfl
  have y6 := Y 6 _ rfl
  have y7 := Y 7 _ rfl
  have f0 := Yf 0 _ rfl
  have f1 := Yf 1 _ rfl
  have f2 := Yf 2 _ rfl
  have f3 := Yf 3 _ rfl
  have f4 := Yf 4 _ rfl
  have f5 := Yf 5 _ rfl
  have f6 := Yf 6 _ rfl
  have f7 := Yf 7 _ rfl
  have z0 := Z 0 _ rfl
  have z1 := Z 1 _ rfl
  have z2 := Z 2 _ rfl
  have z3 := Z 3 _ rfl
  have z4 := Z 4 _ rfl
  have z5 := Z 5 _ rfl
  have z6 := Z 6 _ rfl
  have z7 := Z 7 _ rfl
  have k0 := Zf 0 _ rfl
  have k1 := Zf 1 _ rfl
  have k2 := Zf 2 _ rfl
  have k3 := Zf 3 _ rfl
  have k4 := Zf 4 _ rfl
  have k5 := Zf 5 _ rfl
  have k6 := Zf 6 _ rfl
  have k7 := Zf 7 _ rfl
  have HB4 := Lib.hid (HB.out.trans (hb4.mono HB.out.size))
  clear Y Yf Z Zf hb4 HY HZ HB HC x0 x1 x2 x3 x4 x5
  go_wp2_with fail
  refine bodyPost_ret (v := .agg #[.int .i64 0, .int .i64 0, .slice none 0 0, .slice none 0 0, .int .u64 0, .int .i64 0, .bool D, .int .i64 E]) ?_ rfl ⟨⟨_, _, rfl, hQ.nil, hQ.nil⟩, ?_⟩
  · simp [results, Try.results60, go_sem, z0, z1, z2, z3, z4, z5, z6, z7]
  · repeat (with_reducible refine Below.setCell ?_ (by first | (simp; done) | (simp; omega)) _)
    exact HB4.out

set_option maxHeartbeats 2000000 in
set_option maxRecDepth 100000 in
theorem plays12_2 {Q : World → Nat → Value → Nat → (Nat → Raw) → Prop} (hQ : KeepQ Q) (r c p : Int) (s : Value) (n : Nat) (x : Nat → Raw) (sb : Value) (nb : Nat) (b : Nat → Raw) (w : World) (hr : RdL w s n x) (hrb : RdL w sb nb b) (D E : Int)
    (hcall : ∀ W, Below w.heap.size w W → Calls Try.prog 13 #[.int .u64 p] W fun e w' => e = .returned (.tuple #[.int .u64 D, .int .i64 E]) ∧ Below W.heap.size W w') :
    Calls Try.prog 60 #[.agg #[.int .i64 2, .int .i64 r, .int .i64 c, s, sb, .int .u64 p]] w fun e w' => AnsD.post ⟨0, 0, 0, fun _ => small 0, 0, fun _ => small 0, D, 0, false, E⟩ Q w.heap.size e w' ∧ Below w.heap.size w w' := by
  obtain ⟨a, cap, rfl, -⟩ := hr.slice
  obtain ⟨ab, capb, rfl, -⟩ := hrb.slice
  obtain ⟨hx, hy, hz, hb, hs3⟩ := opBox w [.int .i64 2, .int .i64 r, .int .i64 c, .slice a n cap, .slice ab nb capb, .int .u64 p] 62 92
  have hcall := hcall _ hb
  have HC := Lib.hid hcall
  have HY := Lib.hid hy
  have HZ := Lib.hid hz
  have HB := Lib.hid hb
  have HS3 := Lib.hid hs3
  have x0 := hx 0 _ rfl
  have x1 := hx 1 _ rfl
  have x2 := hx 2 _ rfl
  have x3 := hx 3 _ rfl
  have x4 := hx 4 _ rfl
  have x5 := hx 5 _ rfl
  clear hr hrb hx hy hz hb hs3 hcall
  go_enter Try.func60, Try.ntmps60
  go_wp2_with fail
  refine HC.out.mono ?_
  rintro e w4 ⟨rfl, hb4⟩
  have Y := fun i y h => cell_stays hb4 (HZ.out i y h).1
  have Yf := fun i y h => froz_stays hb4 (HZ.out i y h).1 (HZ.out i y h).2
  have Z := fun i y h => cell_stays hb4 (HY.out i y h).1
  have Zf := fun i y h => froz_stays hb4 (HY.out i y h).1 (HY.out i y h).2
  have y0 := Y 0 _ rfl
  have y1 := Y 1 _ rfl
  have y2 := Y 2 _ rfl
  have y3 := Y 3 _ rfl
  have y4 := Y 4 _ rfl
  have y5 := Y 5 _ rfl
  have y6 := Y 6 _ rfl
  have y7 := Y 7 _ rfl
  have f0 := Yf 0 _ rfl
  have f1 := Yf 1 _ rfl
  have f2 := Yf 2 _ rfl
  have f3 := Yf 3 _ rfl
  have f4 := Yf 4 _ rfl
  have f5 := Yf 5 _ rfl
  have f6 := Yf 6 _ rfl
  have f7 := Yf 7 _ rfl
  have z0 := Z 0 _ rfl
  have z1 := Z 1 _ rfl
  have z2 := Z 2 _ rfl
  have z3 := Z 3 _ rfl
  have z4 := Z 4 _ rfl
  have z5 := Z 5 _ rfl
  have z6 := Z 6 _ rfl
  have z7 := Z 7 _ rfl
  have k0 := Zf 0 _ rfl
  have k1 := Zf 1 _ rfl
  have k2 := Zf 2 _ rfl
  have k3 := Zf 3 _ rfl
  have k4 := Zf 4 _ rfl
  have k5 := Zf 5 _ rfl
  have k6 := Zf 6 _ rfl
  have k7 := Zf 7 _ rfl
  have HB4 := Lib.hid (HB.out.trans (hb4.mono HB.out.size))
  clear Y Yf Z Zf hb4 HY HZ HB HC x0 x1 x2 x3 x4 x5
  go_wp2_with fail
  refine bodyPost_ret (v := .agg #[.int .i64 0, .int .i64 0, .slice none 0 0, .slice none 0 0, .int .u64 D, .int .i64 0, .bool false, .int .i64 E]) ?_ rfl ⟨⟨_, _, rfl, hQ.nil, hQ.nil⟩, ?_⟩
  · simp [results, Try.results60, go_sem, z0, z1, z2, z3, z4, z5, z6, z7]
  · repeat (with_reducible refine Below.setCell ?_ (by first | (simp; done) | (simp; omega)) _)
    exact HB4.out

set_option maxHeartbeats 2000000 in
set_option maxRecDepth 100000 in
theorem plays12_3 {Q : World → Nat → Value → Nat → (Nat → Raw) → Prop} (hQ : KeepQ Q) (r c p : Int) (s : Value) (n : Nat) (x : Nat → Raw) (sb : Value) (nb : Nat) (b : Nat → Raw) (w : World) (hr : RdL w s n x) (hrb : RdL w sb nb b) (rr cc : Int) (nn : Nat) (X : Nat → Raw) (E : Int)
    (hcall : ∀ W, Below w.heap.size w W → Calls Try.prog 35 #[.agg #[.int .i64 r, .int .i64 c, s], .int .u64 p] W fun e w' => MatA Q rr cc nn X E W.heap.size e w' ∧ Below W.heap.size W w') :
    Calls Try.prog 60 #[.agg #[.int .i64 3, .int .i64 r, .int .i64 c, s, sb, .int .u64 p]] w fun e w' => AnsD.post ⟨rr, cc, nn, X, 0, fun _ => small 0, 0, 0, false, E⟩ Q w.heap.size e w' ∧ Below w.heap.size w w' := by
  obtain ⟨a, cap, rfl, -⟩ := hr.slice
  obtain ⟨ab, capb, rfl, -⟩ := hrb.slice
  obtain ⟨hx, hy, hz, hb, hs3⟩ := opBox w [.int .i64 3, .int .i64 r, .int .i64 c, .slice a n cap, .slice ab nb capb, .int .u64 p] 62 92
  have hcall := hcall _ hb
  have HC := Lib.hid hcall
  have HY := Lib.hid hy
  have HZ := Lib.hid hz
  have HB := Lib.hid hb
  have HS3 := Lib.hid hs3
  have x0 := hx 0 _ rfl
  have x1 := hx 1 _ rfl
  have x2 := hx 2 _ rfl
  have x3 := hx 3 _ rfl
  have x4 := hx 4 _ rfl
  have x5 := hx 5 _ rfl
  clear hr hrb hx hy hz hb hs3 hcall
  go_enter Try.func60, Try.ntmps60
  go_wp2_with fail
  refine HC.out.mono ?_
  rintro e w4 ⟨⟨s4, rfl, hfr⟩, hb4⟩
  rw [HS3.out] at hfr
  obtain ⟨a4, c4, rfl⟩ := hQ.slice hfr
  have HFR := Lib.hid hfr
  clear hfr
  have Y := fun i y h => cell_stays hb4 (HZ.out i y h).1
  have Yf := fun i y h => froz_stays hb4 (HZ.out i y h).1 (HZ.out i y h).2
  have Z := fun i y h => cell_stays hb4 (HY.out i y h).1
  have Zf := fun i y h => froz_stays hb4 (HY.out i y h).1 (HY.out i y h).2
  have y0 := Y 0 _ rfl
  have y1 := Y 1 _ rfl
  have y2 := Y 2 _ rfl
  have y3 := Y 3 _ rfl
  have y4 := Y 4 _ rfl
  have y5 := Y 5 _ rfl
  have y6 := Y 6 _ rfl
  have y7 := Y 7 _ rfl
  have f0 := Yf 0 _ rfl
  have f1 := Yf 1 _ rfl
  have f2 := Yf 2 _ rfl
  have f3 := Yf 3 _ rfl
  have f4 := Yf 4 _ rfl
  have f5 := Yf 5 _ rfl
  have f6 := Yf 6 _ rfl
  have f7 := Yf 7 _ rfl
  have z0 := Z 0 _ rfl
  have z1 := Z 1 _ rfl
  have z2 := Z 2 _ rfl
  have z3 := Z 3 _ rfl
  have z4 := Z 4 _ rfl
  have z5 := Z 5 _ rfl
  have z6 := Z 6 _ rfl
  have z7 := Z 7 _ rfl
  have k0 := Zf 0 _ rfl
  have k1 := Zf 1 _ rfl
  have k2 := Zf 2 _ rfl
  have k3 := Zf 3 _ rfl
  have k4 := Zf 4 _ rfl
  have k5 := Zf 5 _ rfl
  have k6 := Zf 6 _ rfl
  have k7 := Zf 7 _ rfl
  have HB4 := Lib.hid (HB.out.trans (hb4.mono HB.out.size))
  clear Y Yf Z Zf hb4 HY HZ HB HC x0 x1 x2 x3 x4 x5
  go_wp2_with fail
  refine bodyPost_ret (v := .agg #[.int .i64 rr, .int .i64 cc, .slice a4 nn c4, .slice none 0 0, .int .u64 0, .int .i64 0, .bool false, .int .i64 E]) ?_ rfl ⟨⟨_, _, rfl, (by
    refine hQ.mono (base := w.heap.size + 3) ?_ (by omega)
    repeat (with_reducible refine hQ.set ?_ (by first | (simp; done) | (simp; omega)) _)
    exact HFR.out), hQ.nil⟩, ?_⟩
  · simp [results, Try.results60, go_sem, z0, z1, z2, z3, z4, z5, z6, z7]
  · repeat (with_reducible refine Below.setCell ?_ (by first | (simp; done) | (simp; omega)) _)
    exact HB4.out

set_option maxHeartbeats 2000000 in
set_option maxRecDepth 100000 in
theorem plays12_4 {Q : World → Nat → Value → Nat → (Nat → Raw) → Prop} (hQ : KeepQ Q) (r c p : Int) (s : Value) (n : Nat) (x : Nat → Raw) (sb : Value) (nb : Nat) (b : Nat → Raw) (w : World) (hr : RdL w s n x) (hrb : RdL w sb nb b) (D E : Int)
    (hcall : ∀ W, Below w.heap.size w W → Calls Try.prog 18 #[.agg #[.int .i64 r, .int .i64 c, s], .int .u64 p] W fun e w' => e = .returned (.tuple #[.int .u64 D, .int .i64 E]) ∧ Below W.heap.size W w') :
    Calls Try.prog 60 #[.agg #[.int .i64 4, .int .i64 r, .int .i64 c, s, sb, .int .u64 p]] w fun e w' => AnsD.post ⟨0, 0, 0, fun _ => small 0, 0, fun _ => small 0, D, 0, false, E⟩ Q w.heap.size e w' ∧ Below w.heap.size w w' := by
  obtain ⟨a, cap, rfl, -⟩ := hr.slice
  obtain ⟨ab, capb, rfl, -⟩ := hrb.slice
  obtain ⟨hx, hy, hz, hb, hs3⟩ := opBox w [.int .i64 4, .int .i64 r, .int .i64 c, .slice a n cap, .slice ab nb capb, .int .u64 p] 62 92
  have hcall := hcall _ hb
  have HC := Lib.hid hcall
  have HY := Lib.hid hy
  have HZ := Lib.hid hz
  have HB := Lib.hid hb
  have HS3 := Lib.hid hs3
  have x0 := hx 0 _ rfl
  have x1 := hx 1 _ rfl
  have x2 := hx 2 _ rfl
  have x3 := hx 3 _ rfl
  have x4 := hx 4 _ rfl
  have x5 := hx 5 _ rfl
  clear hr hrb hx hy hz hb hs3 hcall
  go_enter Try.func60, Try.ntmps60
  go_wp2_with fail
  refine HC.out.mono ?_
  rintro e w4 ⟨rfl, hb4⟩
  have Y := fun i y h => cell_stays hb4 (HZ.out i y h).1
  have Yf := fun i y h => froz_stays hb4 (HZ.out i y h).1 (HZ.out i y h).2
  have Z := fun i y h => cell_stays hb4 (HY.out i y h).1
  have Zf := fun i y h => froz_stays hb4 (HY.out i y h).1 (HY.out i y h).2
  have y0 := Y 0 _ rfl
  have y1 := Y 1 _ rfl
  have y2 := Y 2 _ rfl
  have y3 := Y 3 _ rfl
  have y4 := Y 4 _ rfl
  have y5 := Y 5 _ rfl
  have y6 := Y 6 _ rfl
  have y7 := Y 7 _ rfl
  have f0 := Yf 0 _ rfl
  have f1 := Yf 1 _ rfl
  have f2 := Yf 2 _ rfl
  have f3 := Yf 3 _ rfl
  have f4 := Yf 4 _ rfl
  have f5 := Yf 5 _ rfl
  have f6 := Yf 6 _ rfl
  have f7 := Yf 7 _ rfl
  have z0 := Z 0 _ rfl
  have z1 := Z 1 _ rfl
  have z2 := Z 2 _ rfl
  have z3 := Z 3 _ rfl
  have z4 := Z 4 _ rfl
  have z5 := Z 5 _ rfl
  have z6 := Z 6 _ rfl
  have z7 := Z 7 _ rfl
  have k0 := Zf 0 _ rfl
  have k1 := Zf 1 _ rfl
  have k2 := Zf 2 _ rfl
  have k3 := Zf 3 _ rfl
  have k4 := Zf 4 _ rfl
  have k5 := Zf 5 _ rfl
  have k6 := Zf 6 _ rfl
  have k7 := Zf 7 _ rfl
  have HB4 := Lib.hid (HB.out.trans (hb4.mono HB.out.size))
  clear Y Yf Z Zf hb4 HY HZ HB HC x0 x1 x2 x3 x4 x5
  go_wp2_with fail
  refine bodyPost_ret (v := .agg #[.int .i64 0, .int .i64 0, .slice none 0 0, .slice none 0 0, .int .u64 D, .int .i64 0, .bool false, .int .i64 E]) ?_ rfl ⟨⟨_, _, rfl, hQ.nil, hQ.nil⟩, ?_⟩
  · simp [results, Try.results60, go_sem, z0, z1, z2, z3, z4, z5, z6, z7]
  · repeat (with_reducible refine Below.setCell ?_ (by first | (simp; done) | (simp; omega)) _)
    exact HB4.out

set_option maxHeartbeats 2000000 in
set_option maxRecDepth 100000 in
theorem plays12_5 {Q : World → Nat → Value → Nat → (Nat → Raw) → Prop} (hQ : KeepQ Q) (r c p : Int) (s : Value) (n : Nat) (x : Nat → Raw) (sb : Value) (nb : Nat) (b : Nat → Raw) (w : World) (hr : RdL w s n x) (hrb : RdL w sb nb b) (D E : Int)
    (hcall : ∀ W, Below w.heap.size w W → Calls Try.prog 31 #[.agg #[.int .i64 r, .int .i64 c, s], .int .u64 p] W fun e w' => e = .returned (.tuple #[.int .i64 D, .int .i64 E]) ∧ Below W.heap.size W w') :
    Calls Try.prog 60 #[.agg #[.int .i64 5, .int .i64 r, .int .i64 c, s, sb, .int .u64 p]] w fun e w' => AnsD.post ⟨0, 0, 0, fun _ => small 0, 0, fun _ => small 0, 0, D, false, E⟩ Q w.heap.size e w' ∧ Below w.heap.size w w' := by
  obtain ⟨a, cap, rfl, -⟩ := hr.slice
  obtain ⟨ab, capb, rfl, -⟩ := hrb.slice
  obtain ⟨hx, hy, hz, hb, hs3⟩ := opBox w [.int .i64 5, .int .i64 r, .int .i64 c, .slice a n cap, .slice ab nb capb, .int .u64 p] 62 92
  have hcall := hcall _ hb
  have HC := Lib.hid hcall
  have HY := Lib.hid hy
  have HZ := Lib.hid hz
  have HB := Lib.hid hb
  have HS3 := Lib.hid hs3
  have x0 := hx 0 _ rfl
  have x1 := hx 1 _ rfl
  have x2 := hx 2 _ rfl
  have x3 := hx 3 _ rfl
  have x4 := hx 4 _ rfl
  have x5 := hx 5 _ rfl
  clear hr hrb hx hy hz hb hs3 hcall
  go_enter Try.func60, Try.ntmps60
  go_wp2_with fail
  refine HC.out.mono ?_
  rintro e w4 ⟨rfl, hb4⟩
  have Y := fun i y h => cell_stays hb4 (HZ.out i y h).1
  have Yf := fun i y h => froz_stays hb4 (HZ.out i y h).1 (HZ.out i y h).2
  have Z := fun i y h => cell_stays hb4 (HY.out i y h).1
  have Zf := fun i y h => froz_stays hb4 (HY.out i y h).1 (HY.out i y h).2
  have y0 := Y 0 _ rfl
  have y1 := Y 1 _ rfl
  have y2 := Y 2 _ rfl
  have y3 := Y 3 _ rfl
  have y4 := Y 4 _ rfl
  have y5 := Y 5 _ rfl
  have y6 := Y 6 _ rfl
  have y7 := Y 7 _ rfl
  have f0 := Yf 0 _ rfl
  have f1 := Yf 1 _ rfl
  have f2 := Yf 2 _ rfl
  have f3 := Yf 3 _ rfl
  have f4 := Yf 4 _ rfl
  have f5 := Yf 5 _ rfl
  have f6 := Yf 6 _ rfl
  have f7 := Yf 7 _ rfl
  have z0 := Z 0 _ rfl
  have z1 := Z 1 _ rfl
  have z2 := Z 2 _ rfl
  have z3 := Z 3 _ rfl
  have z4 := Z 4 _ rfl
  have z5 := Z 5 _ rfl
  have z6 := Z 6 _ rfl
  have z7 := Z 7 _ rfl
  have k0 := Zf 0 _ rfl
  have k1 := Zf 1 _ rfl
  have k2 := Zf 2 _ rfl
  have k3 := Zf 3 _ rfl
  have k4 := Zf 4 _ rfl
  have k5 := Zf 5 _ rfl
  have k6 := Zf 6 _ rfl
  have k7 := Zf 7 _ rfl
  have HB4 := Lib.hid (HB.out.trans (hb4.mono HB.out.size))
  clear Y Yf Z Zf hb4 HY HZ HB HC x0 x1 x2 x3 x4 x5
  go_wp2_with fail
  refine bodyPost_ret (v := .agg #[.int .i64 0, .int .i64 0, .slice none 0 0, .slice none 0 0, .int .u64 0, .int .i64 D, .bool false, .int .i64 E]) ?_ rfl ⟨⟨_, _, rfl, hQ.nil, hQ.nil⟩, ?_⟩
  · simp [results, Try.results60, go_sem, z0, z1, z2, z3, z4, z5, z6, z7]
  · repeat (with_reducible refine Below.setCell ?_ (by first | (simp; done) | (simp; omega)) _)
    exact HB4.out

set_option maxHeartbeats 2000000 in
set_option maxRecDepth 100000 in
theorem plays12_6 {Q : World → Nat → Value → Nat → (Nat → Raw) → Prop} (hQ : KeepQ Q) (r c p : Int) (s : Value) (n : Nat) (x : Nat → Raw) (sb : Value) (nb : Nat) (b : Nat → Raw) (w : World) (hr : RdL w s n x) (hrb : RdL w sb nb b) (rr cc : Int) (nn : Nat) (X : Nat → Raw) (E : Int)
    (hcall : ∀ W, Below w.heap.size w W → Calls Try.prog 25 #[.agg #[.int .i64 r, .int .i64 c, s], .int .u64 p] W fun e w' => MatA Q rr cc nn X E W.heap.size e w' ∧ Below W.heap.size W w') :
    Calls Try.prog 60 #[.agg #[.int .i64 6, .int .i64 r, .int .i64 c, s, sb, .int .u64 p]] w fun e w' => AnsD.post ⟨rr, cc, nn, X, 0, fun _ => small 0, 0, 0, false, E⟩ Q w.heap.size e w' ∧ Below w.heap.size w w' := by
  obtain ⟨a, cap, rfl, -⟩ := hr.slice
  obtain ⟨ab, capb, rfl, -⟩ := hrb.slice
  obtain ⟨hx, hy, hz, hb, hs3⟩ := opBox w [.int .i64 6, .int .i64 r, .int .i64 c, .slice a n cap, .slice ab nb capb, .int .u64 p] 62 92
  have hcall := hcall _ hb
  have HC := Lib.hid hcall
  have HY := Lib.hid hy
  have HZ := Lib.hid hz
  have HB := Lib.hid hb
  have HS3 := Lib.hid hs3
  have x0 := hx 0 _ rfl
  have x1 := hx 1 _ rfl
  have x2 := hx 2 _ rfl
  have x3 := hx 3 _ rfl
  have x4 := hx 4 _ rfl
  have x5 := hx 5 _ rfl
  clear hr hrb hx hy hz hb hs3 hcall
  go_enter Try.func60, Try.ntmps60
  go_wp2_with fail
  refine HC.out.mono ?_
  rintro e w4 ⟨⟨s4, rfl, hfr⟩, hb4⟩
  rw [HS3.out] at hfr
  obtain ⟨a4, c4, rfl⟩ := hQ.slice hfr
  have HFR := Lib.hid hfr
  clear hfr
  have Y := fun i y h => cell_stays hb4 (HZ.out i y h).1
  have Yf := fun i y h => froz_stays hb4 (HZ.out i y h).1 (HZ.out i y h).2
  have Z := fun i y h => cell_stays hb4 (HY.out i y h).1
  have Zf := fun i y h => froz_stays hb4 (HY.out i y h).1 (HY.out i y h).2
  have y0 := Y 0 _ rfl
  have y1 := Y 1 _ rfl
  have y2 := Y 2 _ rfl
  have y3 := Y 3 _ rfl
  have y4 := Y 4 _ rfl
  have y5 := Y 5 _ rfl
  have y6 := Y 6 _ rfl
  have y7 := Y 7 _ rfl
  have f0 := Yf 0 _ rfl
  have f1 := Yf 1 _ rfl
  have f2 := Yf 2 _ rfl
  have f3 := Yf 3 _ rfl
  have f4 := Yf 4 _ rfl
  have f5 := Yf 5 _ rfl
  have f6 := Yf 6 _ rfl
  have f7 := Yf 7 _ rfl
  have z0 := Z 0 _ rfl
  have z1 := Z 1 _ rfl
  have z2 := Z 2 _ rfl
  have z3 := Z 3 _ rfl
  have z4 := Z 4 _ rfl
  have z5 := Z 5 _ rfl
  have z6 := Z 6 _ rfl
  have z7 := Z 7 _ rfl
  have k0 := Zf 0 _ rfl
  have k1 := Zf 1 _ rfl
  have k2 := Zf 2 _ rfl
  have k3 := Zf 3 _ rfl
  have k4 := Zf 4 _ rfl
  have k5 := Zf 5 _ rfl
  have k6 := Zf 6 _ rfl
  have k7 := Zf 7 _ rfl
  have HB4 := Lib.hid (HB.out.trans (hb4.mono HB.out.size))
  clear Y Yf Z Zf hb4 HY HZ HB HC x0 x1 x2 x3 x4 x5
  go_wp2_with fail
  refine bodyPost_ret (v := .agg #[.int .i64 rr, .int .i64 cc, .slice a4 nn c4, .slice none 0 0, .int .u64 0, .int .i64 0, .bool false, .int .i64 E]) ?_ rfl ⟨⟨_, _, rfl, (by
    refine hQ.mono (base := w.heap.size + 3) ?_ (by omega)
    repeat (with_reducible refine hQ.set ?_ (by first | (simp; done) | (simp; omega)) _)
    exact HFR.out), hQ.nil⟩, ?_⟩
  · simp [results, Try.results60, go_sem, z0, z1, z2, z3, z4, z5, z6, z7]
  · repeat (with_reducible refine Below.setCell ?_ (by first | (simp; done) | (simp; omega)) _)
    exact HB4.out

set_option maxHeartbeats 2000000 in
set_option maxRecDepth 100000 in
theorem plays12_7 {Q : World → Nat → Value → Nat → (Nat → Raw) → Prop} (hQ : KeepQ Q) (r c p : Int) (s : Value) (n : Nat) (x : Nat → Raw) (sb : Value) (nb : Nat) (b : Nat → Raw) (w : World) (hr : RdL w s n x) (hrb : RdL w sb nb b) (rr cc : Int) (nn : Nat) (X : Nat → Raw) (E : Int)
    (hcall : ∀ W, Below w.heap.size w W → Calls Try.prog 20 #[.agg #[.int .i64 r, .int .i64 c, s], .int .u64 p] W fun e w' => MatA Q rr cc nn X E W.heap.size e w' ∧ Below W.heap.size W w') :
    Calls Try.prog 60 #[.agg #[.int .i64 7, .int .i64 r, .int .i64 c, s, sb, .int .u64 p]] w fun e w' => AnsD.post ⟨rr, cc, nn, X, 0, fun _ => small 0, 0, 0, false, E⟩ Q w.heap.size e w' ∧ Below w.heap.size w w' := by
  obtain ⟨a, cap, rfl, -⟩ := hr.slice
  obtain ⟨ab, capb, rfl, -⟩ := hrb.slice
  obtain ⟨hx, hy, hz, hb, hs3⟩ := opBox w [.int .i64 7, .int .i64 r, .int .i64 c, .slice a n cap, .slice ab nb capb, .int .u64 p] 62 92
  have hcall := hcall _ hb
  have HC := Lib.hid hcall
  have HY := Lib.hid hy
  have HZ := Lib.hid hz
  have HB := Lib.hid hb
  have HS3 := Lib.hid hs3
  have x0 := hx 0 _ rfl
  have x1 := hx 1 _ rfl
  have x2 := hx 2 _ rfl
  have x3 := hx 3 _ rfl
  have x4 := hx 4 _ rfl
  have x5 := hx 5 _ rfl
  clear hr hrb hx hy hz hb hs3 hcall
  go_enter Try.func60, Try.ntmps60
  go_wp2_with fail
  refine HC.out.mono ?_
  rintro e w4 ⟨⟨s4, rfl, hfr⟩, hb4⟩
  rw [HS3.out] at hfr
  obtain ⟨a4, c4, rfl⟩ := hQ.slice hfr
  have HFR := Lib.hid hfr
  clear hfr
  have Y := fun i y h => cell_stays hb4 (HZ.out i y h).1
  have Yf := fun i y h => froz_stays hb4 (HZ.out i y h).1 (HZ.out i y h).2
  have Z := fun i y h => cell_stays hb4 (HY.out i y h).1
  have Zf := fun i y h => froz_stays hb4 (HY.out i y h).1 (HY.out i y h).2
  have y0 := Y 0 _ rfl
  have y1 := Y 1 _ rfl
  have y2 := Y 2 _ rfl
  have y3 := Y 3 _ rfl
  have y4 := Y 4 _ rfl
  have y5 := Y 5 _ rfl
  have y6 := Y 6 _ rfl
  have y7 := Y 7 _ rfl
  have f0 := Yf 0 _ rfl
  have f1 := Yf 1 _ rfl
  have f2 := Yf 2 _ rfl
  have f3 := Yf 3 _ rfl
  have f4 := Yf 4 _ rfl
  have f5 := Yf 5 _ rfl
  have f6 := Yf 6 _ rfl
  have f7 := Yf 7 _ rfl
  have z0 := Z 0 _ rfl
  have z1 := Z 1 _ rfl
  have z2 := Z 2 _ rfl
  have z3 := Z 3 _ rfl
  have z4 := Z 4 _ rfl
  have z5 := Z 5 _ rfl
  have z6 := Z 6 _ rfl
  have z7 := Z 7 _ rfl
  have k0 := Zf 0 _ rfl
  have k1 := Zf 1 _ rfl
  have k2 := Zf 2 _ rfl
  have k3 := Zf 3 _ rfl
  have k4 := Zf 4 _ rfl
  have k5 := Zf 5 _ rfl
  have k6 := Zf 6 _ rfl
  have k7 := Zf 7 _ rfl
  have HB4 := Lib.hid (HB.out.trans (hb4.mono HB.out.size))
  clear Y Yf Z Zf hb4 HY HZ HB HC x0 x1 x2 x3 x4 x5
  go_wp2_with fail
  refine bodyPost_ret (v := .agg #[.int .i64 rr, .int .i64 cc, .slice a4 nn c4, .slice none 0 0, .int .u64 0, .int .i64 0, .bool false, .int .i64 E]) ?_ rfl ⟨⟨_, _, rfl, (by
    refine hQ.mono (base := w.heap.size + 3) ?_ (by omega)
    repeat (with_reducible refine hQ.set ?_ (by first | (simp; done) | (simp; omega)) _)
    exact HFR.out), hQ.nil⟩, ?_⟩
  · simp [results, Try.results60, go_sem, z0, z1, z2, z3, z4, z5, z6, z7]
  · repeat (with_reducible refine Below.setCell ?_ (by first | (simp; done) | (simp; omega)) _)
    exact HB4.out

set_option maxHeartbeats 2000000 in
set_option maxRecDepth 100000 in
theorem plays12_8 {Q : World → Nat → Value → Nat → (Nat → Raw) → Prop} (hQ : KeepQ Q) (r c p : Int) (s : Value) (n : Nat) (x : Nat → Raw) (sb : Value) (nb : Nat) (b : Nat → Raw) (w : World) (hr : RdL w s n x) (hrb : RdL w sb nb b) (rr cc : Int) (nn : Nat) (X : Nat → Raw) (E : Int)
    (hcall : ∀ W, Below w.heap.size w W → Calls Try.prog 26 #[.agg #[.int .i64 r, .int .i64 c, s], .int .u64 p] W fun e w' => MatA Q rr cc nn X E W.heap.size e w' ∧ Below W.heap.size W w') :
    Calls Try.prog 60 #[.agg #[.int .i64 8, .int .i64 r, .int .i64 c, s, sb, .int .u64 p]] w fun e w' => AnsD.post ⟨rr, cc, nn, X, 0, fun _ => small 0, 0, 0, false, E⟩ Q w.heap.size e w' ∧ Below w.heap.size w w' := by
  obtain ⟨a, cap, rfl, -⟩ := hr.slice
  obtain ⟨ab, capb, rfl, -⟩ := hrb.slice
  obtain ⟨hx, hy, hz, hb, hs3⟩ := opBox w [.int .i64 8, .int .i64 r, .int .i64 c, .slice a n cap, .slice ab nb capb, .int .u64 p] 62 92
  have hcall := hcall _ hb
  have HC := Lib.hid hcall
  have HY := Lib.hid hy
  have HZ := Lib.hid hz
  have HB := Lib.hid hb
  have HS3 := Lib.hid hs3
  have x0 := hx 0 _ rfl
  have x1 := hx 1 _ rfl
  have x2 := hx 2 _ rfl
  have x3 := hx 3 _ rfl
  have x4 := hx 4 _ rfl
  have x5 := hx 5 _ rfl
  clear hr hrb hx hy hz hb hs3 hcall
  go_enter Try.func60, Try.ntmps60
  go_wp2_with fail
  refine HC.out.mono ?_
  rintro e w4 ⟨⟨s4, rfl, hfr⟩, hb4⟩
  rw [HS3.out] at hfr
  obtain ⟨a4, c4, rfl⟩ := hQ.slice hfr
  have HFR := Lib.hid hfr
  clear hfr
  have Y := fun i y h => cell_stays hb4 (HZ.out i y h).1
  have Yf := fun i y h => froz_stays hb4 (HZ.out i y h).1 (HZ.out i y h).2
  have Z := fun i y h => cell_stays hb4 (HY.out i y h).1
  have Zf := fun i y h => froz_stays hb4 (HY.out i y h).1 (HY.out i y h).2
  have y0 := Y 0 _ rfl
  have y1 := Y 1 _ rfl
  have y2 := Y 2 _ rfl
  have y3 := Y 3 _ rfl
  have y4 := Y 4 _ rfl
  have y5 := Y 5 _ rfl
  have y6 := Y 6 _ rfl
  have y7 := Y 7 _ rfl
  have f0 := Yf 0 _ rfl
  have f1 := Yf 1 _ rfl
  have f2 := Yf 2 _ rfl
  have f3 := Yf 3 _ rfl
  have f4 := Yf 4 _ rfl
  have f5 := Yf 5 _ rfl
  have f6 := Yf 6 _ rfl
  have f7 := Yf 7 _ rfl
  have z0 := Z 0 _ rfl
  have z1 := Z 1 _ rfl
  have z2 := Z 2 _ rfl
  have z3 := Z 3 _ rfl
  have z4 := Z 4 _ rfl
  have z5 := Z 5 _ rfl
  have z6 := Z 6 _ rfl
  have z7 := Z 7 _ rfl
  have k0 := Zf 0 _ rfl
  have k1 := Zf 1 _ rfl
  have k2 := Zf 2 _ rfl
  have k3 := Zf 3 _ rfl
  have k4 := Zf 4 _ rfl
  have k5 := Zf 5 _ rfl
  have k6 := Zf 6 _ rfl
  have k7 := Zf 7 _ rfl
  have HB4 := Lib.hid (HB.out.trans (hb4.mono HB.out.size))
  clear Y Yf Z Zf hb4 HY HZ HB HC x0 x1 x2 x3 x4 x5
  go_wp2_with fail
  refine bodyPost_ret (v := .agg #[.int .i64 rr, .int .i64 cc, .slice a4 nn c4, .slice none 0 0, .int .u64 0, .int .i64 0, .bool false, .int .i64 E]) ?_ rfl ⟨⟨_, _, rfl, (by
    refine hQ.mono (base := w.heap.size + 3) ?_ (by omega)
    repeat (with_reducible refine hQ.set ?_ (by first | (simp; done) | (simp; omega)) _)
    exact HFR.out), hQ.nil⟩, ?_⟩
  · simp [results, Try.results60, go_sem, z0, z1, z2, z3, z4, z5, z6, z7]
  · repeat (with_reducible refine Below.setCell ?_ (by first | (simp; done) | (simp; omega)) _)
    exact HB4.out

set_option maxHeartbeats 2000000 in
set_option maxRecDepth 100000 in
theorem plays12_9 {Q : World → Nat → Value → Nat → (Nat → Raw) → Prop} (hQ : KeepQ Q) (r c p : Int) (s : Value) (n : Nat) (x : Nat → Raw) (sb : Value) (nb : Nat) (b : Nat → Raw) (w : World) (hr : RdL w s n x) (hrb : RdL w sb nb b) (nn : Nat) (X : Nat → Raw) (E : Int)
    (hcall : ∀ W, Below w.heap.size w W → Calls Try.prog 29 #[.agg #[.int .i64 r, .int .i64 c, s], sb, .int .u64 p] W fun e w' => LstA Q nn X E W.heap.size e w' ∧ Below W.heap.size W w') :
    Calls Try.prog 60 #[.agg #[.int .i64 9, .int .i64 r, .int .i64 c, s, sb, .int .u64 p]] w fun e w' => AnsD.post ⟨0, 0, 0, fun _ => small 0, nn, X, 0, 0, false, E⟩ Q w.heap.size e w' ∧ Below w.heap.size w w' := by
  obtain ⟨a, cap, rfl, -⟩ := hr.slice
  obtain ⟨ab, capb, rfl, -⟩ := hrb.slice
  obtain ⟨hx, hy, hz, hb, hs3⟩ := opBox w [.int .i64 9, .int .i64 r, .int .i64 c, .slice a n cap, .slice ab nb capb, .int .u64 p] 62 92
  have hcall := hcall _ hb
  have HC := Lib.hid hcall
  have HY := Lib.hid hy
  have HZ := Lib.hid hz
  have HB := Lib.hid hb
  have HS3 := Lib.hid hs3
  have x0 := hx 0 _ rfl
  have x1 := hx 1 _ rfl
  have x2 := hx 2 _ rfl
  have x3 := hx 3 _ rfl
  have x4 := hx 4 _ rfl
  have x5 := hx 5 _ rfl
  clear hr hrb hx hy hz hb hs3 hcall
  go_enter Try.func60, Try.ntmps60
  go_wp2_with fail
  refine HC.out.mono ?_
  rintro e w4 ⟨⟨s4, rfl, hfr⟩, hb4⟩
  rw [HS3.out] at hfr
  obtain ⟨a4, c4, rfl⟩ := hQ.slice hfr
  have HFR := Lib.hid hfr
  clear hfr
  have Y := fun i y h => cell_stays hb4 (HZ.out i y h).1
  have Yf := fun i y h => froz_stays hb4 (HZ.out i y h).1 (HZ.out i y h).2
  have Z := fun i y h => cell_stays hb4 (HY.out i y h).1
  have Zf := fun i y h => froz_stays hb4 (HY.out i y h).1 (HY.out i y h).2
  have y0 := Y 0 _ rfl
  have y1 := Y 1 _ rfl
  have y2 := Y 2 _ rfl
  have y3 := Y 3 _ rfl
  have y4 := Y 4 _ rfl
  have y5 := Y 5 _ rfl
  have y6 := Y 6 _ rfl
  have y7 := Y 7 _ rfl
  have f0 := Yf 0 _ rfl
  have f1 := Yf 1 _ rfl
  have f2 := Yf 2 _ rfl
  have f3 := Yf 3 _ rfl
  have f4 := Yf 4 _ rfl
  have f5 := Yf 5 _ rfl
  have f6 := Yf 6 _ rfl
  have f7 := Yf 7 _ rfl
  have z0 := Z 0 _ rfl
  have z1 := Z 1 _ rfl
  have z2 := Z 2 _ rfl
  have z3 := Z 3 _ rfl
  have z4 := Z 4 _ rfl
  have z5 := Z 5 _ rfl
  have z6 := Z 6 _ rfl
  have z7 := Z 7 _ rfl
  have k0 := Zf 0 _ rfl
  have k1 := Zf 1 _ rfl
  have k2 := Zf 2 _ rfl
  have k3 := Zf 3 _ rfl
  have k4 := Zf 4 _ rfl
  have k5 := Zf 5 _ rfl
  have k6 := Zf 6 _ rfl
  have k7 := Zf 7 _ rfl
  have HB4 := Lib.hid (HB.out.trans (hb4.mono HB.out.size))
  clear Y Yf Z Zf hb4 HY HZ HB HC x0 x1 x2 x3 x4 x5
  go_wp2_with fail
  refine bodyPost_ret (v := .agg #[.int .i64 0, .int .i64 0, .slice none 0 0, .slice a4 nn c4, .int .u64 0, .int .i64 0, .bool false, .int .i64 E]) ?_ rfl ⟨⟨_, _, rfl, hQ.nil, (by
    refine hQ.mono (base := w.heap.size + 3) ?_ (by omega)
    repeat (with_reducible refine hQ.set ?_ (by first | (simp; done) | (simp; omega)) _)
    exact HFR.out)⟩, ?_⟩
  · simp [results, Try.results60, go_sem, z0, z1, z2, z3, z4, z5, z6, z7]
  · repeat (with_reducible refine Below.setCell ?_ (by first | (simp; done) | (simp; omega)) _)
    exact HB4.out

set_option maxHeartbeats 2000000 in
set_option maxRecDepth 100000 in
theorem plays12_0 {Q : World → Nat → Value → Nat → (Nat → Raw) → Prop} (hQ : KeepQ Q) (k r c p : Int) (s : Value) (n : Nat) (x : Nat → Raw) (sb : Value) (nb : Nat) (b : Nat → Raw) (w : World) (hr : RdL w s n x) (hrb : RdL w sb nb b) (hk : ¬ (1 ≤ k ∧ k ≤ 9)) :
    Calls Try.prog 60 #[.agg #[.int .i64 k, .int .i64 r, .int .i64 c, s, sb, .int .u64 p]] w fun e w' => AnsD.post ⟨0, 0, 0, fun _ => small 0, 0, fun _ => small 0, 0, 0, false, 0⟩ Q w.heap.size e w' ∧ Below w.heap.size w w' := by
  obtain ⟨a, cap, rfl, -⟩ := hr.slice
  obtain ⟨ab, capb, rfl, -⟩ := hrb.slice
  obtain ⟨hx, hy, hz, hb, hs3⟩ := opBox w [.int .i64 k, .int .i64 r, .int .i64 c, .slice a n cap, .slice ab nb capb, .int .u64 p] 62 92
  have HB := Lib.hid hb
  have x0 := hx 0 _ rfl
  have e1 : (k == 1) = false := beq_eq_false_iff_ne.2 (by omega)
  have e2 : (k == 2) = false := beq_eq_false_iff_ne.2 (by omega)
  have e3 : (k == 3) = false := beq_eq_false_iff_ne.2 (by omega)
  have e4 : (k == 4) = false := beq_eq_false_iff_ne.2 (by omega)
  have e5 : (k == 5) = false := beq_eq_false_iff_ne.2 (by omega)
  have e6 : (k == 6) = false := beq_eq_false_iff_ne.2 (by omega)
  have e7 : (k == 7) = false := beq_eq_false_iff_ne.2 (by omega)
  have e8 : (k == 8) = false := beq_eq_false_iff_ne.2 (by omega)
  have e9 : (k == 9) = false := beq_eq_false_iff_ne.2 (by omega)
  have y0 := (hz 0 _ rfl).1
  have f0 := (hz 0 _ rfl).2
  have z0 := (hy 0 _ rfl).1
  have k0 := (hy 0 _ rfl).2
  have y1 := (hz 1 _ rfl).1
  have f1 := (hz 1 _ rfl).2
  have z1 := (hy 1 _ rfl).1
  have k1 := (hy 1 _ rfl).2
  have y2 := (hz 2 _ rfl).1
  have f2 := (hz 2 _ rfl).2
  have z2 := (hy 2 _ rfl).1
  have k2 := (hy 2 _ rfl).2
  have y3 := (hz 3 _ rfl).1
  have f3 := (hz 3 _ rfl).2
  have z3 := (hy 3 _ rfl).1
  have k3 := (hy 3 _ rfl).2
  have y4 := (hz 4 _ rfl).1
  have f4 := (hz 4 _ rfl).2
  have z4 := (hy 4 _ rfl).1
  have k4 := (hy 4 _ rfl).2
  have y5 := (hz 5 _ rfl).1
  have f5 := (hz 5 _ rfl).2
  have z5 := (hy 5 _ rfl).1
  have k5 := (hy 5 _ rfl).2
  have y6 := (hz 6 _ rfl).1
  have f6 := (hz 6 _ rfl).2
  have z6 := (hy 6 _ rfl).1
  have k6 := (hy 6 _ rfl).2
  have y7 := (hz 7 _ rfl).1
  have f7 := (hz 7 _ rfl).2
  have z7 := (hy 7 _ rfl).1
  have k7 := (hy 7 _ rfl).2
  clear hr hrb hx hy hz hb hs3 hk
  go_enter Try.func60, Try.ntmps60
  go_wp2_with fail
  refine bodyPost_ret (v := .agg #[.int .i64 0, .int .i64 0, .slice none 0 0, .slice none 0 0, .int .u64 0, .int .i64 0, .bool false, .int .i64 0]) ?_ rfl ⟨⟨_, _, rfl, hQ.nil, hQ.nil⟩, ?_⟩
  · simp [results, Try.results60, go_sem, z0, z1, z2, z3, z4, z5, z6, z7]
  · repeat (with_reducible refine Below.setCell ?_ (by first | (simp; done) | (simp; omega)) _)
    exact HB.out
end Go.Proofs.Ytdlpemmoobbgnaa

namespace Go.Proofs.Ytdlpemmoobbgnaa
open Go.RowKit


set_option maxHeartbeats 2000000 in
set_option maxRecDepth 100000 in
theorem wants12_1 {Q : World → Nat → Value → Nat → (Nat → Raw) → Prop} (hQ : KeepQ Q) (r c p : Int) (s : Value) (n : Nat) (x : Nat → Raw) (sb : Value) (nb : Nat) (b : Nat → Raw) (w : World) (hr : RdL w s n x) (hrb : RdL w sb nb b) (D : Bool) (E : Int)
    (hcall : ∀ W, Below w.heap.size w W → Calls Try.prog 82 #[.int .u64 p] W fun e w' => e = .returned (.tuple #[.bool D, .int .i64 E]) ∧ Below W.heap.size W w') :
    Calls Try.prog 59 #[.agg #[.int .i64 1, .int .i64 r, .int .i64 c, s, sb, .int .u64 p]] w fun e w' => AnsD.post ⟨0, 0, 0, fun _ => small 0, 0, fun _ => small 0, 0, 0, D, E⟩ Q w.heap.size e w' ∧ Below w.heap.size w w' := by
  obtain ⟨a, cap, rfl, -⟩ := hr.slice
  obtain ⟨ab, capb, rfl, -⟩ := hrb.slice
  obtain ⟨hx, hy, hz, hb, hs3⟩ := opBox w [.int .i64 1, .int .i64 r, .int .i64 c, .slice a n cap, .slice ab nb capb, .int .u64 p] 62 92
  have hcall := hcall _ hb
  have HC := Lib.hid hcall
  have HY := Lib.hid hy
  have HZ := Lib.hid hz
  have HB := Lib.hid hb
  have HS3 := Lib.hid hs3
  have x0 := hx 0 _ rfl
  have x1 := hx 1 _ rfl
  have x2 := hx 2 _ rfl
  have x3 := hx 3 _ rfl
  have x4 := hx 4 _ rfl
  have x5 := hx 5 _ rfl
  clear hr hrb hx hy hz hb hs3 hcall
  go_enter Try.func59, Try.ntmps59
  go_wp2_with fail
  refine HC.out.mono ?_
  rintro e w4 ⟨rfl, hb4⟩
  have Y := fun i y h => cell_stays hb4 (HZ.out i y h).1
  have Yf := fun i y h => froz_stays hb4 (HZ.out i y h).1 (HZ.out i y h).2
  have Z := fun i y h => cell_stays hb4 (HY.out i y h).1
  have Zf := fun i y h => froz_stays hb4 (HY.out i y h).1 (HY.out i y h).2
  have y0 := Y 0 _ rfl
  have y1 := Y 1 _ rfl
  have y2 := Y 2 _ rfl
  have y3 := Y 3 _ rfl
  have y4 := Y 4 _ rfl
  have y5 := Y 5 _ rfl
  have y6 := Y 6 _ rfl
  have y7 := Y 7 _ rfl
  have f0 := Yf 0 _ rfl
  have f1 := Yf 1 _ rfl
  have f2 := Yf 2 _ rfl
  have f3 := Yf 3 _ rfl
  have f4 := Yf 4 _ rfl
  have f5 := Yf 5 _ rfl
  have f6 := Yf 6 _ rfl
  have f7 := Yf 7 _ rfl
  have z0 := Z 0 _ rfl
  have z1 := Z 1 _ rfl
  have z2 := Z 2 _ rfl
  have z3 := Z 3 _ rfl
  have z4 := Z 4 _ rfl
  have z5 := Z 5 _ rfl
  have z6 := Z 6 _ rfl
  have z7 := Z 7 _ rfl
  have k0 := Zf 0 _ rfl
  have k1 := Zf 1 _ rfl
  have k2 := Zf 2 _ rfl
  have k3 := Zf 3 _ rfl
  have k4 := Zf 4 _ rfl
  have k5 := Zf 5 _ rfl
  have k6 := Zf 6 _ rfl
  have k7 := Zf 7 _ rfl
  have HB4 := Lib.hid (HB.out.trans (hb4.mono HB.out.size))
  clear Y Yf Z Zf hb4 HY HZ HB HC x0 x1 x2 x3 x4 x5
  go_wp2_with fail
  refine bodyPost_ret (v := .agg #[.int .i64 0, .int .i64 0, .slice none 0 0, .slice none 0 0, .int .u64 0, .int .i64 0, .bool D, .int .i64 E]) ?_ rfl ⟨⟨_, _, rfl, hQ.nil, hQ.nil⟩, ?_⟩
  · simp [results, Try.results59, go_sem, z0, z1, z2, z3, z4, z5, z6, z7]
  · repeat (with_reducible refine Below.setCell ?_ (by first | (simp; done) | (simp; omega)) _)
    exact HB4.out

set_option maxHeartbeats 2000000 in
set_option maxRecDepth 100000 in
theorem wants12_2 {Q : World → Nat → Value → Nat → (Nat → Raw) → Prop} (hQ : KeepQ Q) (r c p : Int) (s : Value) (n : Nat) (x : Nat → Raw) (sb : Value) (nb : Nat) (b : Nat → Raw) (w : World) (hr : RdL w s n x) (hrb : RdL w sb nb b) (D E : Int)
    (hcall : ∀ W, Below w.heap.size w W → Calls Try.prog 83 #[.int .u64 p] W fun e w' => e = .returned (.tuple #[.int .u64 D, .int .i64 E]) ∧ Below W.heap.size W w') :
    Calls Try.prog 59 #[.agg #[.int .i64 2, .int .i64 r, .int .i64 c, s, sb, .int .u64 p]] w fun e w' => AnsD.post ⟨0, 0, 0, fun _ => small 0, 0, fun _ => small 0, D, 0, false, E⟩ Q w.heap.size e w' ∧ Below w.heap.size w w' := by
  obtain ⟨a, cap, rfl, -⟩ := hr.slice
  obtain ⟨ab, capb, rfl, -⟩ := hrb.slice
  obtain ⟨hx, hy, hz, hb, hs3⟩ := opBox w [.int .i64 2, .int .i64 r, .int .i64 c, .slice a n cap, .slice ab nb capb, .int .u64 p] 62 92
  have hcall := hcall _ hb
  have HC := Lib.hid hcall
  have HY := Lib.hid hy
  have HZ := Lib.hid hz
  have HB := Lib.hid hb
  have HS3 := Lib.hid hs3
  have x0 := hx 0 _ rfl
  have x1 := hx 1 _ rfl
  have x2 := hx 2 _ rfl
  have x3 := hx 3 _ rfl
  have x4 := hx 4 _ rfl
  have x5 := hx 5 _ rfl
  clear hr hrb hx hy hz hb hs3 hcall
  go_enter Try.func59, Try.ntmps59
  go_wp2_with fail
  refine HC.out.mono ?_
  rintro e w4 ⟨rfl, hb4⟩
  have Y := fun i y h => cell_stays hb4 (HZ.out i y h).1
  have Yf := fun i y h => froz_stays hb4 (HZ.out i y h).1 (HZ.out i y h).2
  have Z := fun i y h => cell_stays hb4 (HY.out i y h).1
  have Zf := fun i y h => froz_stays hb4 (HY.out i y h).1 (HY.out i y h).2
  have y0 := Y 0 _ rfl
  have y1 := Y 1 _ rfl
  have y2 := Y 2 _ rfl
  have y3 := Y 3 _ rfl
  have y4 := Y 4 _ rfl
  have y5 := Y 5 _ rfl
  have y6 := Y 6 _ rfl
  have y7 := Y 7 _ rfl
  have f0 := Yf 0 _ rfl
  have f1 := Yf 1 _ rfl
  have f2 := Yf 2 _ rfl
  have f3 := Yf 3 _ rfl
  have f4 := Yf 4 _ rfl
  have f5 := Yf 5 _ rfl
  have f6 := Yf 6 _ rfl
  have f7 := Yf 7 _ rfl
  have z0 := Z 0 _ rfl
  have z1 := Z 1 _ rfl
  have z2 := Z 2 _ rfl
  have z3 := Z 3 _ rfl
  have z4 := Z 4 _ rfl
  have z5 := Z 5 _ rfl
  have z6 := Z 6 _ rfl
  have z7 := Z 7 _ rfl
  have k0 := Zf 0 _ rfl
  have k1 := Zf 1 _ rfl
  have k2 := Zf 2 _ rfl
  have k3 := Zf 3 _ rfl
  have k4 := Zf 4 _ rfl
  have k5 := Zf 5 _ rfl
  have k6 := Zf 6 _ rfl
  have k7 := Zf 7 _ rfl
  have HB4 := Lib.hid (HB.out.trans (hb4.mono HB.out.size))
  clear Y Yf Z Zf hb4 HY HZ HB HC x0 x1 x2 x3 x4 x5
  go_wp2_with fail
  refine bodyPost_ret (v := .agg #[.int .i64 0, .int .i64 0, .slice none 0 0, .slice none 0 0, .int .u64 D, .int .i64 0, .bool false, .int .i64 E]) ?_ rfl ⟨⟨_, _, rfl, hQ.nil, hQ.nil⟩, ?_⟩
  · simp [results, Try.results59, go_sem, z0, z1, z2, z3, z4, z5, z6, z7]
  · repeat (with_reducible refine Below.setCell ?_ (by first | (simp; done) | (simp; omega)) _)
    exact HB4.out

set_option maxHeartbeats 2000000 in
set_option maxRecDepth 100000 in
theorem wants12_3 {Q : World → Nat → Value → Nat → (Nat → Raw) → Prop} (hQ : KeepQ Q) (r c p : Int) (s : Value) (n : Nat) (x : Nat → Raw) (sb : Value) (nb : Nat) (b : Nat → Raw) (w : World) (hr : RdL w s n x) (hrb : RdL w sb nb b) (rr cc : Int) (nn : Nat) (X : Nat → Raw) (E : Int)
    (hcall : ∀ W, Below w.heap.size w W → Calls Try.prog 84 #[.agg #[.int .i64 r, .int .i64 c, s], .int .u64 p] W fun e w' => MatA Q rr cc nn X E W.heap.size e w' ∧ Below W.heap.size W w') :
    Calls Try.prog 59 #[.agg #[.int .i64 3, .int .i64 r, .int .i64 c, s, sb, .int .u64 p]] w fun e w' => AnsD.post ⟨rr, cc, nn, X, 0, fun _ => small 0, 0, 0, false, E⟩ Q w.heap.size e w' ∧ Below w.heap.size w w' := by
  obtain ⟨a, cap, rfl, -⟩ := hr.slice
  obtain ⟨ab, capb, rfl, -⟩ := hrb.slice
  obtain ⟨hx, hy, hz, hb, hs3⟩ := opBox w [.int .i64 3, .int .i64 r, .int .i64 c, .slice a n cap, .slice ab nb capb, .int .u64 p] 62 92
  have hcall := hcall _ hb
  have HC := Lib.hid hcall
  have HY := Lib.hid hy
  have HZ := Lib.hid hz
  have HB := Lib.hid hb
  have HS3 := Lib.hid hs3
  have x0 := hx 0 _ rfl
  have x1 := hx 1 _ rfl
  have x2 := hx 2 _ rfl
  have x3 := hx 3 _ rfl
  have x4 := hx 4 _ rfl
  have x5 := hx 5 _ rfl
  clear hr hrb hx hy hz hb hs3 hcall
  go_enter Try.func59, Try.ntmps59
  go_wp2_with fail
  refine HC.out.mono ?_
  rintro e w4 ⟨⟨s4, rfl, hfr⟩, hb4⟩
  rw [HS3.out] at hfr
  obtain ⟨a4, c4, rfl⟩ := hQ.slice hfr
  have HFR := Lib.hid hfr
  clear hfr
  have Y := fun i y h => cell_stays hb4 (HZ.out i y h).1
  have Yf := fun i y h => froz_stays hb4 (HZ.out i y h).1 (HZ.out i y h).2
  have Z := fun i y h => cell_stays hb4 (HY.out i y h).1
  have Zf := fun i y h => froz_stays hb4 (HY.out i y h).1 (HY.out i y h).2
  have y0 := Y 0 _ rfl
  have y1 := Y 1 _ rfl
  have y2 := Y 2 _ rfl
  have y3 := Y 3 _ rfl
  have y4 := Y 4 _ rfl
  have y5 := Y 5 _ rfl
  have y6 := Y 6 _ rfl
  have y7 := Y 7 _ rfl
  have f0 := Yf 0 _ rfl
  have f1 := Yf 1 _ rfl
  have f2 := Yf 2 _ rfl
  have f3 := Yf 3 _ rfl
  have f4 := Yf 4 _ rfl
  have f5 := Yf 5 _ rfl
  have f6 := Yf 6 _ rfl
  have f7 := Yf 7 _ rfl
  have z0 := Z 0 _ rfl
  have z1 := Z 1 _ rfl
  have z2 := Z 2 _ rfl
  have z3 := Z 3 _ rfl
  have z4 := Z 4 _ rfl
  have z5 := Z 5 _ rfl
  have z6 := Z 6 _ rfl
  have z7 := Z 7 _ rfl
  have k0 := Zf 0 _ rfl
  have k1 := Zf 1 _ rfl
  have k2 := Zf 2 _ rfl
  have k3 := Zf 3 _ rfl
  have k4 := Zf 4 _ rfl
  have k5 := Zf 5 _ rfl
  have k6 := Zf 6 _ rfl
  have k7 := Zf 7 _ rfl
  have HB4 := Lib.hid (HB.out.trans (hb4.mono HB.out.size))
  clear Y Yf Z Zf hb4 HY HZ HB HC x0 x1 x2 x3 x4 x5
  go_wp2_with fail
  refine bodyPost_ret (v := .agg #[.int .i64 rr, .int .i64 cc, .slice a4 nn c4, .slice none 0 0, .int .u64 0, .int .i64 0, .bool false, .int .i64 E]) ?_ rfl ⟨⟨_, _, rfl, (by
    refine hQ.mono (base := w.heap.size + 3) ?_ (by omega)
    repeat (with_reducible refine hQ.set ?_ (by first | (simp; done) | (simp; omega)) _)
    exact HFR.out), hQ.nil⟩, ?_⟩
  · simp [results, Try.results59, go_sem, z0, z1, z2, z3, z4, z5, z6, z7]
  · repeat (with_reducible refine Below.setCell ?_ (by first | (simp; done) | (simp; omega)) _)
    exact HB4.out

set_option maxHeartbeats 2000000 in
set_option maxRecDepth 100000 in
theorem wants12_4 {Q : World → Nat → Value → Nat → (Nat → Raw) → Prop} (hQ : KeepQ Q) (r c p : Int) (s : Value) (n : Nat) (x : Nat → Raw) (sb : Value) (nb : Nat) (b : Nat → Raw) (w : World) (hr : RdL w s n x) (hrb : RdL w sb nb b) (D E : Int)
    (hcall : ∀ W, Below w.heap.size w W → Calls Try.prog 85 #[.agg #[.int .i64 r, .int .i64 c, s], .int .u64 p] W fun e w' => e = .returned (.tuple #[.int .u64 D, .int .i64 E]) ∧ Below W.heap.size W w') :
    Calls Try.prog 59 #[.agg #[.int .i64 4, .int .i64 r, .int .i64 c, s, sb, .int .u64 p]] w fun e w' => AnsD.post ⟨0, 0, 0, fun _ => small 0, 0, fun _ => small 0, D, 0, false, E⟩ Q w.heap.size e w' ∧ Below w.heap.size w w' := by
  obtain ⟨a, cap, rfl, -⟩ := hr.slice
  obtain ⟨ab, capb, rfl, -⟩ := hrb.slice
  obtain ⟨hx, hy, hz, hb, hs3⟩ := opBox w [.int .i64 4, .int .i64 r, .int .i64 c, .slice a n cap, .slice ab nb capb, .int .u64 p] 62 92
  have hcall := hcall _ hb
  have HC := Lib.hid hcall
  have HY := Lib.hid hy
  have HZ := Lib.hid hz
  have HB := Lib.hid hb
  have HS3 := Lib.hid hs3
  have x0 := hx 0 _ rfl
  have x1 := hx 1 _ rfl
  have x2 := hx 2 _ rfl
  have x3 := hx 3 _ rfl
  have x4 := hx 4 _ rfl
  have x5 := hx 5 _ rfl
  clear hr hrb hx hy hz hb hs3 hcall
  go_enter Try.func59, Try.ntmps59
  go_wp2_with fail
  refine HC.out.mono ?_
  rintro e w4 ⟨rfl, hb4⟩
  have Y := fun i y h => cell_stays hb4 (HZ.out i y h).1
  have Yf := fun i y h => froz_stays hb4 (HZ.out i y h).1 (HZ.out i y h).2
  have Z := fun i y h => cell_stays hb4 (HY.out i y h).1
  have Zf := fun i y h => froz_stays hb4 (HY.out i y h).1 (HY.out i y h).2
  have y0 := Y 0 _ rfl
  have y1 := Y 1 _ rfl
  have y2 := Y 2 _ rfl
  have y3 := Y 3 _ rfl
  have y4 := Y 4 _ rfl
  have y5 := Y 5 _ rfl
  have y6 := Y 6 _ rfl
  have y7 := Y 7 _ rfl
  have f0 := Yf 0 _ rfl
  have f1 := Yf 1 _ rfl
  have f2 := Yf 2 _ rfl
  have f3 := Yf 3 _ rfl
  have f4 := Yf 4 _ rfl
  have f5 := Yf 5 _ rfl
  have f6 := Yf 6 _ rfl
  have f7 := Yf 7 _ rfl
  have z0 := Z 0 _ rfl
  have z1 := Z 1 _ rfl
  have z2 := Z 2 _ rfl
  have z3 := Z 3 _ rfl
  have z4 := Z 4 _ rfl
  have z5 := Z 5 _ rfl
  have z6 := Z 6 _ rfl
  have z7 := Z 7 _ rfl
  have k0 := Zf 0 _ rfl
  have k1 := Zf 1 _ rfl
  have k2 := Zf 2 _ rfl
  have k3 := Zf 3 _ rfl
  have k4 := Zf 4 _ rfl
  have k5 := Zf 5 _ rfl
  have k6 := Zf 6 _ rfl
  have k7 := Zf 7 _ rfl
  have HB4 := Lib.hid (HB.out.trans (hb4.mono HB.out.size))
  clear Y Yf Z Zf hb4 HY HZ HB HC x0 x1 x2 x3 x4 x5
  go_wp2_with fail
  refine bodyPost_ret (v := .agg #[.int .i64 0, .int .i64 0, .slice none 0 0, .slice none 0 0, .int .u64 D, .int .i64 0, .bool false, .int .i64 E]) ?_ rfl ⟨⟨_, _, rfl, hQ.nil, hQ.nil⟩, ?_⟩
  · simp [results, Try.results59, go_sem, z0, z1, z2, z3, z4, z5, z6, z7]
  · repeat (with_reducible refine Below.setCell ?_ (by first | (simp; done) | (simp; omega)) _)
    exact HB4.out

set_option maxHeartbeats 2000000 in
set_option maxRecDepth 100000 in
theorem wants12_5 {Q : World → Nat → Value → Nat → (Nat → Raw) → Prop} (hQ : KeepQ Q) (r c p : Int) (s : Value) (n : Nat) (x : Nat → Raw) (sb : Value) (nb : Nat) (b : Nat → Raw) (w : World) (hr : RdL w s n x) (hrb : RdL w sb nb b) (D E : Int)
    (hcall : ∀ W, Below w.heap.size w W → Calls Try.prog 86 #[.agg #[.int .i64 r, .int .i64 c, s], .int .u64 p] W fun e w' => e = .returned (.tuple #[.int .i64 D, .int .i64 E]) ∧ Below W.heap.size W w') :
    Calls Try.prog 59 #[.agg #[.int .i64 5, .int .i64 r, .int .i64 c, s, sb, .int .u64 p]] w fun e w' => AnsD.post ⟨0, 0, 0, fun _ => small 0, 0, fun _ => small 0, 0, D, false, E⟩ Q w.heap.size e w' ∧ Below w.heap.size w w' := by
  obtain ⟨a, cap, rfl, -⟩ := hr.slice
  obtain ⟨ab, capb, rfl, -⟩ := hrb.slice
  obtain ⟨hx, hy, hz, hb, hs3⟩ := opBox w [.int .i64 5, .int .i64 r, .int .i64 c, .slice a n cap, .slice ab nb capb, .int .u64 p] 62 92
  have hcall := hcall _ hb
  have HC := Lib.hid hcall
  have HY := Lib.hid hy
  have HZ := Lib.hid hz
  have HB := Lib.hid hb
  have HS3 := Lib.hid hs3
  have x0 := hx 0 _ rfl
  have x1 := hx 1 _ rfl
  have x2 := hx 2 _ rfl
  have x3 := hx 3 _ rfl
  have x4 := hx 4 _ rfl
  have x5 := hx 5 _ rfl
  clear hr hrb hx hy hz hb hs3 hcall
  go_enter Try.func59, Try.ntmps59
  go_wp2_with fail
  refine HC.out.mono ?_
  rintro e w4 ⟨rfl, hb4⟩
  have Y := fun i y h => cell_stays hb4 (HZ.out i y h).1
  have Yf := fun i y h => froz_stays hb4 (HZ.out i y h).1 (HZ.out i y h).2
  have Z := fun i y h => cell_stays hb4 (HY.out i y h).1
  have Zf := fun i y h => froz_stays hb4 (HY.out i y h).1 (HY.out i y h).2
  have y0 := Y 0 _ rfl
  have y1 := Y 1 _ rfl
  have y2 := Y 2 _ rfl
  have y3 := Y 3 _ rfl
  have y4 := Y 4 _ rfl
  have y5 := Y 5 _ rfl
  have y6 := Y 6 _ rfl
  have y7 := Y 7 _ rfl
  have f0 := Yf 0 _ rfl
  have f1 := Yf 1 _ rfl
  have f2 := Yf 2 _ rfl
  have f3 := Yf 3 _ rfl
  have f4 := Yf 4 _ rfl
  have f5 := Yf 5 _ rfl
  have f6 := Yf 6 _ rfl
  have f7 := Yf 7 _ rfl
  have z0 := Z 0 _ rfl
  have z1 := Z 1 _ rfl
  have z2 := Z 2 _ rfl
  have z3 := Z 3 _ rfl
  have z4 := Z 4 _ rfl
  have z5 := Z 5 _ rfl
  have z6 := Z 6 _ rfl
  have z7 := Z 7 _ rfl
  have k0 := Zf 0 _ rfl
  have k1 := Zf 1 _ rfl
  have k2 := Zf 2 _ rfl
  have k3 := Zf 3 _ rfl
  have k4 := Zf 4 _ rfl
  have k5 := Zf 5 _ rfl
  have k6 := Zf 6 _ rfl
  have k7 := Zf 7 _ rfl
  have HB4 := Lib.hid (HB.out.trans (hb4.mono HB.out.size))
  clear Y Yf Z Zf hb4 HY HZ HB HC x0 x1 x2 x3 x4 x5
  go_wp2_with fail
  refine bodyPost_ret (v := .agg #[.int .i64 0, .int .i64 0, .slice none 0 0, .slice none 0 0, .int .u64 0, .int .i64 D, .bool false, .int .i64 E]) ?_ rfl ⟨⟨_, _, rfl, hQ.nil, hQ.nil⟩, ?_⟩
  · simp [results, Try.results59, go_sem, z0, z1, z2, z3, z4, z5, z6, z7]
  · repeat (with_reducible refine Below.setCell ?_ (by first | (simp; done) | (simp; omega)) _)
    exact HB4.out

set_option maxHeartbeats 2000000 in
set_option maxRecDepth 100000 in
theorem wants12_6 {Q : World → Nat → Value → Nat → (Nat → Raw) → Prop} (hQ : KeepQ Q) (r c p : Int) (s : Value) (n : Nat) (x : Nat → Raw) (sb : Value) (nb : Nat) (b : Nat → Raw) (w : World) (hr : RdL w s n x) (hrb : RdL w sb nb b) (rr cc : Int) (nn : Nat) (X : Nat → Raw) (E : Int)
    (hcall : ∀ W, Below w.heap.size w W → Calls Try.prog 87 #[.agg #[.int .i64 r, .int .i64 c, s], .int .u64 p] W fun e w' => MatA Q rr cc nn X E W.heap.size e w' ∧ Below W.heap.size W w') :
    Calls Try.prog 59 #[.agg #[.int .i64 6, .int .i64 r, .int .i64 c, s, sb, .int .u64 p]] w fun e w' => AnsD.post ⟨rr, cc, nn, X, 0, fun _ => small 0, 0, 0, false, E⟩ Q w.heap.size e w' ∧ Below w.heap.size w w' := by
  obtain ⟨a, cap, rfl, -⟩ := hr.slice
  obtain ⟨ab, capb, rfl, -⟩ := hrb.slice
  obtain ⟨hx, hy, hz, hb, hs3⟩ := opBox w [.int .i64 6, .int .i64 r, .int .i64 c, .slice a n cap, .slice ab nb capb, .int .u64 p] 62 92
  have hcall := hcall _ hb
  have HC := Lib.hid hcall
  have HY := Lib.hid hy
  have HZ := Lib.hid hz
  have HB := Lib.hid hb
  have HS3 := Lib.hid hs3
  have x0 := hx 0 _ rfl
  have x1 := hx 1 _ rfl
  have x2 := hx 2 _ rfl
  have x3 := hx 3 _ rfl
  have x4 := hx 4 _ rfl
  have x5 := hx 5 _ rfl
  clear hr hrb hx hy hz hb hs3 hcall
  go_enter Try.func59, Try.ntmps59
  go_wp2_with fail
  refine HC.out.mono ?_
  rintro e w4 ⟨⟨s4, rfl, hfr⟩, hb4⟩
  rw [HS3.out] at hfr
  obtain ⟨a4, c4, rfl⟩ := hQ.slice hfr
  have HFR := Lib.hid hfr
  clear hfr
  have Y := fun i y h => cell_stays hb4 (HZ.out i y h).1
  have Yf := fun i y h => froz_stays hb4 (HZ.out i y h).1 (HZ.out i y h).2
  have Z := fun i y h => cell_stays hb4 (HY.out i y h).1
  have Zf := fun i y h => froz_stays hb4 (HY.out i y h).1 (HY.out i y h).2
  have y0 := Y 0 _ rfl
  have y1 := Y 1 _ rfl
  have y2 := Y 2 _ rfl
  have y3 := Y 3 _ rfl
  have y4 := Y 4 _ rfl
  have y5 := Y 5 _ rfl
  have y6 := Y 6 _ rfl
  have y7 := Y 7 _ rfl
  have f0 := Yf 0 _ rfl
  have f1 := Yf 1 _ rfl
  have f2 := Yf 2 _ rfl
  have f3 := Yf 3 _ rfl
  have f4 := Yf 4 _ rfl
  have f5 := Yf 5 _ rfl
  have f6 := Yf 6 _ rfl
  have f7 := Yf 7 _ rfl
  have z0 := Z 0 _ rfl
  have z1 := Z 1 _ rfl
  have z2 := Z 2 _ rfl
  have z3 := Z 3 _ rfl
  have z4 := Z 4 _ rfl
  have z5 := Z 5 _ rfl
  have z6 := Z 6 _ rfl
  have z7 := Z 7 _ rfl
  have k0 := Zf 0 _ rfl
  have k1 := Zf 1 _ rfl
  have k2 := Zf 2 _ rfl
  have k3 := Zf 3 _ rfl
  have k4 := Zf 4 _ rfl
  have k5 := Zf 5 _ rfl
  have k6 := Zf 6 _ rfl
  have k7 := Zf 7 _ rfl
  have HB4 := Lib.hid (HB.out.trans (hb4.mono HB.out.size))
  clear Y Yf Z Zf hb4 HY HZ HB HC x0 x1 x2 x3 x4 x5
  go_wp2_with fail
  refine bodyPost_ret (v := .agg #[.int .i64 rr, .int .i64 cc, .slice a4 nn c4, .slice none 0 0, .int .u64 0, .int .i64 0, .bool false, .int .i64 E]) ?_ rfl ⟨⟨_, _, rfl, (by
    refine hQ.mono (base := w.heap.size + 3) ?_ (by omega)
    repeat (with_reducible refine hQ.set ?_ (by first | (simp; done) | (simp; omega)) _)
    exact HFR.out), hQ.nil⟩, ?_⟩
  · simp [results, Try.results59, go_sem, z0, z1, z2, z3, z4, z5, z6, z7]
  · repeat (with_reducible refine Below.setCell ?_ (by first | (simp; done) | (simp; omega)) _)
    exact HB4.out

set_option maxHeartbeats 2000000 in
set_option maxRecDepth 100000 in
theorem wants12_7 {Q : World → Nat → Value → Nat → (Nat → Raw) → Prop} (hQ : KeepQ Q) (r c p : Int) (s : Value) (n : Nat) (x : Nat → Raw) (sb : Value) (nb : Nat) (b : Nat → Raw) (w : World) (hr : RdL w s n x) (hrb : RdL w sb nb b) (rr cc : Int) (nn : Nat) (X : Nat → Raw) (E : Int)
    (hcall : ∀ W, Below w.heap.size w W → Calls Try.prog 88 #[.agg #[.int .i64 r, .int .i64 c, s], .int .u64 p] W fun e w' => MatA Q rr cc nn X E W.heap.size e w' ∧ Below W.heap.size W w') :
    Calls Try.prog 59 #[.agg #[.int .i64 7, .int .i64 r, .int .i64 c, s, sb, .int .u64 p]] w fun e w' => AnsD.post ⟨rr, cc, nn, X, 0, fun _ => small 0, 0, 0, false, E⟩ Q w.heap.size e w' ∧ Below w.heap.size w w' := by
  obtain ⟨a, cap, rfl, -⟩ := hr.slice
  obtain ⟨ab, capb, rfl, -⟩ := hrb.slice
  obtain ⟨hx, hy, hz, hb, hs3⟩ := opBox w [.int .i64 7, .int .i64 r, .int .i64 c, .slice a n cap, .slice ab nb capb, .int .u64 p] 62 92
  have hcall := hcall _ hb
  have HC := Lib.hid hcall
  have HY := Lib.hid hy
  have HZ := Lib.hid hz
  have HB := Lib.hid hb
  have HS3 := Lib.hid hs3
  have x0 := hx 0 _ rfl
  have x1 := hx 1 _ rfl
  have x2 := hx 2 _ rfl
  have x3 := hx 3 _ rfl
  have x4 := hx 4 _ rfl
  have x5 := hx 5 _ rfl
  clear hr hrb hx hy hz hb hs3 hcall
  go_enter Try.func59, Try.ntmps59
  go_wp2_with fail
  refine HC.out.mono ?_
  rintro e w4 ⟨⟨s4, rfl, hfr⟩, hb4⟩
  rw [HS3.out] at hfr
  obtain ⟨a4, c4, rfl⟩ := hQ.slice hfr
  have HFR := Lib.hid hfr
  clear hfr
  have Y := fun i y h => cell_stays hb4 (HZ.out i y h).1
  have Yf := fun i y h => froz_stays hb4 (HZ.out i y h).1 (HZ.out i y h).2
  have Z := fun i y h => cell_stays hb4 (HY.out i y h).1
  have Zf := fun i y h => froz_stays hb4 (HY.out i y h).1 (HY.out i y h).2
  have y0 := Y 0 _ rfl
  have y1 := Y 1 _ rfl
  have y2 := Y 2 _ rfl
  have y3 := Y 3 _ rfl
  have y4 := Y 4 _ rfl
  have y5 := Y 5 _ rfl
  have y6 := Y 6 _ rfl
  have y7 := Y 7 _ rfl
  have f0 := Yf 0 _ rfl
  have f1 := Yf 1 _ rfl
  have f2 := Yf 2 _ rfl
  have f3 := Yf 3 _ rfl
  have f4 := Yf 4 _ rfl
  have f5 := Yf 5 _ rfl
  have f6 := Yf 6 _ rfl
  have f7 := Yf 7 _ rfl
  have z0 := Z 0 _ rfl
  have z1 := Z 1 _ rfl
  have z2 := Z 2 _ rfl
  have z3 := Z 3 _ rfl
  have z4 := Z 4 _ rfl
  have z5 := Z 5 _ rfl
  have z6 := Z 6 _ rfl
  have z7 := Z 7 _ rfl
  have k0 := Zf 0 _ rfl
  have k1 := Zf 1 _ rfl
  have k2 := Zf 2 _ rfl
  have k3 := Zf 3 _ rfl
  have k4 := Zf 4 _ rfl
  have k5 := Zf 5 _ rfl
  have k6 := Zf 6 _ rfl
  have k7 := Zf 7 _ rfl
  have HB4 := Lib.hid (HB.out.trans (hb4.mono HB.out.size))
  clear Y Yf Z Zf hb4 HY HZ HB HC x0 x1 x2 x3 x4 x5
  go_wp2_with fail
  refine bodyPost_ret (v := .agg #[.int .i64 rr, .int .i64 cc, .slice a4 nn c4, .slice none 0 0, .int .u64 0, .int .i64 0, .bool false, .int .i64 E]) ?_ rfl ⟨⟨_, _, rfl, (by
    refine hQ.mono (base := w.heap.size + 3) ?_ (by omega)
    repeat (with_reducible refine hQ.set ?_ (by first | (simp; done) | (simp; omega)) _)
    exact HFR.out), hQ.nil⟩, ?_⟩
  · simp [results, Try.results59, go_sem, z0, z1, z2, z3, z4, z5, z6, z7]
  · repeat (with_reducible refine Below.setCell ?_ (by first | (simp; done) | (simp; omega)) _)
    exact HB4.out

set_option maxHeartbeats 2000000 in
set_option maxRecDepth 100000 in
theorem wants12_8 {Q : World → Nat → Value → Nat → (Nat → Raw) → Prop} (hQ : KeepQ Q) (r c p : Int) (s : Value) (n : Nat) (x : Nat → Raw) (sb : Value) (nb : Nat) (b : Nat → Raw) (w : World) (hr : RdL w s n x) (hrb : RdL w sb nb b) (rr cc : Int) (nn : Nat) (X : Nat → Raw) (E : Int)
    (hcall : ∀ W, Below w.heap.size w W → Calls Try.prog 89 #[.agg #[.int .i64 r, .int .i64 c, s], .int .u64 p] W fun e w' => MatA Q rr cc nn X E W.heap.size e w' ∧ Below W.heap.size W w') :
    Calls Try.prog 59 #[.agg #[.int .i64 8, .int .i64 r, .int .i64 c, s, sb, .int .u64 p]] w fun e w' => AnsD.post ⟨rr, cc, nn, X, 0, fun _ => small 0, 0, 0, false, E⟩ Q w.heap.size e w' ∧ Below w.heap.size w w' := by
  obtain ⟨a, cap, rfl, -⟩ := hr.slice
  obtain ⟨ab, capb, rfl, -⟩ := hrb.slice
  obtain ⟨hx, hy, hz, hb, hs3⟩ := opBox w [.int .i64 8, .int .i64 r, .int .i64 c, .slice a n cap, .slice ab nb capb, .int .u64 p] 62 92
  have hcall := hcall _ hb
  have HC := Lib.hid hcall
  have HY := Lib.hid hy
  have HZ := Lib.hid hz
  have HB := Lib.hid hb
  have HS3 := Lib.hid hs3
  have x0 := hx 0 _ rfl
  have x1 := hx 1 _ rfl
  have x2 := hx 2 _ rfl
  have x3 := hx 3 _ rfl
  have x4 := hx 4 _ rfl
  have x5 := hx 5 _ rfl
  clear hr hrb hx hy hz hb hs3 hcall
  go_enter Try.func59, Try.ntmps59
  go_wp2_with fail
  refine HC.out.mono ?_
  rintro e w4 ⟨⟨s4, rfl, hfr⟩, hb4⟩
  rw [HS3.out] at hfr
  obtain ⟨a4, c4, rfl⟩ := hQ.slice hfr
  have HFR := Lib.hid hfr
  clear hfr
  have Y := fun i y h => cell_stays hb4 (HZ.out i y h).1
  have Yf := fun i y h => froz_stays hb4 (HZ.out i y h).1 (HZ.out i y h).2
  have Z := fun i y h => cell_stays hb4 (HY.out i y h).1
  have Zf := fun i y h => froz_stays hb4 (HY.out i y h).1 (HY.out i y h).2
  have y0 := Y 0 _ rfl
  have y1 := Y 1 _ rfl
  have y2 := Y 2 _ rfl
  have y3 := Y 3 _ rfl
  have y4 := Y 4 _ rfl
  have y5 := Y 5 _ rfl
  have y6 := Y 6 _ rfl
  have y7 := Y 7 _ rfl
  have f0 := Yf 0 _ rfl
  have f1 := Yf 1 _ rfl
  have f2 := Yf 2 _ rfl
  have f3 := Yf 3 _ rfl
  have f4 := Yf 4 _ rfl
  have f5 := Yf 5 _ rfl
  have f6 := Yf 6 _ rfl
  have f7 := Yf 7 _ rfl
  have z0 := Z 0 _ rfl
  have z1 := Z 1 _ rfl
  have z2 := Z 2 _ rfl
  have z3 := Z 3 _ rfl
  have z4 := Z 4 _ rfl
  have z5 := Z 5 _ rfl
  have z6 := Z 6 _ rfl
  have z7 := Z 7 _ rfl
  have k0 := Zf 0 _ rfl
  have k1 := Zf 1 _ rfl
  have k2 := Zf 2 _ rfl
  have k3 := Zf 3 _ rfl
  have k4 := Zf 4 _ rfl
  have k5 := Zf 5 _ rfl
  have k6 := Zf 6 _ rfl
  have k7 := Zf 7 _ rfl
  have HB4 := Lib.hid (HB.out.trans (hb4.mono HB.out.size))
  clear Y Yf Z Zf hb4 HY HZ HB HC x0 x1 x2 x3 x4 x5
  go_wp2_with fail
  refine bodyPost_ret (v := .agg #[.int .i64 rr, .int .i64 cc, .slice a4 nn c4, .slice none 0 0, .int .u64 0, .int .i64 0, .bool false, .int .i64 E]) ?_ rfl ⟨⟨_, _, rfl, (by
    refine hQ.mono (base := w.heap.size + 3) ?_ (by omega)
    repeat (with_reducible refine hQ.set ?_ (by first | (simp; done) | (simp; omega)) _)
    exact HFR.out), hQ.nil⟩, ?_⟩
  · simp [results, Try.results59, go_sem, z0, z1, z2, z3, z4, z5, z6, z7]
  · repeat (with_reducible refine Below.setCell ?_ (by first | (simp; done) | (simp; omega)) _)
    exact HB4.out

set_option maxHeartbeats 2000000 in
set_option maxRecDepth 100000 in
theorem wants12_9 {Q : World → Nat → Value → Nat → (Nat → Raw) → Prop} (hQ : KeepQ Q) (r c p : Int) (s : Value) (n : Nat) (x : Nat → Raw) (sb : Value) (nb : Nat) (b : Nat → Raw) (w : World) (hr : RdL w s n x) (hrb : RdL w sb nb b) (nn : Nat) (X : Nat → Raw) (E : Int)
    (hcall : ∀ W, Below w.heap.size w W → Calls Try.prog 90 #[.agg #[.int .i64 r, .int .i64 c, s], sb, .int .u64 p] W fun e w' => LstA Q nn X E W.heap.size e w' ∧ Below W.heap.size W w') :
    Calls Try.prog 59 #[.agg #[.int .i64 9, .int .i64 r, .int .i64 c, s, sb, .int .u64 p]] w fun e w' => AnsD.post ⟨0, 0, 0, fun _ => small 0, nn, X, 0, 0, false, E⟩ Q w.heap.size e w' ∧ Below w.heap.size w w' := by
  obtain ⟨a, cap, rfl, -⟩ := hr.slice
  obtain ⟨ab, capb, rfl, -⟩ := hrb.slice
  obtain ⟨hx, hy, hz, hb, hs3⟩ := opBox w [.int .i64 9, .int .i64 r, .int .i64 c, .slice a n cap, .slice ab nb capb, .int .u64 p] 62 92
  have hcall := hcall _ hb
  have HC := Lib.hid hcall
  have HY := Lib.hid hy
  have HZ := Lib.hid hz
  have HB := Lib.hid hb
  have HS3 := Lib.hid hs3
  have x0 := hx 0 _ rfl
  have x1 := hx 1 _ rfl
  have x2 := hx 2 _ rfl
  have x3 := hx 3 _ rfl
  have x4 := hx 4 _ rfl
  have x5 := hx 5 _ rfl
  clear hr hrb hx hy hz hb hs3 hcall
  go_enter Try.func59, Try.ntmps59
  go_wp2_with fail
  refine HC.out.mono ?_
  rintro e w4 ⟨⟨s4, rfl, hfr⟩, hb4⟩
  rw [HS3.out] at hfr
  obtain ⟨a4, c4, rfl⟩ := hQ.slice hfr
  have HFR := Lib.hid hfr
  clear hfr
  have Y := fun i y h => cell_stays hb4 (HZ.out i y h).1
  have Yf := fun i y h => froz_stays hb4 (HZ.out i y h).1 (HZ.out i y h).2
  have Z := fun i y h => cell_stays hb4 (HY.out i y h).1
  have Zf := fun i y h => froz_stays hb4 (HY.out i y h).1 (HY.out i y h).2
  have y0 := Y 0 _ rfl
  have y1 := Y 1 _ rfl
  have y2 := Y 2 _ rfl
  have y3 := Y 3 _ rfl
  have y4 := Y 4 _ rfl
  have y5 := Y 5 _ rfl
  have y6 := Y 6 _ rfl
  have y7 := Y 7 _ rfl
  have f0 := Yf 0 _ rfl
  have f1 := Yf 1 _ rfl
  have f2 := Yf 2 _ rfl
  have f3 := Yf 3 _ rfl
  have f4 := Yf 4 _ rfl
  have f5 := Yf 5 _ rfl
  have f6 := Yf 6 _ rfl
  have f7 := Yf 7 _ rfl
  have z0 := Z 0 _ rfl
  have z1 := Z 1 _ rfl
  have z2 := Z 2 _ rfl
  have z3 := Z 3 _ rfl
  have z4 := Z 4 _ rfl
  have z5 := Z 5 _ rfl
  have z6 := Z 6 _ rfl
  have z7 := Z 7 _ rfl
  have k0 := Zf 0 _ rfl
  have k1 := Zf 1 _ rfl
  have k2 := Zf 2 _ rfl
  have k3 := Zf 3 _ rfl
  have k4 := Zf 4 _ rfl
  have k5 := Zf 5 _ rfl
  have k6 := Zf 6 _ rfl
  have k7 := Zf 7 _ rfl
  have HB4 := Lib.hid (HB.out.trans (hb4.mono HB.out.size))
  clear Y Yf Z Zf hb4 HY HZ HB HC x0 x1 x2 x3 x4 x5
  go_wp2_with fail
  refine bodyPost_ret (v := .agg #[.int .i64 0, .int .i64 0, .slice none 0 0, .slice a4 nn c4, .int .u64 0, .int .i64 0, .bool false, .int .i64 E]) ?_ rfl ⟨⟨_, _, rfl, hQ.nil, (by
    refine hQ.mono (base := w.heap.size + 3) ?_ (by omega)
    repeat (with_reducible refine hQ.set ?_ (by first | (simp; done) | (simp; omega)) _)
    exact HFR.out)⟩, ?_⟩
  · simp [results, Try.results59, go_sem, z0, z1, z2, z3, z4, z5, z6, z7]
  · repeat (with_reducible refine Below.setCell ?_ (by first | (simp; done) | (simp; omega)) _)
    exact HB4.out

set_option maxHeartbeats 2000000 in
set_option maxRecDepth 100000 in
theorem wants12_0 {Q : World → Nat → Value → Nat → (Nat → Raw) → Prop} (hQ : KeepQ Q) (k r c p : Int) (s : Value) (n : Nat) (x : Nat → Raw) (sb : Value) (nb : Nat) (b : Nat → Raw) (w : World) (hr : RdL w s n x) (hrb : RdL w sb nb b) (hk : ¬ (1 ≤ k ∧ k ≤ 9)) :
    Calls Try.prog 59 #[.agg #[.int .i64 k, .int .i64 r, .int .i64 c, s, sb, .int .u64 p]] w fun e w' => AnsD.post ⟨0, 0, 0, fun _ => small 0, 0, fun _ => small 0, 0, 0, false, 0⟩ Q w.heap.size e w' ∧ Below w.heap.size w w' := by
  obtain ⟨a, cap, rfl, -⟩ := hr.slice
  obtain ⟨ab, capb, rfl, -⟩ := hrb.slice
  obtain ⟨hx, hy, hz, hb, hs3⟩ := opBox w [.int .i64 k, .int .i64 r, .int .i64 c, .slice a n cap, .slice ab nb capb, .int .u64 p] 62 92
  have HB := Lib.hid hb
  have x0 := hx 0 _ rfl
  have e1 : (k == 1) = false := beq_eq_false_iff_ne.2 (by omega)
  have e2 : (k == 2) = false := beq_eq_false_iff_ne.2 (by omega)
  have e3 : (k == 3) = false := beq_eq_false_iff_ne.2 (by omega)
  have e4 : (k == 4) = false := beq_eq_false_iff_ne.2 (by omega)
  have e5 : (k == 5) = false := beq_eq_false_iff_ne.2 (by omega)
  have e6 : (k == 6) = false := beq_eq_false_iff_ne.2 (by omega)
  have e7 : (k == 7) = false := beq_eq_false_iff_ne.2 (by omega)
  have e8 : (k == 8) = false := beq_eq_false_iff_ne.2 (by omega)
  have e9 : (k == 9) = false := beq_eq_false_iff_ne.2 (by omega)
  have y0 := (hz 0 _ rfl).1
  have f0 := (hz 0 _ rfl).2
  have z0 := (hy 0 _ rfl).1
  have k0 := (hy 0 _ rfl).2
  have y1 := (hz 1 _ rfl).1
  have f1 := (hz 1 _ rfl).2
  have z1 := (hy 1 _ rfl).1
  have k1 := (hy 1 _ rfl).2
  have y2 := (hz 2 _ rfl).1
  have f2 := (hz 2 _ rfl).2
  have z2 := (hy 2 _ rfl).1
  have k2 := (hy 2 _ rfl).2
  have y3 := (hz 3 _ rfl).1
  have f3 := (hz 3 _ rfl).2
  have z3 := (hy 3 _ rfl).1
  have k3 := (hy 3 _ rfl).2
  have y4 := (hz 4 _ rfl).1
  have f4 := (hz 4 _ rfl).2
  have z4 := (hy 4 _ rfl).1
  have k4 := (hy 4 _ rfl).2
  have y5 := (hz 5 _ rfl).1
  have f5 := (hz 5 _ rfl).2
  have z5 := (hy 5 _ rfl).1
  have k5 := (hy 5 _ rfl).2
  have y6 := (hz 6 _ rfl).1
  have f6 := (hz 6 _ rfl).2
  have z6 := (hy 6 _ rfl).1
  have k6 := (hy 6 _ rfl).2
  have y7 := (hz 7 _ rfl).1
  have f7 := (hz 7 _ rfl).2
  have z7 := (hy 7 _ rfl).1
  have k7 := (hy 7 _ rfl).2
  clear hr hrb hx hy hz hb hs3 hk
  go_enter Try.func59, Try.ntmps59
  go_wp2_with fail
  refine bodyPost_ret (v := .agg #[.int .i64 0, .int .i64 0, .slice none 0 0, .slice none 0 0, .int .u64 0, .int .i64 0, .bool false, .int .i64 0]) ?_ rfl ⟨⟨_, _, rfl, hQ.nil, hQ.nil⟩, ?_⟩
  · simp [results, Try.results59, go_sem, z0, z1, z2, z3, z4, z5, z6, z7]
  · repeat (with_reducible refine Below.setCell ?_ (by first | (simp; done) | (simp; omega)) _)
    exact HB.out
end Go.Proofs.Ytdlpemmoobbgnaa

namespace Go.Proofs.Ytdlpemmoobbgnaa
open Go.RowKit Go.ChangeShapes Go.WideShapes Go.Deep Go.Joins

/-- each slice in the datum weighs no more than the reach -/
def Fits {H : Type} (t : TypeId) (d : DataW H) : Prop := ∀ n ∈ d.weights Try.prog t, n ≤ reachBytes
theorem weights_all {H : Type} {e : TypeId} : ∀ {l : List (DataW H)} {d : DataW H}, d ∈ l → ∀ n ∈ d.weights Try.prog e, n ∈ DataW.weightsAll Try.prog e l
  | x :: r, d, hd, n, hn => by
    simp only [DataW.weightsAll, List.mem_append]
    rcases List.mem_cons.1 hd with rfl | h
    · exact Or.inl hn
    · exact Or.inr (weights_all h n hn)
theorem Fits.row {H : Type} {t e : TypeId} {n : Nat} {D : Nat → DataW H} {s : List (DataW H)} (ht : Try.prog.underlying t = some (.slice e)) (h : Fits t (.slice ((List.range n).map D) s)) : n * Try.prog.bytesOf e ≤ reachBytes ∧ ∀ i, i < n → Fits e (D i) := by
  unfold Fits at h
  simp only [DataW.weights, ht, List.length_map, List.length_range] at h
  refine ⟨Nat.le_trans (Nat.mul_le_mul_right _ (by omega)) (h _ (List.mem_cons_self ..)), fun i hi m hm => ?_⟩
  exact h m (List.mem_cons_of_mem _ (List.mem_append_left _ (weights_all (List.mem_map.2 ⟨i, List.mem_range.2 hi, rfl⟩) m hm)))
theorem Fits.part {H : Type} {t : TypeId} {fs : Array Field} {parts : List (DataW H)} (ht : Try.prog.underlying t = some (.struct fs)) (h : Fits t (.agg parts)) {j : Nat} {u : TypeId} {d : DataW H} (hu : (fs.toList.map (·.type))[j]? = some u) (hd : parts[j]? = some d) : Fits u d := fun n hn => by
  refine h n ?_
  simp only [DataW.weights, ht]
  exact DataW.weights_mem_each hu hd n hn

section
variable {H : Type} {enc : TypeId × Value → H} {w : World} {base : Nat} {spare : Nat → Bool} {held : Bool}

theorem bytes_w : Try.prog.bytesOf 22 = 8 := by kernel_rfl
theorem bytes_I : Try.prog.bytesOf 56 = 32 := by kernel_rfl
theorem bytes_O : Try.prog.bytesOf 62 = 80 := by kernel_rfl

theorem open_wordsF {n : Nat} {v : Value} {y : DataW H × List MemPlace} (h : DataW.trod enc Try.prog w base spare held n 54 [v] = some y) (hB : Fits 54 y.1) :
    ∃ m f, RdW w v m f := by
  rcases open_slice1 Try.underlying54 (by kernel_rfl) h with ⟨e, -⟩ | ⟨a, len, cap, m, n', V, D, Pl, e, hb, hl, hm, hmm, hx, hc⟩
  · obtain rfl : v = .slice none 0 0 := by simpa using e
    exact ⟨0, fun _ => 0, ⟨⟨none, 0, rfl, Nat.le_refl _, Nat.zero_le _, fun h => absurd h (by omega)⟩, fun i hi => absurd hi (by omega)⟩⟩
  · obtain rfl : v = .slice (some a) len cap := by simpa using e
    subst hx
    have hlb := (hB.row Try.underlying54).1
    rw [bytes_w] at hlb
    unfold reachBytes at hlb
    have hlm : len ≤ m := by rw [hmm]; split <;> omega
    have hv : ∀ i, i < len → ∃ z : Int, w.cell? (a.add i) = some (.int .u64 z) ∧ 0 ≤ z ∧ z ≤ 18446744073709551615 := fun i hi => by
      obtain ⟨h1, h2⟩ := hc i (by omega)
      obtain ⟨z, e1, -, hw⟩ := DataW.trod_int Try.underlying22 h2
      have e2 : V i = .int .u64 z := by simpa using e1
      rw [e2] at h1
      exact ⟨z, h1, bounds_u64 hw⟩
    obtain ⟨f, hf⟩ := choose_lt (α := Int) (p := fun i z => w.cell? (a.add i) = some (.int .u64 z) ∧ 0 ≤ z ∧ z ≤ 18446744073709551615) hv
    refine ⟨len, f, ⟨⟨some a, cap, rfl, hl, by omega, fun h0 => ?_⟩, fun i hi => (hf i hi).2⟩⟩
    obtain ⟨b, o, sp⟩ := a
    obtain rfl : sp = none := World.cell?_spot (hf 0 h0).1
    exact ⟨b, o, rfl, fun i hi => by have := (hf i hi).1; rw [add_none] at this; exact this⟩

set_option maxRecDepth 100000 in
theorem open_listF {n : Nat} {v : Value} {y : DataW H × List MemPlace} (h : DataW.trod enc Try.prog w base spare held n 32 [v] = some y) (hB : Fits 32 y.1) :
    ∃ m x, RdL w v m x := by
  have hC : Try.prog.cellsOf 56 = 2 := by kernel_rfl
  rcases open_slice Try.underlying32 h with ⟨e, -⟩ | ⟨a, len, cap, m, n', D, Pl, e, hb, hl, hm, hmm, hx, hc⟩
  · obtain rfl : v = .slice none 0 0 := by simpa using e
    exact ⟨0, fun _ => ⟨false, 0, fun _ => 0⟩, ⟨none, 0, rfl, Nat.le_refl _, Nat.zero_le _, fun h => absurd h (by omega)⟩⟩
  · obtain rfl : v = .slice (some a) len cap := by simpa using e
    subst hx
    rw [hC] at hc
    obtain ⟨hlb, hpb⟩ := hB.row Try.underlying32
    rw [bytes_I] at hlb
    unfold reachBytes at hlb
    have hlm : len ≤ m := by rw [hmm]; split <;> omega
    have hv : ∀ i, i < len → ∃ r : Raw, ∃ mv, w.cell? (a.add (i * 2)) = some (.bool r.neg) ∧ w.cell? ((a.add (i * 2)).add 1) = some mv ∧ RdW w mv r.n r.f := fun i hi => by
      obtain ⟨cs', h1, h2⟩ := hc i (by omega)
      obtain ⟨-, hcl, hat⟩ := World.cells?_some h1
      obtain ⟨y0, y1, n2, hx, -, g0, g1⟩ := trod_struct2 Try.underlying56 h2
      match cs', hcl with
      | [c0, c1], _ =>
        have q0 := hat 0 (by omega)
        have q1 := hat 1 (by omega)
        have hcb : Try.prog.cellsOf 4 = 1 := by kernel_rfl
        have hcw : Try.prog.cellsOf 54 = 1 := by kernel_rfl
        have g0 : DataW.trod enc Try.prog w base spare held n2 4 (List.take (Try.prog.cellsOf 4) [c0, c1]) = some y0 := g0
        have g1 : DataW.trod enc Try.prog w base spare held n2 54 (List.take (Try.prog.cellsOf 54) [c1]) = some y1 := g1
        rw [hcb] at g0
        rw [hcw] at g1
        have g0 : DataW.trod enc Try.prog w base spare held n2 4 [c0] = some y0 := g0
        have g1 : DataW.trod enc Try.prog w base spare held n2 54 [c1] = some y1 := g1
        obtain ⟨b, e1, -⟩ := DataW.trod_bool Try.underlying4 g0
        have e2 : c0 = .bool b := by simpa using e1
        have hpi := hpb i hi
        have e3 : D i = .agg [y0.1, y1.1] := congrArg Prod.fst hx
        rw [e3] at hpi
        obtain ⟨mm, f, hw⟩ := open_wordsF g1 (hpi.part Try.underlying56 (j := 1) rfl rfl)
        refine ⟨⟨b, mm, f⟩, c1, ?_, q1, hw⟩
        rw [← e2]; exact q0
    obtain ⟨x, hx⟩ := choose_lt (α := Raw) (h := hv)
    refine ⟨len, x, ⟨some a, cap, rfl, hl, by omega, fun h0 => ?_⟩⟩
    obtain ⟨b, o, sp⟩ := a
    obtain ⟨m0, c0, -⟩ := hx 0 h0
    obtain rfl : sp = none := by simpa [Addr.add] using World.cell?_spot c0
    refine ⟨b, o, rfl, fun i hi => ?_⟩
    obtain ⟨mi, k0, k1, k2⟩ := hx i hi
    refine ⟨mi, ?_, ?_, k2⟩
    · rw [add_none] at k0; exact k0
    · rw [Go.Deep.add_add, add_none] at k1; exact k1

/-- one call of a script -/
structure OpV where
  k : Int
  r : Int
  c : Int
  p : Int
  s : Value
  n : Nat
  x : Nat → Raw
  sb : Value
  nb : Nat
  b : Nat → Raw
instance opB : Inhabited OpV := ⟨⟨0, 0, 0, 0, .bool false, 0, fun _ => ⟨false, 0, fun _ => 0⟩, .bool false, 0, fun _ => ⟨false, 0, fun _ => 0⟩⟩⟩
/-- the value reads as a script of n calls -/
def RdO (w : World) (v : Value) (n : Nat) (O : Nat → OpV) : Prop :=
  ∃ a cap, v = .slice a n cap ∧ n ≤ cap ∧ n ≤ 4398046511104 ∧ (0 < n → ∃ b o, a = some ⟨b, o, none⟩ ∧ ∀ i, i < n →
    w.cell? ⟨b, o + i * 6, none⟩ = some (.int .i64 (O i).k) ∧ w.cell? ⟨b, o + i * 6 + 1, none⟩ = some (.int .i64 (O i).r) ∧ w.cell? ⟨b, o + i * 6 + 2, none⟩ = some (.int .i64 (O i).c) ∧ w.cell? ⟨b, o + i * 6 + 3, none⟩ = some (O i).s ∧
    w.cell? ⟨b, o + i * 6 + 4, none⟩ = some (O i).sb ∧ w.cell? ⟨b, o + i * 6 + 5, none⟩ = some (.int .u64 (O i).p) ∧ 0 ≤ (O i).p ∧ RdL w (O i).s (O i).n (O i).x ∧ RdL w (O i).sb (O i).nb (O i).b)

set_option maxRecDepth 100000 in
theorem open_script {fuel : Nat} {v : Value} {y : DataW H × List MemPlace} (h : DataW.trod enc Try.prog w base spare held fuel 59 [v] = some y) (hB : Fits 59 y.1) : ∃ n O, RdO w v n O := by
  have hC : Try.prog.cellsOf 62 = 6 := by kernel_rfl
  rcases open_slice Try.underlying59 h with ⟨e, -⟩ | ⟨a, len, cap, m, n', D, Pl, e, hb, hl, hm, hmm, hx, hc⟩
  · obtain rfl : v = .slice none 0 0 := by simpa using e
    exact ⟨0, default, ⟨none, 0, rfl, Nat.le_refl _, Nat.zero_le _, fun h => absurd h (by omega)⟩⟩
  · obtain rfl : v = .slice (some a) len cap := by simpa using e
    subst hx
    rw [hC] at hc
    obtain ⟨hlb, hpb⟩ := hB.row Try.underlying59
    rw [bytes_O] at hlb
    unfold reachBytes at hlb
    have hlm : len ≤ m := by rw [hmm]; split <;> omega
    have hv : ∀ i, i < len → ∃ o : OpV, w.cell? (a.add (i * 6)) = some (.int .i64 o.k) ∧ w.cell? ((a.add (i * 6)).add 1) = some (.int .i64 o.r) ∧ w.cell? ((a.add (i * 6)).add 2) = some (.int .i64 o.c) ∧ w.cell? ((a.add (i * 6)).add 3) = some o.s ∧
        w.cell? ((a.add (i * 6)).add 4) = some o.sb ∧ w.cell? ((a.add (i * 6)).add 5) = some (.int .u64 o.p) ∧ 0 ≤ o.p ∧ RdL w o.s o.n o.x ∧ RdL w o.sb o.nb o.b := fun i hi => by
      obtain ⟨cs', h1, h2⟩ := hc i (by omega)
      obtain ⟨-, hcl, hat⟩ := World.cells?_some h1
      obtain ⟨y0, y1, y2, y3, n2, hx, -, g0, g1, g2, g3⟩ := trod_struct4 Try.underlying62 h2
      match cs', hcl with
      | [c0, c1, c2, c3, c4, c5], _ =>
        have q0 := hat 0 (by omega)
        have q1 := hat 1 (by omega)
        have q2 := hat 2 (by omega)
        have q3 := hat 3 (by omega)
        have q4 := hat 4 (by omega)
        have q5 := hat 5 (by omega)
        have hci : Try.prog.cellsOf 3 = 1 := by kernel_rfl
        have hcm : Try.prog.cellsOf 34 = 3 := by kernel_rfl
        have hcl : Try.prog.cellsOf 32 = 1 := by kernel_rfl
        have hcu : Try.prog.cellsOf 22 = 1 := by kernel_rfl
        have g0 : DataW.trod enc Try.prog w base spare held n2 3 (List.take (Try.prog.cellsOf 3) [c0, c1, c2, c3, c4, c5]) = some y0 := g0
        have g1 : DataW.trod enc Try.prog w base spare held n2 34 (List.take (Try.prog.cellsOf 34) [c1, c2, c3, c4, c5]) = some y1 := g1
        have g2 : DataW.trod enc Try.prog w base spare held n2 32 (List.take (Try.prog.cellsOf 32) [c4, c5]) = some y2 := g2
        have g3 : DataW.trod enc Try.prog w base spare held n2 22 (List.take (Try.prog.cellsOf 22) [c5]) = some y3 := g3
        rw [hci] at g0
        rw [hcm] at g1
        rw [hcl] at g2
        rw [hcu] at g3
        have g0 : DataW.trod enc Try.prog w base spare held n2 3 [c0] = some y0 := g0
        have g1 : DataW.trod enc Try.prog w base spare held n2 34 [c1, c2, c3] = some y1 := g1
        have g2 : DataW.trod enc Try.prog w base spare held n2 32 [c4] = some y2 := g2
        have g3 : DataW.trod enc Try.prog w base spare held n2 22 [c5] = some y3 := g3
        obtain ⟨z0, z1, z2, n3, hz, -, k0, k1, k2⟩ := trod_struct3 Try.underlying34 g1
        have k0 : DataW.trod enc Try.prog w base spare held n3 3 (List.take (Try.prog.cellsOf 3) [c1, c2, c3]) = some z0 := k0
        have k1 : DataW.trod enc Try.prog w base spare held n3 3 (List.take (Try.prog.cellsOf 3) [c2, c3]) = some z1 := k1
        have k2 : DataW.trod enc Try.prog w base spare held n3 32 (List.take (Try.prog.cellsOf 32) [c3]) = some z2 := k2
        rw [hci] at k0 k1
        rw [hcl] at k2
        have k0 : DataW.trod enc Try.prog w base spare held n3 3 [c1] = some z0 := k0
        have k1 : DataW.trod enc Try.prog w base spare held n3 3 [c2] = some z1 := k1
        have k2 : DataW.trod enc Try.prog w base spare held n3 32 [c3] = some z2 := k2
        obtain ⟨kk, e0, -, -⟩ := DataW.trod_int Try.underlying3 g0
        obtain ⟨rr, e1, -, -⟩ := DataW.trod_int Try.underlying3 k0
        obtain ⟨cc, e2, -, -⟩ := DataW.trod_int Try.underlying3 k1
        obtain ⟨pp, e5, -, wp⟩ := DataW.trod_int Try.underlying22 g3
        obtain rfl : c0 = .int .i64 kk := by simpa using e0
        obtain rfl : c1 = .int .i64 rr := by simpa using e1
        obtain rfl : c2 = .int .i64 cc := by simpa using e2
        obtain rfl : c5 = .int .u64 pp := by simpa using e5
        have hpi := hpb i hi
        have ed : D i = .agg [y0.1, y1.1, y2.1, y3.1] := congrArg Prod.fst hx
        rw [ed] at hpi
        have hp1 : Fits 34 y1.1 := hpi.part Try.underlying62 (j := 1) rfl rfl
        have hp2 : Fits 32 y2.1 := hpi.part Try.underlying62 (j := 2) rfl rfl
        have em : y1.1 = .agg [z0.1, z1.1, z2.1] := by rw [hz]
        rw [em] at hp1
        obtain ⟨n1, x1, hr1⟩ := open_listF k2 (hp1.part Try.underlying34 (j := 2) rfl rfl)
        obtain ⟨n4, x4, hr4⟩ := open_listF g2 hp2
        exact ⟨⟨kk, rr, cc, pp, c3, n1, x1, c4, n4, x4⟩, q0, q1, q2, q3, q4, q5, (bounds_u64 wp).1, hr1, hr4⟩
    obtain ⟨O, hO⟩ := choose_lt (α := OpV) (h := hv)
    refine ⟨len, O, ⟨some a, cap, rfl, hl, by omega, fun h0 => ?_⟩⟩
    obtain ⟨b, o, sp⟩ := a
    obtain ⟨c0, -⟩ := hO 0 h0
    obtain rfl : sp = none := by simpa [Addr.add] using World.cell?_spot c0
    refine ⟨b, o, rfl, fun i hi => ?_⟩
    obtain ⟨k0, k1, k2, k3, k4, k5, k6, k7, k8⟩ := hO i hi
    rw [add_none] at k0 k1 k2 k3 k4 k5
    rw [add_none] at k1 k2 k3 k4 k5
    exact ⟨k0, k1, k2, k3, k4, k5, k6, k7, k8⟩
end
end Go.Proofs.Ytdlpemmoobbgnaa

namespace Go.Proofs.Ytdlpemmoobbgnaa
open Go.RowKit

section
variable (k r c p : Int) (hp : 0 ≤ p) (s : Value) (n : Nat) (x : Nat → Raw) (sb : Value) (nb : Nat) (b : Nat → Raw) (w : World) (hr : RdL w s n x) (hrb : RdL w sb nb b)
include hp hr hrb

/-- the same answer -/
theorem both12 : ∃ D : AnsD, (∀ W, Below w.heap.size w W → Calls Try.prog 60 #[.agg #[.int .i64 k, .int .i64 r, .int .i64 c, s, sb, .int .u64 p]] W fun e w' => AnsD.post D FrL W.heap.size e w' ∧ Below W.heap.size W w') ∧
    ∀ W, Below w.heap.size w W → Calls Try.prog 59 #[.agg #[.int .i64 k, .int .i64 r, .int .i64 c, s, sb, .int .u64 p]] W fun e w' => AnsD.post D FrL W.heap.size e w' ∧ Below W.heap.size W w' := by
  have up : ∀ {W W' : World}, Below w.heap.size w W → Below W.heap.size W W' → Below w.heap.size w W' := fun h g => h.trans (g.mono h.size)
  have m3 := fun W h => hr.below (w' := W) h
  have m4 := fun W h => hrb.below (w' := W) h
  by_cases h : 1 ≤ k ∧ k ≤ 9
  · have : k = 1 ∨ k = 2 ∨ k = 3 ∨ k = 4 ∨ k = 5 ∨ k = 6 ∨ k = 7 ∨ k = 8 ∨ k = 9 := by omega
    rcases this with rfl | rfl | rfl | rfl | rfl | rfl | rfl | rfl | rfl
    · refine ⟨⟨0, 0, 0, fun _ => small 0, 0, fun _ => small 0, 0, 0, primeB p, primeE p⟩, fun W hW => plays12_1 FrL.keep r c p s n x sb nb b W (m3 W hW) (m4 W hW) _ _ fun V _ => (Prime_any p hp V).mono ?_, fun W hW => wants12_1 FrL.keep r c p s n x sb nb b W (m3 W hW) (m4 W hW) _ _ fun V _ => (Prime12_any p hp V).mono ?_⟩
      · rintro e w' ⟨rfl, rfl⟩; exact ⟨rfl, Below.refl _ _⟩
      · rintro e w' ⟨rfl, rfl⟩; exact ⟨rfl, Below.refl _ _⟩
    · refine ⟨⟨0, 0, 0, fun _ => small 0, 0, fun _ => small 0, belowU p, 0, false, belowE p⟩, fun W hW => plays12_2 FrL.keep r c p s n x sb nb b W (m3 W hW) (m4 W hW) _ _ fun V _ => (Below_any p hp V).mono ?_, fun W hW => wants12_2 FrL.keep r c p s n x sb nb b W (m3 W hW) (m4 W hW) _ _ fun V _ => (Below12_any p hp V).mono ?_⟩
      · rintro e w' ⟨rfl, rfl⟩; exact ⟨rfl, Below.refl _ _⟩
      · rintro e w' ⟨rfl, rfl⟩; exact ⟨rfl, Below.refl _ _⟩
    · obtain ⟨rr, cc, nn, X, E, h1, h2⟩ := same_Reduce r c p hp s n x w hr
      exact ⟨_, fun W hW => plays12_3 FrL.keep r c p s n x sb nb b W (m3 W hW) (m4 W hW) rr cc nn X E fun V hV => h1 V (up hW hV), fun W hW => wants12_3 FrL.keep r c p s n x sb nb b W (m3 W hW) (m4 W hW) rr cc nn X E fun V hV => h2 V (up hW hV)⟩
    · obtain ⟨D, E, h1, h2⟩ := same_Det r c p hp s n x w hr
      exact ⟨_, fun W hW => plays12_4 FrL.keep r c p s n x sb nb b W (m3 W hW) (m4 W hW) D E fun V hV => h1 V (up hW hV), fun W hW => wants12_4 FrL.keep r c p s n x sb nb b W (m3 W hW) (m4 W hW) D E fun V hV => h2 V (up hW hV)⟩
    · obtain ⟨D, E, h1, h2⟩ := same_Rank r c p hp s n x w hr
      exact ⟨_, fun W hW => plays12_5 FrL.keep r c p s n x sb nb b W (m3 W hW) (m4 W hW) D E fun V hV => h1 V (up hW hV), fun W hW => wants12_5 FrL.keep r c p s n x sb nb b W (m3 W hW) (m4 W hW) D E fun V hV => h2 V (up hW hV)⟩
    · obtain ⟨rr, cc, nn, X, E, h1, h2⟩ := same_Echelon r c p hp s n x w hr
      exact ⟨_, fun W hW => plays12_6 FrL.keep r c p s n x sb nb b W (m3 W hW) (m4 W hW) rr cc nn X E fun V hV => h1 V (up hW hV), fun W hW => wants12_6 FrL.keep r c p s n x sb nb b W (m3 W hW) (m4 W hW) rr cc nn X E fun V hV => h2 V (up hW hV)⟩
    · obtain ⟨rr, cc, nn, X, E, h1, h2⟩ := same_Inverse r c p hp s n x w hr
      exact ⟨_, fun W hW => plays12_7 FrL.keep r c p s n x sb nb b W (m3 W hW) (m4 W hW) rr cc nn X E fun V hV => h1 V (up hW hV), fun W hW => wants12_7 FrL.keep r c p s n x sb nb b W (m3 W hW) (m4 W hW) rr cc nn X E fun V hV => h2 V (up hW hV)⟩
    · obtain ⟨rr, cc, nn, X, E, h1, h2⟩ := same_Kernel r c p hp s n x w hr
      exact ⟨_, fun W hW => plays12_8 FrL.keep r c p s n x sb nb b W (m3 W hW) (m4 W hW) rr cc nn X E fun V hV => h1 V (up hW hV), fun W hW => wants12_8 FrL.keep r c p s n x sb nb b W (m3 W hW) (m4 W hW) rr cc nn X E fun V hV => h2 V (up hW hV)⟩
    · obtain ⟨nn, X, E, h1, h2⟩ := same_Solve r c p hp s n x w hr sb nb b hrb
      exact ⟨_, fun W hW => plays12_9 FrL.keep r c p s n x sb nb b W (m3 W hW) (m4 W hW) nn X E fun V hV => h1 V (up hW hV), fun W hW => wants12_9 FrL.keep r c p s n x sb nb b W (m3 W hW) (m4 W hW) nn X E fun V hV => h2 V (up hW hV)⟩
  · exact ⟨_, fun W hW => plays12_0 FrL.keep k r c p s n x sb nb b W (m3 W hW) (m4 W hW) h, fun W hW => wants12_0 FrL.keep k r c p s n x sb nb b W (m3 W hW) (m4 W hW) h⟩

set_option maxHeartbeats 2000000 in
set_option maxRecDepth 100000 in
theorem right_any : Calls Try.prog 33 #[.agg #[.int .i64 k, .int .i64 r, .int .i64 c, s, sb, .int .u64 p]] w fun e w' => e = .returned (.bool true) ∧ Below w.heap.size w w' := by
  obtain ⟨D, hpl, hwt⟩ := both12 k r c p hp s n x sb nb b w hr hrb
  obtain ⟨a, cap, rfl, -⟩ := hr.slice
  obtain ⟨ab, capb, rfl, -⟩ := hrb.slice
  obtain ⟨w0, hw0⟩ : ∃ w0, w0 = w.alloc (.cells #[.int .i64 k, .int .i64 r, .int .i64 c, .slice a n cap, .slice ab nb capb, .int .u64 p] 62) := ⟨_, rfl⟩
  have z := cellsOf w [.int .i64 k, .int .i64 r, .int .i64 c, .slice a n cap, .slice ab nb capb, .int .u64 p] 62
  have hb0 : Below w.heap.size w w0 := by rw [hw0]; exact (Below.refl _ _).alloc (Nat.le_refl _) _
  rw [← hw0] at z
  have hH : Has w0 [(_, _), (_, _), (_, _), (_, _), (_, _), (_, _)] := ⟨(z 0 _ rfl).1, (z 1 _ rfl).1, (z 2 _ rfl).1, (z 3 _ rfl).1, (z 4 _ rfl).1, (z 5 _ rfl).1, trivial⟩
  rw [hw0] at hH hb0
  have H0 := Lib.hid hH
  have HB0 := Lib.hid hb0
  have HP := Lib.hid hpl
  have HW := Lib.hid hwt
  clear hpl hwt hr hrb hH hb0 z hw0 w0
  obtain ⟨x0, x1, x2, x3, x4, x5, -⟩ := H0.out
  dsimp only at x0 x1 x2 x3 x4 x5
  go_enter Try.func33, Try.ntmps33
  go_wp2_with fail
  refine (HW.out _ HB0.out).mono ?_
  rintro e w1 ⟨⟨s1, l1, rfl, f1, f2⟩, hb1⟩
  obtain ⟨a1, c1, rfl⟩ := f1.slice
  obtain ⟨a2, c2, rfl⟩ := f2.slice
  have HB1 := Lib.hid (HB0.out.trans (hb1.mono HB0.out.size))
  have H1 := Lib.hid (H0.out.below hb1)
  have HF := Lib.hid (And.intro f1.read f2.read)
  clear x0 x1 x2 x3 x4 x5 f1 f2 hb1 H0
  have hb2 : Below w1.heap.size w1 (w1.alloc (.cells #[.int .i64 D.rr, .int .i64 D.cc, .slice a1 D.nn c1, .slice a2 D.mm c2, .int .u64 D.W, .int .i64 D.N, .bool D.ok, .int .i64 D.E] 92)) := (Below.refl _ _).alloc (Nat.le_refl _) _
  have z2 := cellsOf w1 [.int .i64 D.rr, .int .i64 D.cc, .slice a1 D.nn c1, .slice a2 D.mm c2, .int .u64 D.W, .int .i64 D.N, .bool D.ok, .int .i64 D.E] 92
  have hy2 : Has (w1.alloc (.cells #[.int .i64 D.rr, .int .i64 D.cc, .slice a1 D.nn c1, .slice a2 D.mm c2, .int .u64 D.W, .int .i64 D.N, .bool D.ok, .int .i64 D.E] 92)) [(_, _), (_, _), (_, _), (_, _), (_, _), (_, _), (_, _), (_, _)] := ⟨(z2 0 _ rfl).1, (z2 1 _ rfl).1, (z2 2 _ rfl).1, (z2 3 _ rfl).1, (z2 4 _ rfl).1, (z2 5 _ rfl).1, (z2 6 _ rfl).1, (z2 7 _ rfl).1, trivial⟩
  have HY2 := Lib.hid hy2
  have HB2 := Lib.hid (HB1.out.trans (hb2.mono HB1.out.size))
  have HF2 := Lib.hid (And.intro (HF.out.1.below hb2) (HF.out.2.below hb2))
  obtain ⟨x0, x1, x2, x3, x4, x5, -⟩ := H1.out.below hb2
  dsimp only at x0 x1 x2 x3 x4 x5
  clear hb2 z2 hy2 HF
  go_wp2_with fail
  refine (HP.out _ HB2.out).mono ?_
  rintro e w3 ⟨⟨s3, l3, rfl, f3, f4⟩, hb3⟩
  obtain ⟨a3, c3, rfl⟩ := f3.slice
  obtain ⟨a4, c4, rfl⟩ := f4.slice
  have hb4 : Below w3.heap.size w3 (w3.alloc (.cells #[.int .i64 D.rr, .int .i64 D.cc, .slice a3 D.nn c3, .slice a4 D.mm c4, .int .u64 D.W, .int .i64 D.N, .bool D.ok, .int .i64 D.E] 92)) := (Below.refl _ _).alloc (Nat.le_refl _) _
  have z4 := cellsOf w3 [.int .i64 D.rr, .int .i64 D.cc, .slice a3 D.nn c3, .slice a4 D.mm c4, .int .u64 D.W, .int .i64 D.N, .bool D.ok, .int .i64 D.E] 92
  have hsm := same_yes (.slice a3 D.nn c3) (.slice a1 D.nn c1) (.slice a4 D.mm c4) (.slice a2 D.mm c2) D.rr D.cc D.nn D.mm D.X D.X D.L D.L D.W D.N D.E D.ok _ (f3.read.below hb4) ((HF2.out.1.below hb3).below hb4) (fun i _ => RawEq.refl _) (f4.read.below hb4) ((HF2.out.2.below hb3).below hb4) (fun i _ => RawEq.refl _)
  obtain ⟨y0, y1, y2, y3, y4, y5, y6, y7, -⟩ := (HY2.out.below hb3).below hb4
  dsimp only at y0 y1 y2 y3 y4 y5 y6 y7
  have v0 := (z4 0 _ rfl).1
  have v1 := (z4 1 _ rfl).1
  have v2 := (z4 2 _ rfl).1
  have v3 := (z4 3 _ rfl).1
  have v4 := (z4 4 _ rfl).1
  have v5 := (z4 5 _ rfl).1
  have v6 := (z4 6 _ rfl).1
  have v7 := (z4 7 _ rfl).1
  have HSM := Lib.hid hsm
  have HB3 := HB2.out.trans (hb3.mono HB2.out.size)
  have HB4 := Lib.hid (HB3.trans (hb4.mono HB3.size))
  clear HB3 hb3 hb4 z4 hsm f3 f4 x0 x1 x2 x3 x4 x5 HF2 HY2 HB2 HB1 H1 HP HW HB0
  go_wp2_with fail
  refine HSM.out.mono ?_
  rintro e w5 ⟨rfl, hb5⟩
  have HB5 := Lib.hid (HB4.out.trans (hb5.mono HB4.out.size))
  clear hb5 y0 y1 y2 y3 y4 y5 y6 y7 v0 v1 v2 v3 v4 v5 v6 v7
  go_wp2_with fail
  go_ret
  exact ⟨rfl, HB5.out⟩
end

set_option maxHeartbeats 1000000 in
set_option maxRecDepth 100000 in
theorem All_law (v : Value) (n : Nat) (O : Nat → OpV) (w : World) (hO : RdO w v n O) :
    Calls Try.prog 7 #[v] w fun e w' => e = .returned (.bool true) ∧ Below w.heap.size w w' := by
  obtain ⟨a, cap, rfl, h1, h2, h3⟩ := hO
  have H3 := Lib.hid h3
  clear h3
  go_enter Try.func7, Try.ntmps7
  go_wp2_with fail
  refine (wakes_any _).mono ?_
  rintro e w1 ⟨rfl, hb1⟩
  go_wp2_with fail
  go_loopw [3] (fun iv wr => ∃ i : Nat, i ≤ n ∧ iv = .int .i64 i ∧ Below w.heap.size w wr) (fun iv _ => n - (intOf iv).toNat)
  case atStart => exact ⟨0, Nat.zero_le _, rfl, hb1⟩
  case round =>
    clear hb1
    obtain ⟨i, i1, rfl, hb⟩ := hrel
    by_cases hi : i < n
    · obtain ⟨b, o, rfl, hc⟩ := H3.out (by omega)
      obtain ⟨k0, k1, k2, k3, k4, k5, k6, k7, k8⟩ := hc i hi
      have k0 := cell_stays hb k0
      have k1 := cell_stays hb k1
      have k2 := cell_stays hb k2
      have k3 := cell_stays hb k3
      have k4 := cell_stays hb k4
      have k5 := cell_stays hb k5
      have hrt := right_any (O i).k (O i).r (O i).c (O i).p k6 (O i).s (O i).n (O i).x (O i).sb (O i).nb (O i).b wr (k7.below hb) (k8.below hb)
      have HRT := Lib.hid hrt
      clear hrt hc k6 k7 k8
      go_wp2_with fail
      refine HRT.out.mono ?_
      rintro e w4 ⟨rfl, hb4⟩
      go_wp2_with fail
      go_roundw
      case rel => exact ⟨i + 1, by omega, by go_num, hb.trans (hb4.mono hb.size)⟩
      case measure => simp [intOf]; omega
    · obtain rfl : n = i := by omega
      go_wp2_with fail
      go_ret
      exact ⟨rfl, hb⟩
end Go.Proofs.Ytdlpemmoobbgnaa
