/- The walk of the law's plays where each call with a prime is refused; modp.Solve refused. The walk of the law's refuses. -/
import Derived.Test.YtdlpemmoobbgnaaGG
set_option linter.unusedVariables false
set_option linter.unusedSimpArgs false
namespace Go.Proofs.Ytdlpemmoobbgnaa
open Go.RowKit

theorem Solve_err (r c : Int) (p : Int) (hp : 0 ≤ p) (s : Value) (n : Nat) (x : Nat → Raw) (sb : Value) (nb : Nat) (b : Nat → Raw) (w : World) (hr : RdL w s n x) (hrb : RdL w sb nb b) (he : openE r c n p ((nb : Int) == c) ≠ 0) :
    Calls Try.prog 29 #[.agg #[.int .i64 r, .int .i64 c, s], sb, .int .u64 p] w fun e w' =>
      e = .returned (.tuple #[.slice none 0 0, .int .i64 (openE r c n p ((nb : Int) == c))]) ∧ Below w.heap.size w w' := by
  obtain ⟨a, cap, rfl, hn⟩ := hr.slice
  obtain ⟨ab, capb, rfl, hnb⟩ := hrb.slice
  have hne : (openE r c n p ((nb : Int) == c) != 0) = true := by rw [bne_iff_ne]; exact he
  obtain ⟨E, hE⟩ : ∃ E, E = openE r c n p ((nb : Int) == c) := ⟨_, rfl⟩
  rw [← hE] at hne ⊢
  have HE := Lib.hid hE.symm
  clear he hE hr hrb
  go_enter Try.func29, Try.ntmps29
  go_wp2_with (go_at_call 43; refine (open_any r c a n cap hn p hp ((nb : Int) == c) _).mono ?_; rw [HE.out]; rintro e w1 ⟨rfl, hb1⟩)
  go_ret2
  exact ⟨rfl, ((Below.refl _ _).alloc (Nat.le_refl _) _).trans (hb1.mono (by simp))⟩

/-- the error of the call of this kind, B of nb places -/
def fitB (k : Int) (r c : Int) (nb : Nat) : Bool := if k = 4 ∨ k = 7 then r == c else if k = 9 then (nb : Int) == c else true

/-- an answer of nothing but an error -/
def ans0 (E : Int) : Value := .agg #[.int .i64 0, .int .i64 0, .slice none 0 0, .slice none 0 0, .int .u64 0, .int .i64 0, .bool false, .int .i64 E]

/-- two boxes of eight cells beside the parameter's -/
theorem opBox (w : World) (l : List Value) (t u : TypeId) :
    let Z : List Value := [.int .i64 0, .int .i64 0, .slice none 0 0, .slice none 0 0, .int .u64 0, .int .i64 0, .bool false, .int .i64 0]
    let W := ((w.alloc (.cells l.toArray t)).alloc (.cells Z.toArray u)).alloc (.cells Z.toArray u)
    (∀ i y, l[i]? = some y → W.cell? ⟨w.heap.size, i, none⟩ = some y) ∧ (∀ i y, Z[i]? = some y → W.cell? ⟨w.heap.size + 1, i, none⟩ = some y ∧ W.frozen? ⟨w.heap.size + 1, i, none⟩ = false) ∧
      (∀ i y, Z[i]? = some y → W.cell? ⟨w.heap.size + 1 + 1, i, none⟩ = some y ∧ W.frozen? ⟨w.heap.size + 1 + 1, i, none⟩ = false) ∧ Below w.heap.size w W ∧ W.heap.size = w.heap.size + 3 := by
  intro Z W
  obtain ⟨w1, h1⟩ : ∃ w1, w1 = w.alloc (.cells l.toArray t) := ⟨_, rfl⟩
  obtain ⟨w2, h2⟩ : ∃ w2, w2 = w1.alloc (.cells Z.toArray u) := ⟨_, rfl⟩
  have hW : W = w2.alloc (.cells Z.toArray u) := by rw [h2, h1]
  have s1 : w1.heap.size = w.heap.size + 1 := by rw [h1]; simp
  have s2 : w2.heap.size = w.heap.size + 1 + 1 := by rw [h2]; simp [s1]
  have b1 : Below w.heap.size w w1 := by rw [h1]; exact (Below.refl _ _).alloc (Nat.le_refl _) _
  have b2 : Below w1.heap.size w1 w2 := by rw [h2]; exact (Below.refl _ _).alloc (Nat.le_refl _) _
  have b3 : Below w2.heap.size w2 W := by rw [hW]; exact (Below.refl _ _).alloc (Nat.le_refl _) _
  have k1 := cellsOf w l t
  have k2 := cellsOf w1 Z u
  have k3 := cellsOf w2 Z u
  rw [← h1] at k1
  rw [← h2, s1] at k2
  rw [← hW, s2] at k3
  have sW : W.heap.size = w.heap.size + 3 := by rw [hW]; simp [s2]
  clear_value W Z
  exact ⟨fun i y h => cell_stays b3 (cell_stays b2 (k1 i y h).1), fun i y h => ⟨cell_stays b3 (k2 i y h).1, froz_stays b3 (k2 i y h).1 (k2 i y h).2⟩, fun i y h => k3 i y h,
    b1.trans ((b2.mono (by omega)).trans (b3.mono (by omega))), sW⟩


-- BY gen_s4.py FROM HERE ON

theorem Reduce_err (r c : Int) (p : Int) (hp : 0 ≤ p) (s : Value) (n : Nat) (x : Nat → Raw) (w : World) (hr : RdL w s n x) (he : openE r c n p true ≠ 0) :
    Calls Try.prog 35 #[.agg #[.int .i64 r, .int .i64 c, s], .int .u64 p] w fun e w' => e = .returned (.tuple #[mat0, .int .i64 (openE r c n p true)]) ∧ Below w.heap.size w w' := by
  refine (Reduce_any r c p hp s n x w hr).mono ?_
  rintro e w' ⟨v, rfl, h, hb⟩
  rw [h.2 he]; exact ⟨rfl, hb⟩

theorem Echelon_err (r c : Int) (p : Int) (hp : 0 ≤ p) (s : Value) (n : Nat) (x : Nat → Raw) (w : World) (hr : RdL w s n x) (he : openE r c n p true ≠ 0) :
    Calls Try.prog 25 #[.agg #[.int .i64 r, .int .i64 c, s], .int .u64 p] w fun e w' => e = .returned (.tuple #[mat0, .int .i64 (openE r c n p true)]) ∧ Below w.heap.size w w' := by
  refine (Echelon_any r c p hp s n x w hr).mono ?_
  rintro e w' ⟨v, rfl, h, hb⟩
  rw [h.2 he]; exact ⟨rfl, hb⟩

theorem Kernel_err (r c : Int) (p : Int) (hp : 0 ≤ p) (s : Value) (n : Nat) (x : Nat → Raw) (w : World) (hr : RdL w s n x) (he : openE r c n p true ≠ 0) :
    Calls Try.prog 26 #[.agg #[.int .i64 r, .int .i64 c, s], .int .u64 p] w fun e w' => e = .returned (.tuple #[mat0, .int .i64 (openE r c n p true)]) ∧ Below w.heap.size w w' := by
  refine (Kernel_any r c p hp s n x w hr).mono ?_
  rintro e w' ⟨v, rfl, h, hb⟩
  rw [h.2 he]; exact ⟨rfl, hb⟩

theorem Inverse_err (r c : Int) (p : Int) (hp : 0 ≤ p) (s : Value) (n : Nat) (x : Nat → Raw) (w : World) (hr : RdL w s n x) (he : openE r c n p (r == c) ≠ 0) :
    Calls Try.prog 20 #[.agg #[.int .i64 r, .int .i64 c, s], .int .u64 p] w fun e w' => e = .returned (.tuple #[mat0, .int .i64 (openE r c n p (r == c))]) ∧ Below w.heap.size w w' := by
  have hi : invE r c n x p = openE r c n p (r == c) := if_neg he
  refine (Inverse_any r c p hp s n x w hr).mono ?_
  rw [hi]
  rintro e w' ⟨v, rfl, h, hb⟩
  rw [h.2 he]; exact ⟨rfl, hb⟩
theorem Det_err (r c : Int) (p : Int) (hp : 0 ≤ p) (s : Value) (n : Nat) (x : Nat → Raw) (w : World) (hr : RdL w s n x) (he : openE r c n p (r == c) ≠ 0) :
    Calls Try.prog 18 #[.agg #[.int .i64 r, .int .i64 c, s], .int .u64 p] w fun e w' => e = .returned (.tuple #[.int .u64 0, .int .i64 (openE r c n p (r == c))]) ∧ Below w.heap.size w w' := by
  have hv : detV r c n x p = 0 := if_neg he
  have := Det_any r c p hp s n x w hr
  rw [hv] at this
  exact this
theorem Rank_err (r c : Int) (p : Int) (hp : 0 ≤ p) (s : Value) (n : Nat) (x : Nat → Raw) (w : World) (hr : RdL w s n x) (he : openE r c n p true ≠ 0) :
    Calls Try.prog 31 #[.agg #[.int .i64 r, .int .i64 c, s], .int .u64 p] w fun e w' => e = .returned (.tuple #[.int .i64 0, .int .i64 (openE r c n p true)]) ∧ Below w.heap.size w w' := by
  have hv : rankV r c n x p = 0 := if_neg he
  have := Rank_any r c p hp s n x w hr
  rw [hv] at this
  exact this

set_option maxHeartbeats 2000000 in
set_option maxRecDepth 100000 in
theorem plays_err3 (r c : Int) (p : Int) (hp : 0 ≤ p) (s : Value) (n : Nat) (x : Nat → Raw) (sb : Value) (nb : Nat) (b : Nat → Raw) (w : World) (hr : RdL w s n x) (hrb : RdL w sb nb b) (he : openE r c n p true ≠ 0) :
    Calls Try.prog 60 #[.agg #[.int .i64 3, .int .i64 r, .int .i64 c, s, sb, .int .u64 p]] w fun e w' => e = .returned (ans0 (openE r c n p true)) ∧ Below w.heap.size w w' := by
  obtain ⟨a, cap, rfl, -⟩ := hr.slice
  obtain ⟨ab, capb, rfl, -⟩ := hrb.slice
  obtain ⟨hx, hy, hz, hb, hs3⟩ := opBox w [.int .i64 3, .int .i64 r, .int .i64 c, .slice a n cap, .slice ab nb capb, .int .u64 p] 62 92
  have hcall := Reduce_err r c p hp _ n x _ (hr.below hb) he
  obtain ⟨E, hE⟩ : ∃ E, E = openE r c n p true := ⟨_, rfl⟩
  rw [← hE] at hcall ⊢
  have HC := Lib.hid hcall
  have HY := Lib.hid hy
  have HZ := Lib.hid hz
  have HB := Lib.hid hb
  have HS3 := Lib.hid hs3
  have x0 := hx 0 _ rfl
  have x1 := hx 1 _ rfl
  have x2 := hx 2 _ rfl
  have x3 := hx 3 _ rfl
  have x4 := hx 4 _ rfl
  have x5 := hx 5 _ rfl
  clear hr hrb he hx hy hz hb hs3 hcall hE
  go_enter Try.func60, Try.ntmps60
  go_wp2_with fail
  refine HC.out.mono ?_
  rintro e w4 ⟨rfl, hb4⟩
  have Y := fun i y h => cell_stays hb4 (HZ.out i y h).1
  have Yf := fun i y h => froz_stays hb4 (HZ.out i y h).1 (HZ.out i y h).2
  have Z := fun i y h => cell_stays hb4 (HY.out i y h).1
  have Zf := fun i y h => froz_stays hb4 (HY.out i y h).1 (HY.out i y h).2
  have y0 := Y 0 _ rfl
  have y1 := Y 1 _ rfl
  have y2 := Y 2 _ rfl
  have y3 := Y 3 _ rfl
  have y4 := Y 4 _ rfl
  have y5 := Y 5 _ rfl
  have y6 := Y 6 _ rfl
  have y7 := Y 7 _ rfl
  have f0 := Yf 0 _ rfl
  have f1 := Yf 1 _ rfl
  have f2 := Yf 2 _ rfl
  have f3 := Yf 3 _ rfl
  have f4 := Yf 4 _ rfl
  have f5 := Yf 5 _ rfl
  have f7 := Yf 7 _ rfl
  have z0 := Z 0 _ rfl
  have z1 := Z 1 _ rfl
  have z2 := Z 2 _ rfl
  have z3 := Z 3 _ rfl
  have z4 := Z 4 _ rfl
  have z5 := Z 5 _ rfl
  have z6 := Z 6 _ rfl
  have z7 := Z 7 _ rfl
  have k0 := Zf 0 _ rfl
  have k1 := Zf 1 _ rfl
  have k2 := Zf 2 _ rfl
  have k3 := Zf 3 _ rfl
  have k4 := Zf 4 _ rfl
  have k5 := Zf 5 _ rfl
  have k6 := Zf 6 _ rfl
  have k7 := Zf 7 _ rfl
  have HB4 := Lib.hid (HB.out.trans (hb4.mono HB.out.size))
  clear Y Yf Z Zf hb4 HY HZ HB HC x0 x1 x2 x3 x4 x5
  unfold mat0
  go_wp2_with fail
  refine bodyPost_ret (v := ans0 E) ?_ rfl ⟨rfl, ?_⟩
  · simp [results, Try.results60, go_sem, z0, z1, z2, z3, z4, z5, z6, z7, ans0]
  · repeat (with_reducible refine Below.setCell ?_ (by first | (simp; done) | (simp; omega)) _)
    exact HB4.out

set_option maxHeartbeats 2000000 in
set_option maxRecDepth 100000 in
theorem plays_err4 (r c : Int) (p : Int) (hp : 0 ≤ p) (s : Value) (n : Nat) (x : Nat → Raw) (sb : Value) (nb : Nat) (b : Nat → Raw) (w : World) (hr : RdL w s n x) (hrb : RdL w sb nb b) (he : openE r c n p (r == c) ≠ 0) :
    Calls Try.prog 60 #[.agg #[.int .i64 4, .int .i64 r, .int .i64 c, s, sb, .int .u64 p]] w fun e w' => e = .returned (ans0 (openE r c n p (r == c))) ∧ Below w.heap.size w w' := by
  obtain ⟨a, cap, rfl, -⟩ := hr.slice
  obtain ⟨ab, capb, rfl, -⟩ := hrb.slice
  obtain ⟨hx, hy, hz, hb, hs3⟩ := opBox w [.int .i64 4, .int .i64 r, .int .i64 c, .slice a n cap, .slice ab nb capb, .int .u64 p] 62 92
  have hcall := Det_err r c p hp _ n x _ (hr.below hb) he
  obtain ⟨E, hE⟩ : ∃ E, E = openE r c n p (r == c) := ⟨_, rfl⟩
  rw [← hE] at hcall ⊢
  have HC := Lib.hid hcall
  have HY := Lib.hid hy
  have HZ := Lib.hid hz
  have HB := Lib.hid hb
  have HS3 := Lib.hid hs3
  have x0 := hx 0 _ rfl
  have x1 := hx 1 _ rfl
  have x2 := hx 2 _ rfl
  have x3 := hx 3 _ rfl
  have x4 := hx 4 _ rfl
  have x5 := hx 5 _ rfl
  clear hr hrb he hx hy hz hb hs3 hcall hE
  go_enter Try.func60, Try.ntmps60
  go_wp2_with fail
  refine HC.out.mono ?_
  rintro e w4 ⟨rfl, hb4⟩
  have Y := fun i y h => cell_stays hb4 (HZ.out i y h).1
  have Yf := fun i y h => froz_stays hb4 (HZ.out i y h).1 (HZ.out i y h).2
  have Z := fun i y h => cell_stays hb4 (HY.out i y h).1
  have Zf := fun i y h => froz_stays hb4 (HY.out i y h).1 (HY.out i y h).2
  have y0 := Y 0 _ rfl
  have y1 := Y 1 _ rfl
  have y2 := Y 2 _ rfl
  have y3 := Y 3 _ rfl
  have y4 := Y 4 _ rfl
  have y5 := Y 5 _ rfl
  have y6 := Y 6 _ rfl
  have y7 := Y 7 _ rfl
  have f0 := Yf 0 _ rfl
  have f1 := Yf 1 _ rfl
  have f2 := Yf 2 _ rfl
  have f3 := Yf 3 _ rfl
  have f4 := Yf 4 _ rfl
  have f5 := Yf 5 _ rfl
  have f7 := Yf 7 _ rfl
  have z0 := Z 0 _ rfl
  have z1 := Z 1 _ rfl
  have z2 := Z 2 _ rfl
  have z3 := Z 3 _ rfl
  have z4 := Z 4 _ rfl
  have z5 := Z 5 _ rfl
  have z6 := Z 6 _ rfl
  have z7 := Z 7 _ rfl
  have k0 := Zf 0 _ rfl
  have k1 := Zf 1 _ rfl
  have k2 := Zf 2 _ rfl
  have k3 := Zf 3 _ rfl
  have k4 := Zf 4 _ rfl
  have k5 := Zf 5 _ rfl
  have k6 := Zf 6 _ rfl
  have k7 := Zf 7 _ rfl
  have HB4 := Lib.hid (HB.out.trans (hb4.mono HB.out.size))
  clear Y Yf Z Zf hb4 HY HZ HB HC x0 x1 x2 x3 x4 x5
  go_wp2_with fail
  refine bodyPost_ret (v := ans0 E) ?_ rfl ⟨rfl, ?_⟩
  · simp [results, Try.results60, go_sem, z0, z1, z2, z3, z4, z5, z6, z7, ans0]
  · repeat (with_reducible refine Below.setCell ?_ (by first | (simp; done) | (simp; omega)) _)
    exact HB4.out

set_option maxHeartbeats 2000000 in
set_option maxRecDepth 100000 in
theorem plays_err5 (r c : Int) (p : Int) (hp : 0 ≤ p) (s : Value) (n : Nat) (x : Nat → Raw) (sb : Value) (nb : Nat) (b : Nat → Raw) (w : World) (hr : RdL w s n x) (hrb : RdL w sb nb b) (he : openE r c n p true ≠ 0) :
    Calls Try.prog 60 #[.agg #[.int .i64 5, .int .i64 r, .int .i64 c, s, sb, .int .u64 p]] w fun e w' => e = .returned (ans0 (openE r c n p true)) ∧ Below w.heap.size w w' := by
  obtain ⟨a, cap, rfl, -⟩ := hr.slice
  obtain ⟨ab, capb, rfl, -⟩ := hrb.slice
  obtain ⟨hx, hy, hz, hb, hs3⟩ := opBox w [.int .i64 5, .int .i64 r, .int .i64 c, .slice a n cap, .slice ab nb capb, .int .u64 p] 62 92
  have hcall := Rank_err r c p hp _ n x _ (hr.below hb) he
  obtain ⟨E, hE⟩ : ∃ E, E = openE r c n p true := ⟨_, rfl⟩
  rw [← hE] at hcall ⊢
  have HC := Lib.hid hcall
  have HY := Lib.hid hy
  have HZ := Lib.hid hz
  have HB := Lib.hid hb
  have HS3 := Lib.hid hs3
  have x0 := hx 0 _ rfl
  have x1 := hx 1 _ rfl
  have x2 := hx 2 _ rfl
  have x3 := hx 3 _ rfl
  have x4 := hx 4 _ rfl
  have x5 := hx 5 _ rfl
  clear hr hrb he hx hy hz hb hs3 hcall hE
  go_enter Try.func60, Try.ntmps60
  go_wp2_with fail
  refine HC.out.mono ?_
  rintro e w4 ⟨rfl, hb4⟩
  have Y := fun i y h => cell_stays hb4 (HZ.out i y h).1
  have Yf := fun i y h => froz_stays hb4 (HZ.out i y h).1 (HZ.out i y h).2
  have Z := fun i y h => cell_stays hb4 (HY.out i y h).1
  have Zf := fun i y h => froz_stays hb4 (HY.out i y h).1 (HY.out i y h).2
  have y0 := Y 0 _ rfl
  have y1 := Y 1 _ rfl
  have y2 := Y 2 _ rfl
  have y3 := Y 3 _ rfl
  have y4 := Y 4 _ rfl
  have y5 := Y 5 _ rfl
  have y6 := Y 6 _ rfl
  have y7 := Y 7 _ rfl
  have f0 := Yf 0 _ rfl
  have f1 := Yf 1 _ rfl
  have f2 := Yf 2 _ rfl
  have f3 := Yf 3 _ rfl
  have f4 := Yf 4 _ rfl
  have f5 := Yf 5 _ rfl
  have f7 := Yf 7 _ rfl
  have z0 := Z 0 _ rfl
  have z1 := Z 1 _ rfl
  have z2 := Z 2 _ rfl
  have z3 := Z 3 _ rfl
  have z4 := Z 4 _ rfl
  have z5 := Z 5 _ rfl
  have z6 := Z 6 _ rfl
  have z7 := Z 7 _ rfl
  have k0 := Zf 0 _ rfl
  have k1 := Zf 1 _ rfl
  have k2 := Zf 2 _ rfl
  have k3 := Zf 3 _ rfl
  have k4 := Zf 4 _ rfl
  have k5 := Zf 5 _ rfl
  have k6 := Zf 6 _ rfl
  have k7 := Zf 7 _ rfl
  have HB4 := Lib.hid (HB.out.trans (hb4.mono HB.out.size))
  clear Y Yf Z Zf hb4 HY HZ HB HC x0 x1 x2 x3 x4 x5
  go_wp2_with fail
  refine bodyPost_ret (v := ans0 E) ?_ rfl ⟨rfl, ?_⟩
  · simp [results, Try.results60, go_sem, z0, z1, z2, z3, z4, z5, z6, z7, ans0]
  · repeat (with_reducible refine Below.setCell ?_ (by first | (simp; done) | (simp; omega)) _)
    exact HB4.out

set_option maxHeartbeats 2000000 in
set_option maxRecDepth 100000 in
theorem plays_err6 (r c : Int) (p : Int) (hp : 0 ≤ p) (s : Value) (n : Nat) (x : Nat → Raw) (sb : Value) (nb : Nat) (b : Nat → Raw) (w : World) (hr : RdL w s n x) (hrb : RdL w sb nb b) (he : openE r c n p true ≠ 0) :
    Calls Try.prog 60 #[.agg #[.int .i64 6, .int .i64 r, .int .i64 c, s, sb, .int .u64 p]] w fun e w' => e = .returned (ans0 (openE r c n p true)) ∧ Below w.heap.size w w' := by
  obtain ⟨a, cap, rfl, -⟩ := hr.slice
  obtain ⟨ab, capb, rfl, -⟩ := hrb.slice
  obtain ⟨hx, hy, hz, hb, hs3⟩ := opBox w [.int .i64 6, .int .i64 r, .int .i64 c, .slice a n cap, .slice ab nb capb, .int .u64 p] 62 92
  have hcall := Echelon_err r c p hp _ n x _ (hr.below hb) he
  obtain ⟨E, hE⟩ : ∃ E, E = openE r c n p true := ⟨_, rfl⟩
  rw [← hE] at hcall ⊢
  have HC := Lib.hid hcall
  have HY := Lib.hid hy
  have HZ := Lib.hid hz
  have HB := Lib.hid hb
  have HS3 := Lib.hid hs3
  have x0 := hx 0 _ rfl
  have x1 := hx 1 _ rfl
  have x2 := hx 2 _ rfl
  have x3 := hx 3 _ rfl
  have x4 := hx 4 _ rfl
  have x5 := hx 5 _ rfl
  clear hr hrb he hx hy hz hb hs3 hcall hE
  go_enter Try.func60, Try.ntmps60
  go_wp2_with fail
  refine HC.out.mono ?_
  rintro e w4 ⟨rfl, hb4⟩
  have Y := fun i y h => cell_stays hb4 (HZ.out i y h).1
  have Yf := fun i y h => froz_stays hb4 (HZ.out i y h).1 (HZ.out i y h).2
  have Z := fun i y h => cell_stays hb4 (HY.out i y h).1
  have Zf := fun i y h => froz_stays hb4 (HY.out i y h).1 (HY.out i y h).2
  have y0 := Y 0 _ rfl
  have y1 := Y 1 _ rfl
  have y2 := Y 2 _ rfl
  have y3 := Y 3 _ rfl
  have y4 := Y 4 _ rfl
  have y5 := Y 5 _ rfl
  have y6 := Y 6 _ rfl
  have y7 := Y 7 _ rfl
  have f0 := Yf 0 _ rfl
  have f1 := Yf 1 _ rfl
  have f2 := Yf 2 _ rfl
  have f3 := Yf 3 _ rfl
  have f4 := Yf 4 _ rfl
  have f5 := Yf 5 _ rfl
  have f7 := Yf 7 _ rfl
  have z0 := Z 0 _ rfl
  have z1 := Z 1 _ rfl
  have z2 := Z 2 _ rfl
  have z3 := Z 3 _ rfl
  have z4 := Z 4 _ rfl
  have z5 := Z 5 _ rfl
  have z6 := Z 6 _ rfl
  have z7 := Z 7 _ rfl
  have k0 := Zf 0 _ rfl
  have k1 := Zf 1 _ rfl
  have k2 := Zf 2 _ rfl
  have k3 := Zf 3 _ rfl
  have k4 := Zf 4 _ rfl
  have k5 := Zf 5 _ rfl
  have k6 := Zf 6 _ rfl
  have k7 := Zf 7 _ rfl
  have HB4 := Lib.hid (HB.out.trans (hb4.mono HB.out.size))
  clear Y Yf Z Zf hb4 HY HZ HB HC x0 x1 x2 x3 x4 x5
  unfold mat0
  go_wp2_with fail
  refine bodyPost_ret (v := ans0 E) ?_ rfl ⟨rfl, ?_⟩
  · simp [results, Try.results60, go_sem, z0, z1, z2, z3, z4, z5, z6, z7, ans0]
  · repeat (with_reducible refine Below.setCell ?_ (by first | (simp; done) | (simp; omega)) _)
    exact HB4.out

set_option maxHeartbeats 2000000 in
set_option maxRecDepth 100000 in
theorem plays_err7 (r c : Int) (p : Int) (hp : 0 ≤ p) (s : Value) (n : Nat) (x : Nat → Raw) (sb : Value) (nb : Nat) (b : Nat → Raw) (w : World) (hr : RdL w s n x) (hrb : RdL w sb nb b) (he : openE r c n p (r == c) ≠ 0) :
    Calls Try.prog 60 #[.agg #[.int .i64 7, .int .i64 r, .int .i64 c, s, sb, .int .u64 p]] w fun e w' => e = .returned (ans0 (openE r c n p (r == c))) ∧ Below w.heap.size w w' := by
  obtain ⟨a, cap, rfl, -⟩ := hr.slice
  obtain ⟨ab, capb, rfl, -⟩ := hrb.slice
  obtain ⟨hx, hy, hz, hb, hs3⟩ := opBox w [.int .i64 7, .int .i64 r, .int .i64 c, .slice a n cap, .slice ab nb capb, .int .u64 p] 62 92
  have hcall := Inverse_err r c p hp _ n x _ (hr.below hb) he
  obtain ⟨E, hE⟩ : ∃ E, E = openE r c n p (r == c) := ⟨_, rfl⟩
  rw [← hE] at hcall ⊢
  have HC := Lib.hid hcall
  have HY := Lib.hid hy
  have HZ := Lib.hid hz
  have HB := Lib.hid hb
  have HS3 := Lib.hid hs3
  have x0 := hx 0 _ rfl
  have x1 := hx 1 _ rfl
  have x2 := hx 2 _ rfl
  have x3 := hx 3 _ rfl
  have x4 := hx 4 _ rfl
  have x5 := hx 5 _ rfl
  clear hr hrb he hx hy hz hb hs3 hcall hE
  go_enter Try.func60, Try.ntmps60
  go_wp2_with fail
  refine HC.out.mono ?_
  rintro e w4 ⟨rfl, hb4⟩
  have Y := fun i y h => cell_stays hb4 (HZ.out i y h).1
  have Yf := fun i y h => froz_stays hb4 (HZ.out i y h).1 (HZ.out i y h).2
  have Z := fun i y h => cell_stays hb4 (HY.out i y h).1
  have Zf := fun i y h => froz_stays hb4 (HY.out i y h).1 (HY.out i y h).2
  have y0 := Y 0 _ rfl
  have y1 := Y 1 _ rfl
  have y2 := Y 2 _ rfl
  have y3 := Y 3 _ rfl
  have y4 := Y 4 _ rfl
  have y5 := Y 5 _ rfl
  have y6 := Y 6 _ rfl
  have y7 := Y 7 _ rfl
  have f0 := Yf 0 _ rfl
  have f1 := Yf 1 _ rfl
  have f2 := Yf 2 _ rfl
  have f3 := Yf 3 _ rfl
  have f4 := Yf 4 _ rfl
  have f5 := Yf 5 _ rfl
  have f7 := Yf 7 _ rfl
  have z0 := Z 0 _ rfl
  have z1 := Z 1 _ rfl
  have z2 := Z 2 _ rfl
  have z3 := Z 3 _ rfl
  have z4 := Z 4 _ rfl
  have z5 := Z 5 _ rfl
  have z6 := Z 6 _ rfl
  have z7 := Z 7 _ rfl
  have k0 := Zf 0 _ rfl
  have k1 := Zf 1 _ rfl
  have k2 := Zf 2 _ rfl
  have k3 := Zf 3 _ rfl
  have k4 := Zf 4 _ rfl
  have k5 := Zf 5 _ rfl
  have k6 := Zf 6 _ rfl
  have k7 := Zf 7 _ rfl
  have HB4 := Lib.hid (HB.out.trans (hb4.mono HB.out.size))
  clear Y Yf Z Zf hb4 HY HZ HB HC x0 x1 x2 x3 x4 x5
  unfold mat0
  go_wp2_with fail
  refine bodyPost_ret (v := ans0 E) ?_ rfl ⟨rfl, ?_⟩
  · simp [results, Try.results60, go_sem, z0, z1, z2, z3, z4, z5, z6, z7, ans0]
  · repeat (with_reducible refine Below.setCell ?_ (by first | (simp; done) | (simp; omega)) _)
    exact HB4.out

set_option maxHeartbeats 2000000 in
set_option maxRecDepth 100000 in
theorem plays_err8 (r c : Int) (p : Int) (hp : 0 ≤ p) (s : Value) (n : Nat) (x : Nat → Raw) (sb : Value) (nb : Nat) (b : Nat → Raw) (w : World) (hr : RdL w s n x) (hrb : RdL w sb nb b) (he : openE r c n p true ≠ 0) :
    Calls Try.prog 60 #[.agg #[.int .i64 8, .int .i64 r, .int .i64 c, s, sb, .int .u64 p]] w fun e w' => e = .returned (ans0 (openE r c n p true)) ∧ Below w.heap.size w w' := by
  obtain ⟨a, cap, rfl, -⟩ := hr.slice
  obtain ⟨ab, capb, rfl, -⟩ := hrb.slice
  obtain ⟨hx, hy, hz, hb, hs3⟩ := opBox w [.int .i64 8, .int .i64 r, .int .i64 c, .slice a n cap, .slice ab nb capb, .int .u64 p] 62 92
  have hcall := Kernel_err r c p hp _ n x _ (hr.below hb) he
  obtain ⟨E, hE⟩ : ∃ E, E = openE r c n p true := ⟨_, rfl⟩
  rw [← hE] at hcall ⊢
  have HC := Lib.hid hcall
  have HY := Lib.hid hy
  have HZ := Lib.hid hz
  have HB := Lib.hid hb
  have HS3 := Lib.hid hs3
  have x0 := hx 0 _ rfl
  have x1 := hx 1 _ rfl
  have x2 := hx 2 _ rfl
  have x3 := hx 3 _ rfl
  have x4 := hx 4 _ rfl
  have x5 := hx 5 _ rfl
  clear hr hrb he hx hy hz hb hs3 hcall hE
  go_enter Try.func60, Try.ntmps60
  go_wp2_with fail
  refine HC.out.mono ?_
  rintro e w4 ⟨rfl, hb4⟩
  have Y := fun i y h => cell_stays hb4 (HZ.out i y h).1
  have Yf := fun i y h => froz_stays hb4 (HZ.out i y h).1 (HZ.out i y h).2
  have Z := fun i y h => cell_stays hb4 (HY.out i y h).1
  have Zf := fun i y h => froz_stays hb4 (HY.out i y h).1 (HY.out i y h).2
  have y0 := Y 0 _ rfl
  have y1 := Y 1 _ rfl
  have y2 := Y 2 _ rfl
  have y3 := Y 3 _ rfl
  have y4 := Y 4 _ rfl
  have y5 := Y 5 _ rfl
  have y6 := Y 6 _ rfl
  have y7 := Y 7 _ rfl
  have f0 := Yf 0 _ rfl
  have f1 := Yf 1 _ rfl
  have f2 := Yf 2 _ rfl
  have f3 := Yf 3 _ rfl
  have f4 := Yf 4 _ rfl
  have f5 := Yf 5 _ rfl
  have f7 := Yf 7 _ rfl
  have z0 := Z 0 _ rfl
  have z1 := Z 1 _ rfl
  have z2 := Z 2 _ rfl
  have z3 := Z 3 _ rfl
  have z4 := Z 4 _ rfl
  have z5 := Z 5 _ rfl
  have z6 := Z 6 _ rfl
  have z7 := Z 7 _ rfl
  have k0 := Zf 0 _ rfl
  have k1 := Zf 1 _ rfl
  have k2 := Zf 2 _ rfl
  have k3 := Zf 3 _ rfl
  have k4 := Zf 4 _ rfl
  have k5 := Zf 5 _ rfl
  have k6 := Zf 6 _ rfl
  have k7 := Zf 7 _ rfl
  have HB4 := Lib.hid (HB.out.trans (hb4.mono HB.out.size))
  clear Y Yf Z Zf hb4 HY HZ HB HC x0 x1 x2 x3 x4 x5
  unfold mat0
  go_wp2_with fail
  refine bodyPost_ret (v := ans0 E) ?_ rfl ⟨rfl, ?_⟩
  · simp [results, Try.results60, go_sem, z0, z1, z2, z3, z4, z5, z6, z7, ans0]
  · repeat (with_reducible refine Below.setCell ?_ (by first | (simp; done) | (simp; omega)) _)
    exact HB4.out

set_option maxHeartbeats 2000000 in
set_option maxRecDepth 100000 in
theorem plays_err9 (r c : Int) (p : Int) (hp : 0 ≤ p) (s : Value) (n : Nat) (x : Nat → Raw) (sb : Value) (nb : Nat) (b : Nat → Raw) (w : World) (hr : RdL w s n x) (hrb : RdL w sb nb b) (he : openE r c n p ((nb : Int) == c) ≠ 0) :
    Calls Try.prog 60 #[.agg #[.int .i64 9, .int .i64 r, .int .i64 c, s, sb, .int .u64 p]] w fun e w' => e = .returned (ans0 (openE r c n p ((nb : Int) == c))) ∧ Below w.heap.size w w' := by
  obtain ⟨a, cap, rfl, -⟩ := hr.slice
  obtain ⟨ab, capb, rfl, -⟩ := hrb.slice
  obtain ⟨hx, hy, hz, hb, hs3⟩ := opBox w [.int .i64 9, .int .i64 r, .int .i64 c, .slice a n cap, .slice ab nb capb, .int .u64 p] 62 92
  have hcall := Solve_err r c p hp _ n x _ nb b _ (hr.below hb) (hrb.below hb) he
  obtain ⟨E, hE⟩ : ∃ E, E = openE r c n p ((nb : Int) == c) := ⟨_, rfl⟩
  rw [← hE] at hcall ⊢
  have HC := Lib.hid hcall
  have HY := Lib.hid hy
  have HZ := Lib.hid hz
  have HB := Lib.hid hb
  have HS3 := Lib.hid hs3
  have x0 := hx 0 _ rfl
  have x1 := hx 1 _ rfl
  have x2 := hx 2 _ rfl
  have x3 := hx 3 _ rfl
  have x4 := hx 4 _ rfl
  have x5 := hx 5 _ rfl
  clear hr hrb he hx hy hz hb hs3 hcall hE
  go_enter Try.func60, Try.ntmps60
  go_wp2_with fail
  refine HC.out.mono ?_
  rintro e w4 ⟨rfl, hb4⟩
  have Y := fun i y h => cell_stays hb4 (HZ.out i y h).1
  have Yf := fun i y h => froz_stays hb4 (HZ.out i y h).1 (HZ.out i y h).2
  have Z := fun i y h => cell_stays hb4 (HY.out i y h).1
  have Zf := fun i y h => froz_stays hb4 (HY.out i y h).1 (HY.out i y h).2
  have y0 := Y 0 _ rfl
  have y1 := Y 1 _ rfl
  have y2 := Y 2 _ rfl
  have y3 := Y 3 _ rfl
  have y4 := Y 4 _ rfl
  have y5 := Y 5 _ rfl
  have y6 := Y 6 _ rfl
  have y7 := Y 7 _ rfl
  have f0 := Yf 0 _ rfl
  have f1 := Yf 1 _ rfl
  have f2 := Yf 2 _ rfl
  have f3 := Yf 3 _ rfl
  have f4 := Yf 4 _ rfl
  have f5 := Yf 5 _ rfl
  have f7 := Yf 7 _ rfl
  have z0 := Z 0 _ rfl
  have z1 := Z 1 _ rfl
  have z2 := Z 2 _ rfl
  have z3 := Z 3 _ rfl
  have z4 := Z 4 _ rfl
  have z5 := Z 5 _ rfl
  have z6 := Z 6 _ rfl
  have z7 := Z 7 _ rfl
  have k0 := Zf 0 _ rfl
  have k1 := Zf 1 _ rfl
  have k2 := Zf 2 _ rfl
  have k3 := Zf 3 _ rfl
  have k4 := Zf 4 _ rfl
  have k5 := Zf 5 _ rfl
  have k6 := Zf 6 _ rfl
  have k7 := Zf 7 _ rfl
  have HB4 := Lib.hid (HB.out.trans (hb4.mono HB.out.size))
  clear Y Yf Z Zf hb4 HY HZ HB HC x0 x1 x2 x3 x4 x5
  go_wp2_with fail
  refine bodyPost_ret (v := ans0 E) ?_ rfl ⟨rfl, ?_⟩
  · simp [results, Try.results60, go_sem, z0, z1, z2, z3, z4, z5, z6, z7, ans0]
  · repeat (with_reducible refine Below.setCell ?_ (by first | (simp; done) | (simp; omega)) _)
    exact HB4.out

end Go.Proofs.Ytdlpemmoobbgnaa

namespace Go.Proofs.Ytdlpemmoobbgnaa
open Go.RowKit

/-- the error that the law asks of a refused call -/
theorem plays_err (k : Nat) (hk : 3 ≤ k) (hk9 : k ≤ 9) (r c : Int) (p : Int) (hp : 0 ≤ p) (s : Value) (n : Nat) (x : Nat → Raw) (sb : Value) (nb : Nat) (b : Nat → Raw) (w : World) (hr : RdL w s n x) (hrb : RdL w sb nb b) (he : openE r c n p (fitB k r c nb) ≠ 0) :
    Calls Try.prog 60 #[.agg #[.int .i64 k, .int .i64 r, .int .i64 c, s, sb, .int .u64 p]] w fun e w' => e = .returned (ans0 (openE r c n p (fitB k r c nb))) ∧ Below w.heap.size w w' := by
  rcases (by omega : k = 3 ∨ k = 4 ∨ k = 5 ∨ k = 6 ∨ k = 7 ∨ k = 8 ∨ k = 9) with e | e | e | e | e | e | e <;> subst e
  · exact plays_err3 r c p hp s n x sb nb b w hr hrb he
  · exact plays_err4 r c p hp s n x sb nb b w hr hrb he
  · exact plays_err5 r c p hp s n x sb nb b w hr hrb he
  · exact plays_err6 r c p hp s n x sb nb b w hr hrb he
  · exact plays_err7 r c p hp s n x sb nb b w hr hrb he
  · exact plays_err8 r c p hp s n x sb nb b w hr hrb he
  · exact plays_err9 r c p hp s n x sb nb b w hr hrb he

theorem rdl_nil (w : World) (x : Nat → Raw) : RdL w (.slice none 0 0) 0 x := ⟨none, 0, rfl, Nat.le_refl _, by omega, fun h => absurd h (by omega)⟩

theorem same_ans0 (E : Int) (w : World) : Calls Try.prog 61 #[ans0 E, ans0 E] w fun e w' => e = .returned (.bool true) ∧ Below w.heap.size w w' :=
  same_yes (.slice none 0 0) (.slice none 0 0) (.slice none 0 0) (.slice none 0 0) 0 0 0 0 (fun _ => ⟨false, 0, fun _ => 0⟩) (fun _ => ⟨false, 0, fun _ => 0⟩) (fun _ => ⟨false, 0, fun _ => 0⟩) (fun _ => ⟨false, 0, fun _ => 0⟩) 0 0 E false w
    (rdl_nil _ _) (rdl_nil _ _) (fun _ h => absurd h (by omega)) (rdl_nil _ _) (rdl_nil _ _) (fun _ h => absurd h (by omega))

/-- an answer's box just made -/
theorem box8 (w5 : World) (t : TypeId) (V : Int) :
    let W := w5.alloc (.cells #[.int .i64 0, .int .i64 0, .slice none 0 0, .slice none 0 0, .int .u64 0, .int .i64 0, .bool false, .int .i64 V] t)
    W.cell? ⟨w5.heap.size, 0, none⟩ = some (.int .i64 0) ∧ W.cell? ⟨w5.heap.size, 1, none⟩ = some (.int .i64 0) ∧ W.cell? ⟨w5.heap.size, 2, none⟩ = some (.slice none 0 0) ∧ W.cell? ⟨w5.heap.size, 3, none⟩ = some (.slice none 0 0) ∧
      W.cell? ⟨w5.heap.size, 4, none⟩ = some (.int .u64 0) ∧ W.cell? ⟨w5.heap.size, 5, none⟩ = some (.int .i64 0) ∧ W.cell? ⟨w5.heap.size, 6, none⟩ = some (.bool false) ∧ W.cell? ⟨w5.heap.size, 7, none⟩ = some (.int .i64 V) := by
  intro W
  have k := cellsOf w5 [.int .i64 0, .int .i64 0, .slice none 0 0, .slice none 0 0, .int .u64 0, .int .i64 0, .bool false, .int .i64 V] t
  exact ⟨(k 0 _ rfl).1, (k 1 _ rfl).1, (k 2 _ rfl).1, (k 3 _ rfl).1, (k 4 _ rfl).1, (k 5 _ rfl).1, (k 6 _ rfl).1, (k 7 _ rfl).1⟩
theorem keep3 {wr w5 : World} {a b c : Addr} {x y z : Value} (h : Below wr.heap.size wr w5) (h0 : wr.cell? a = some x) (h1 : wr.cell? b = some y) (h2 : wr.cell? c = some z) (o : Obj) :
    (w5.alloc o).cell? a = some x ∧ (w5.alloc o).cell? b = some y ∧ (w5.alloc o).cell? c = some z := by
  have h' := h.trans (((Below.refl w5.heap.size w5).alloc (Nat.le_refl _) o).mono h.size)
  exact ⟨cell_stays h' h0, cell_stays h' h1, cell_stays h' h2⟩

/-- the error that stands in the law -/
def lawE (k : Nat) (r c : Int) (n : Nat) : Int := if soundB r c n = true then if ((k = 4 ∨ k = 7) ∧ r ≠ c) ∨ (k = 9 ∧ c ≠ 0) then 2 else 9 else 1
theorem lawE_eq (k : Nat) (hk : 3 ≤ k) (hk9 : k ≤ 9) (r c : Int) (n : Nat) (p : Int) (h : ¬ (soundB r c n = true ∧ primeB p = true)) : openE r c n p (fitB k r c 0) = lawE k r c n ∧ lawE k r c n ≠ 0 := by
  unfold openE lawE fitB
  by_cases hs : soundB r c n = true
  · have hp : ¬ primeB p = true := fun e => h ⟨hs, e⟩
    rw [if_pos hs, if_pos hs, if_neg hp]
    rcases (by omega : k = 3 ∨ k = 4 ∨ k = 5 ∨ k = 6 ∨ k = 7 ∨ k = 8 ∨ k = 9) with e | e | e | e | e | e | e <;> subst e <;> simp
    · by_cases hrc : r = c <;> simp [hrc]
    · by_cases hrc : r = c <;> simp [hrc]
    · by_cases hc : c = 0
      · simp [hc]
      · have : ¬ 0 = c := fun e => hc e.symm
        simp [hc, this]
  · rw [if_neg hs, if_neg hs]; simp

set_option maxHeartbeats 2000000 in
set_option maxRecDepth 100000 in
theorem refuses_yes (r c : Int) (p : Int) (hp : 0 ≤ p) (s : Value) (n : Nat) (x : Nat → Raw) (w : World) (hr : RdL w s n x) (h : ¬ (soundB r c n = true ∧ primeB p = true)) :
    Calls Try.prog 34 #[.agg #[.int .i64 r, .int .i64 c, s], .int .u64 p] w fun e w' => e = .returned (.bool true) ∧ Below w.heap.size w w' := by
  obtain ⟨a, cap, rfl, hn⟩ := hr.slice
  have hsd := fun W => sound_any r c a n cap hn W
  have hpr := fun W => prime_any p hp W
  have hlaw := fun k h1 h2 => lawE_eq k h1 h2 r c n p h
  have HR := Lib.hid hr
  have HLW := Lib.hid hlaw
  have z := three_cells w (.int .i64 r) (.int .i64 c) (.slice a n cap) 34
  have hb0 : Below w.heap.size w (w.alloc (.cells #[.int .i64 r, .int .i64 c, .slice a n cap] 34)) := (Below.refl _ _).alloc (Nat.le_refl _) _
  have x0 := (z 0 _ rfl).1
  have x1 := (z 1 _ rfl).1
  have x2 := (z 2 _ rfl).1
  have HB0 := Lib.hid hb0
  have hprE : soundB r c n = true → primeB p = false := fun e => by simpa using fun e2 => h ⟨e, e2⟩
  have HPE := Lib.hid hprE
  have hlE : ∀ k, lawE k r c n = if soundB r c n = true then if ((k = 4 ∨ k = 7) ∧ r ≠ c) ∨ (k = 9 ∧ c ≠ 0) then 2 else 9 else 1 := fun _ => rfl
  generalize soundB r c n = sd at hsd hlE HPE
  generalize primeB p = pr at hpr HPE
  generalize hlf : (fun k => lawE k r c n) = lf at *
  have hl2 : ∀ k, lawE k r c n = lf k := fun k => by rw [← hlf]
  have HSD := Lib.hid hsd
  have HPR := Lib.hid hpr
  have HLE : Hid (∀ k, lf k = if sd = true then if ((k = 4 ∨ k = 7) ∧ r ≠ c) ∨ (k = 9 ∧ c ≠ 0) then 2 else 9 else 1) := fun k => by rw [← hl2]; exact hlE k
  have HLW : Hid (∀ k : Nat, 3 ≤ k → k ≤ 9 → openE r c n p (fitB (k : Nat) r c 0) = lf k ∧ lf k ≠ 0) := fun k h1 h2 => by rw [← hl2]; exact HLW.out k h1 h2
  clear hr h hlaw hb0 z hsd hpr hprE hlE hlf hl2
  cases sd with
  | true =>
    obtain rfl : pr = false := HPE.out rfl
    go_enter Try.func34, Try.ntmps34
    go_wp2_with (first
      | (go_at_call 15; refine (HSD.out _).mono ?_; rintro e w1 ⟨rfl, hb1⟩; have x0 := cell_stays hb1 x0; have x1 := cell_stays hb1 x1; have x2 := cell_stays hb1 x2)
      | (go_at_call 14; refine (HPR.out _).mono ?_; rintro e w2 ⟨rfl, rfl⟩))
    have HB1 := Lib.hid (HB0.out.trans (hb1.mono HB0.out.size))
    clear hb1 HB0
    go_loopw [5] (fun kv wr => ∃ k : Nat, 3 ≤ k ∧ k ≤ 10 ∧ kv = .int .i64 k ∧ Below w.heap.size w wr ∧ wr.cell? ⟨w.heap.size, 0, none⟩ = some (.int .i64 r) ∧ wr.cell? ⟨w.heap.size, 1, none⟩ = some (.int .i64 c) ∧ wr.cell? ⟨w.heap.size, 2, none⟩ = some (.slice a n cap)) (fun kv _ => 10 - (intOf kv).toNat)
    case atStart => exact ⟨3, by omega, by omega, rfl, HB1.out, x0, x1, x2⟩
    case round =>
      clear HB1 x0 x1 x2
      obtain ⟨k, k1, k2, rfl, hb, x0, x1, x2⟩ := hrel
      rcases (by omega : k = 3 ∨ k = 4 ∨ k = 5 ∨ k = 6 ∨ k = 7 ∨ k = 8 ∨ k = 9 ∨ k = 10) with e | e | e | e | e | e | e | e <;> subst e
      · have hE : lf 3 = 9 := by rw [HLE.out]; simp
        have hE1 := (HLW.out 3 (by omega) (by omega)).1
        have hpl := plays_err 3 (by omega) (by omega) r c p hp _ n x (.slice none 0 0) 0 x wr (HR.out.below hb) (rdl_nil _ _) (by rw [hE1, hE]; decide)
        rw [hE1, hE, show ((3 : Nat) : Int) = 3 from rfl] at hpl
        unfold ans0 at hpl
        have hsm := fun W => same_ans0 9 W
        unfold ans0 at hsm
        have HPL := Lib.hid hpl
        have HSM := Lib.hid hsm
        have HBB := Lib.hid hb
        clear hE hE1 hpl hsm hb
        go_wp2_with (first
          | (go_at_call 60; (with_reducible refine HPL.out.mono ?_); rintro e w5 ⟨rfl, hb5⟩; have HB5 := Lib.hid ((HBB.out.trans (hb5.mono HBB.out.size)).alloc (Nat.le_trans HBB.out.size hb5.size) (.cells #[.int .i64 0, .int .i64 0, .slice none 0 0, .slice none 0 0, .int .u64 0, .int .i64 0, .bool false, .int .i64 9] 92)); have hx5 := keep3 hb5 x0 x1 x2 (.cells #[.int .i64 0, .int .i64 0, .slice none 0 0, .slice none 0 0, .int .u64 0, .int .i64 0, .bool false, .int .i64 9] 92); obtain ⟨x0, x1, x2⟩ := hx5; have ba := box8 w5 92 9; obtain ⟨a0, a1, a2, a3, a4, a5, a6, a7⟩ := ba)
          | (go_at_call 15; refine (HSD.out _).mono ?_; rintro e w6 ⟨rfl, hb6⟩; have HB6 := Lib.hid (HB5.out.trans (hb6.mono HB5.out.size)); have x0 := cell_stays hb6 x0; have x1 := cell_stays hb6 x1; have x2 := cell_stays hb6 x2; have a0 := cell_stays hb6 a0; have a1 := cell_stays hb6 a1; have a2 := cell_stays hb6 a2; have a3 := cell_stays hb6 a3; have a4 := cell_stays hb6 a4; have a5 := cell_stays hb6 a5; have a6 := cell_stays hb6 a6; have a7 := cell_stays hb6 a7)
          | (go_at_call 61; refine (HSM.out _).mono ?_; rintro e w7 ⟨rfl, hb7⟩; have HB7 := Lib.hid (HB6.out.trans (hb7.mono HB6.out.size)); have x0 := cell_stays hb7 x0; have x1 := cell_stays hb7 x1; have x2 := cell_stays hb7 x2))
        go_roundw
        case rel => exact ⟨4, by omega, by omega, by go_num, HB7.out, x0, x1, x2⟩
        case measure => simp [intOf]
      · by_cases hrc : r = c
        · have hcb : (r != c) = false := by rw [bne_eq_false_iff_eq]; exact hrc
          have hE : lf 4 = 9 := by rw [HLE.out]; simp [hrc]
          have hE1 := (HLW.out 4 (by omega) (by omega)).1
          have hpl := plays_err 4 (by omega) (by omega) r c p hp _ n x (.slice none 0 0) 0 x wr (HR.out.below hb) (rdl_nil _ _) (by rw [hE1, hE]; decide)
          rw [hE1, hE, show ((4 : Nat) : Int) = 4 from rfl] at hpl
          unfold ans0 at hpl
          have hsm := fun W => same_ans0 9 W
          unfold ans0 at hsm
          have HPL := Lib.hid hpl
          have HSM := Lib.hid hsm
          have HBB := Lib.hid hb
          clear hE hE1 hpl hsm hb hrc
          go_wp2_with (first
            | (go_at_call 60; (with_reducible refine HPL.out.mono ?_); rintro e w5 ⟨rfl, hb5⟩; have HB5 := Lib.hid ((HBB.out.trans (hb5.mono HBB.out.size)).alloc (Nat.le_trans HBB.out.size hb5.size) (.cells #[.int .i64 0, .int .i64 0, .slice none 0 0, .slice none 0 0, .int .u64 0, .int .i64 0, .bool false, .int .i64 9] 92)); have hx5 := keep3 hb5 x0 x1 x2 (.cells #[.int .i64 0, .int .i64 0, .slice none 0 0, .slice none 0 0, .int .u64 0, .int .i64 0, .bool false, .int .i64 9] 92); obtain ⟨x0, x1, x2⟩ := hx5; have ba := box8 w5 92 9; obtain ⟨a0, a1, a2, a3, a4, a5, a6, a7⟩ := ba)
            | (go_at_call 15; refine (HSD.out _).mono ?_; rintro e w6 ⟨rfl, hb6⟩; have HB6 := Lib.hid (HB5.out.trans (hb6.mono HB5.out.size)); have x0 := cell_stays hb6 x0; have x1 := cell_stays hb6 x1; have x2 := cell_stays hb6 x2; have a0 := cell_stays hb6 a0; have a1 := cell_stays hb6 a1; have a2 := cell_stays hb6 a2; have a3 := cell_stays hb6 a3; have a4 := cell_stays hb6 a4; have a5 := cell_stays hb6 a5; have a6 := cell_stays hb6 a6; have a7 := cell_stays hb6 a7)
            | (go_at_call 61; refine (HSM.out _).mono ?_; rintro e w7 ⟨rfl, hb7⟩; have HB7 := Lib.hid (HB6.out.trans (hb7.mono HB6.out.size)); have x0 := cell_stays hb7 x0; have x1 := cell_stays hb7 x1; have x2 := cell_stays hb7 x2))
          go_roundw
          case rel => exact ⟨5, by omega, by omega, by go_num, HB7.out, x0, x1, x2⟩
          case measure => simp [intOf]
        · have hcb : (r != c) = true := by rw [bne_iff_ne]; exact hrc
          have hE : lf 4 = 2 := by rw [HLE.out]; simp [hrc]
          have hE1 := (HLW.out 4 (by omega) (by omega)).1
          have hpl := plays_err 4 (by omega) (by omega) r c p hp _ n x (.slice none 0 0) 0 x wr (HR.out.below hb) (rdl_nil _ _) (by rw [hE1, hE]; decide)
          rw [hE1, hE, show ((4 : Nat) : Int) = 4 from rfl] at hpl
          unfold ans0 at hpl
          have hsm := fun W => same_ans0 2 W
          unfold ans0 at hsm
          have HPL := Lib.hid hpl
          have HSM := Lib.hid hsm
          have HBB := Lib.hid hb
          clear hE hE1 hpl hsm hb hrc
          go_wp2_with (first
            | (go_at_call 60; (with_reducible refine HPL.out.mono ?_); rintro e w5 ⟨rfl, hb5⟩; have HB5 := Lib.hid ((HBB.out.trans (hb5.mono HBB.out.size)).alloc (Nat.le_trans HBB.out.size hb5.size) (.cells #[.int .i64 0, .int .i64 0, .slice none 0 0, .slice none 0 0, .int .u64 0, .int .i64 0, .bool false, .int .i64 2] 92)); have hx5 := keep3 hb5 x0 x1 x2 (.cells #[.int .i64 0, .int .i64 0, .slice none 0 0, .slice none 0 0, .int .u64 0, .int .i64 0, .bool false, .int .i64 2] 92); obtain ⟨x0, x1, x2⟩ := hx5; have ba := box8 w5 92 2; obtain ⟨a0, a1, a2, a3, a4, a5, a6, a7⟩ := ba)
            | (go_at_call 15; refine (HSD.out _).mono ?_; rintro e w6 ⟨rfl, hb6⟩; have HB6 := Lib.hid (HB5.out.trans (hb6.mono HB5.out.size)); have x0 := cell_stays hb6 x0; have x1 := cell_stays hb6 x1; have x2 := cell_stays hb6 x2; have a0 := cell_stays hb6 a0; have a1 := cell_stays hb6 a1; have a2 := cell_stays hb6 a2; have a3 := cell_stays hb6 a3; have a4 := cell_stays hb6 a4; have a5 := cell_stays hb6 a5; have a6 := cell_stays hb6 a6; have a7 := cell_stays hb6 a7)
            | (go_at_call 61; refine (HSM.out _).mono ?_; rintro e w7 ⟨rfl, hb7⟩; have HB7 := Lib.hid (HB6.out.trans (hb7.mono HB6.out.size)); have x0 := cell_stays hb7 x0; have x1 := cell_stays hb7 x1; have x2 := cell_stays hb7 x2))
          go_roundw
          case rel => exact ⟨5, by omega, by omega, by go_num, HB7.out, x0, x1, x2⟩
          case measure => simp [intOf]
      · have hE : lf 5 = 9 := by rw [HLE.out]; simp
        have hE1 := (HLW.out 5 (by omega) (by omega)).1
        have hpl := plays_err 5 (by omega) (by omega) r c p hp _ n x (.slice none 0 0) 0 x wr (HR.out.below hb) (rdl_nil _ _) (by rw [hE1, hE]; decide)
        rw [hE1, hE, show ((5 : Nat) : Int) = 5 from rfl] at hpl
        unfold ans0 at hpl
        have hsm := fun W => same_ans0 9 W
        unfold ans0 at hsm
        have HPL := Lib.hid hpl
        have HSM := Lib.hid hsm
        have HBB := Lib.hid hb
        clear hE hE1 hpl hsm hb
        go_wp2_with (first
          | (go_at_call 60; (with_reducible refine HPL.out.mono ?_); rintro e w5 ⟨rfl, hb5⟩; have HB5 := Lib.hid ((HBB.out.trans (hb5.mono HBB.out.size)).alloc (Nat.le_trans HBB.out.size hb5.size) (.cells #[.int .i64 0, .int .i64 0, .slice none 0 0, .slice none 0 0, .int .u64 0, .int .i64 0, .bool false, .int .i64 9] 92)); have hx5 := keep3 hb5 x0 x1 x2 (.cells #[.int .i64 0, .int .i64 0, .slice none 0 0, .slice none 0 0, .int .u64 0, .int .i64 0, .bool false, .int .i64 9] 92); obtain ⟨x0, x1, x2⟩ := hx5; have ba := box8 w5 92 9; obtain ⟨a0, a1, a2, a3, a4, a5, a6, a7⟩ := ba)
          | (go_at_call 15; refine (HSD.out _).mono ?_; rintro e w6 ⟨rfl, hb6⟩; have HB6 := Lib.hid (HB5.out.trans (hb6.mono HB5.out.size)); have x0 := cell_stays hb6 x0; have x1 := cell_stays hb6 x1; have x2 := cell_stays hb6 x2; have a0 := cell_stays hb6 a0; have a1 := cell_stays hb6 a1; have a2 := cell_stays hb6 a2; have a3 := cell_stays hb6 a3; have a4 := cell_stays hb6 a4; have a5 := cell_stays hb6 a5; have a6 := cell_stays hb6 a6; have a7 := cell_stays hb6 a7)
          | (go_at_call 61; refine (HSM.out _).mono ?_; rintro e w7 ⟨rfl, hb7⟩; have HB7 := Lib.hid (HB6.out.trans (hb7.mono HB6.out.size)); have x0 := cell_stays hb7 x0; have x1 := cell_stays hb7 x1; have x2 := cell_stays hb7 x2))
        go_roundw
        case rel => exact ⟨6, by omega, by omega, by go_num, HB7.out, x0, x1, x2⟩
        case measure => simp [intOf]
      · have hE : lf 6 = 9 := by rw [HLE.out]; simp
        have hE1 := (HLW.out 6 (by omega) (by omega)).1
        have hpl := plays_err 6 (by omega) (by omega) r c p hp _ n x (.slice none 0 0) 0 x wr (HR.out.below hb) (rdl_nil _ _) (by rw [hE1, hE]; decide)
        rw [hE1, hE, show ((6 : Nat) : Int) = 6 from rfl] at hpl
        unfold ans0 at hpl
        have hsm := fun W => same_ans0 9 W
        unfold ans0 at hsm
        have HPL := Lib.hid hpl
        have HSM := Lib.hid hsm
        have HBB := Lib.hid hb
        clear hE hE1 hpl hsm hb
        go_wp2_with (first
          | (go_at_call 60; (with_reducible refine HPL.out.mono ?_); rintro e w5 ⟨rfl, hb5⟩; have HB5 := Lib.hid ((HBB.out.trans (hb5.mono HBB.out.size)).alloc (Nat.le_trans HBB.out.size hb5.size) (.cells #[.int .i64 0, .int .i64 0, .slice none 0 0, .slice none 0 0, .int .u64 0, .int .i64 0, .bool false, .int .i64 9] 92)); have hx5 := keep3 hb5 x0 x1 x2 (.cells #[.int .i64 0, .int .i64 0, .slice none 0 0, .slice none 0 0, .int .u64 0, .int .i64 0, .bool false, .int .i64 9] 92); obtain ⟨x0, x1, x2⟩ := hx5; have ba := box8 w5 92 9; obtain ⟨a0, a1, a2, a3, a4, a5, a6, a7⟩ := ba)
          | (go_at_call 15; refine (HSD.out _).mono ?_; rintro e w6 ⟨rfl, hb6⟩; have HB6 := Lib.hid (HB5.out.trans (hb6.mono HB5.out.size)); have x0 := cell_stays hb6 x0; have x1 := cell_stays hb6 x1; have x2 := cell_stays hb6 x2; have a0 := cell_stays hb6 a0; have a1 := cell_stays hb6 a1; have a2 := cell_stays hb6 a2; have a3 := cell_stays hb6 a3; have a4 := cell_stays hb6 a4; have a5 := cell_stays hb6 a5; have a6 := cell_stays hb6 a6; have a7 := cell_stays hb6 a7)
          | (go_at_call 61; refine (HSM.out _).mono ?_; rintro e w7 ⟨rfl, hb7⟩; have HB7 := Lib.hid (HB6.out.trans (hb7.mono HB6.out.size)); have x0 := cell_stays hb7 x0; have x1 := cell_stays hb7 x1; have x2 := cell_stays hb7 x2))
        go_roundw
        case rel => exact ⟨7, by omega, by omega, by go_num, HB7.out, x0, x1, x2⟩
        case measure => simp [intOf]
      · by_cases hrc : r = c
        · have hcb : (r != c) = false := by rw [bne_eq_false_iff_eq]; exact hrc
          have hE : lf 7 = 9 := by rw [HLE.out]; simp [hrc]
          have hE1 := (HLW.out 7 (by omega) (by omega)).1
          have hpl := plays_err 7 (by omega) (by omega) r c p hp _ n x (.slice none 0 0) 0 x wr (HR.out.below hb) (rdl_nil _ _) (by rw [hE1, hE]; decide)
          rw [hE1, hE, show ((7 : Nat) : Int) = 7 from rfl] at hpl
          unfold ans0 at hpl
          have hsm := fun W => same_ans0 9 W
          unfold ans0 at hsm
          have HPL := Lib.hid hpl
          have HSM := Lib.hid hsm
          have HBB := Lib.hid hb
          clear hE hE1 hpl hsm hb hrc
          go_wp2_with (first
            | (go_at_call 60; (with_reducible refine HPL.out.mono ?_); rintro e w5 ⟨rfl, hb5⟩; have HB5 := Lib.hid ((HBB.out.trans (hb5.mono HBB.out.size)).alloc (Nat.le_trans HBB.out.size hb5.size) (.cells #[.int .i64 0, .int .i64 0, .slice none 0 0, .slice none 0 0, .int .u64 0, .int .i64 0, .bool false, .int .i64 9] 92)); have hx5 := keep3 hb5 x0 x1 x2 (.cells #[.int .i64 0, .int .i64 0, .slice none 0 0, .slice none 0 0, .int .u64 0, .int .i64 0, .bool false, .int .i64 9] 92); obtain ⟨x0, x1, x2⟩ := hx5; have ba := box8 w5 92 9; obtain ⟨a0, a1, a2, a3, a4, a5, a6, a7⟩ := ba)
            | (go_at_call 15; refine (HSD.out _).mono ?_; rintro e w6 ⟨rfl, hb6⟩; have HB6 := Lib.hid (HB5.out.trans (hb6.mono HB5.out.size)); have x0 := cell_stays hb6 x0; have x1 := cell_stays hb6 x1; have x2 := cell_stays hb6 x2; have a0 := cell_stays hb6 a0; have a1 := cell_stays hb6 a1; have a2 := cell_stays hb6 a2; have a3 := cell_stays hb6 a3; have a4 := cell_stays hb6 a4; have a5 := cell_stays hb6 a5; have a6 := cell_stays hb6 a6; have a7 := cell_stays hb6 a7)
            | (go_at_call 61; refine (HSM.out _).mono ?_; rintro e w7 ⟨rfl, hb7⟩; have HB7 := Lib.hid (HB6.out.trans (hb7.mono HB6.out.size)); have x0 := cell_stays hb7 x0; have x1 := cell_stays hb7 x1; have x2 := cell_stays hb7 x2))
          go_roundw
          case rel => exact ⟨8, by omega, by omega, by go_num, HB7.out, x0, x1, x2⟩
          case measure => simp [intOf]
        · have hcb : (r != c) = true := by rw [bne_iff_ne]; exact hrc
          have hE : lf 7 = 2 := by rw [HLE.out]; simp [hrc]
          have hE1 := (HLW.out 7 (by omega) (by omega)).1
          have hpl := plays_err 7 (by omega) (by omega) r c p hp _ n x (.slice none 0 0) 0 x wr (HR.out.below hb) (rdl_nil _ _) (by rw [hE1, hE]; decide)
          rw [hE1, hE, show ((7 : Nat) : Int) = 7 from rfl] at hpl
          unfold ans0 at hpl
          have hsm := fun W => same_ans0 2 W
          unfold ans0 at hsm
          have HPL := Lib.hid hpl
          have HSM := Lib.hid hsm
          have HBB := Lib.hid hb
          clear hE hE1 hpl hsm hb hrc
          go_wp2_with (first
            | (go_at_call 60; (with_reducible refine HPL.out.mono ?_); rintro e w5 ⟨rfl, hb5⟩; have HB5 := Lib.hid ((HBB.out.trans (hb5.mono HBB.out.size)).alloc (Nat.le_trans HBB.out.size hb5.size) (.cells #[.int .i64 0, .int .i64 0, .slice none 0 0, .slice none 0 0, .int .u64 0, .int .i64 0, .bool false, .int .i64 2] 92)); have hx5 := keep3 hb5 x0 x1 x2 (.cells #[.int .i64 0, .int .i64 0, .slice none 0 0, .slice none 0 0, .int .u64 0, .int .i64 0, .bool false, .int .i64 2] 92); obtain ⟨x0, x1, x2⟩ := hx5; have ba := box8 w5 92 2; obtain ⟨a0, a1, a2, a3, a4, a5, a6, a7⟩ := ba)
            | (go_at_call 15; refine (HSD.out _).mono ?_; rintro e w6 ⟨rfl, hb6⟩; have HB6 := Lib.hid (HB5.out.trans (hb6.mono HB5.out.size)); have x0 := cell_stays hb6 x0; have x1 := cell_stays hb6 x1; have x2 := cell_stays hb6 x2; have a0 := cell_stays hb6 a0; have a1 := cell_stays hb6 a1; have a2 := cell_stays hb6 a2; have a3 := cell_stays hb6 a3; have a4 := cell_stays hb6 a4; have a5 := cell_stays hb6 a5; have a6 := cell_stays hb6 a6; have a7 := cell_stays hb6 a7)
            | (go_at_call 61; refine (HSM.out _).mono ?_; rintro e w7 ⟨rfl, hb7⟩; have HB7 := Lib.hid (HB6.out.trans (hb7.mono HB6.out.size)); have x0 := cell_stays hb7 x0; have x1 := cell_stays hb7 x1; have x2 := cell_stays hb7 x2))
          go_roundw
          case rel => exact ⟨8, by omega, by omega, by go_num, HB7.out, x0, x1, x2⟩
          case measure => simp [intOf]
      · have hE : lf 8 = 9 := by rw [HLE.out]; simp
        have hE1 := (HLW.out 8 (by omega) (by omega)).1
        have hpl := plays_err 8 (by omega) (by omega) r c p hp _ n x (.slice none 0 0) 0 x wr (HR.out.below hb) (rdl_nil _ _) (by rw [hE1, hE]; decide)
        rw [hE1, hE, show ((8 : Nat) : Int) = 8 from rfl] at hpl
        unfold ans0 at hpl
        have hsm := fun W => same_ans0 9 W
        unfold ans0 at hsm
        have HPL := Lib.hid hpl
        have HSM := Lib.hid hsm
        have HBB := Lib.hid hb
        clear hE hE1 hpl hsm hb
        go_wp2_with (first
          | (go_at_call 60; (with_reducible refine HPL.out.mono ?_); rintro e w5 ⟨rfl, hb5⟩; have HB5 := Lib.hid ((HBB.out.trans (hb5.mono HBB.out.size)).alloc (Nat.le_trans HBB.out.size hb5.size) (.cells #[.int .i64 0, .int .i64 0, .slice none 0 0, .slice none 0 0, .int .u64 0, .int .i64 0, .bool false, .int .i64 9] 92)); have hx5 := keep3 hb5 x0 x1 x2 (.cells #[.int .i64 0, .int .i64 0, .slice none 0 0, .slice none 0 0, .int .u64 0, .int .i64 0, .bool false, .int .i64 9] 92); obtain ⟨x0, x1, x2⟩ := hx5; have ba := box8 w5 92 9; obtain ⟨a0, a1, a2, a3, a4, a5, a6, a7⟩ := ba)
          | (go_at_call 15; refine (HSD.out _).mono ?_; rintro e w6 ⟨rfl, hb6⟩; have HB6 := Lib.hid (HB5.out.trans (hb6.mono HB5.out.size)); have x0 := cell_stays hb6 x0; have x1 := cell_stays hb6 x1; have x2 := cell_stays hb6 x2; have a0 := cell_stays hb6 a0; have a1 := cell_stays hb6 a1; have a2 := cell_stays hb6 a2; have a3 := cell_stays hb6 a3; have a4 := cell_stays hb6 a4; have a5 := cell_stays hb6 a5; have a6 := cell_stays hb6 a6; have a7 := cell_stays hb6 a7)
          | (go_at_call 61; refine (HSM.out _).mono ?_; rintro e w7 ⟨rfl, hb7⟩; have HB7 := Lib.hid (HB6.out.trans (hb7.mono HB6.out.size)); have x0 := cell_stays hb7 x0; have x1 := cell_stays hb7 x1; have x2 := cell_stays hb7 x2))
        go_roundw
        case rel => exact ⟨9, by omega, by omega, by go_num, HB7.out, x0, x1, x2⟩
        case measure => simp [intOf]
      · by_cases hc0 : c = 0
        · have hcb : (c != 0) = false := by rw [bne_eq_false_iff_eq]; exact hc0
          have hE : lf 9 = 9 := by rw [HLE.out]; simp [hc0]
          have hE1 := (HLW.out 9 (by omega) (by omega)).1
          have hpl := plays_err 9 (by omega) (by omega) r c p hp _ n x (.slice none 0 0) 0 x wr (HR.out.below hb) (rdl_nil _ _) (by rw [hE1, hE]; decide)
          rw [hE1, hE, show ((9 : Nat) : Int) = 9 from rfl] at hpl
          unfold ans0 at hpl
          have hsm := fun W => same_ans0 9 W
          unfold ans0 at hsm
          have HPL := Lib.hid hpl
          have HSM := Lib.hid hsm
          have HBB := Lib.hid hb
          clear hE hE1 hpl hsm hb hc0
          go_wp2_with (first
            | (go_at_call 60; (with_reducible refine HPL.out.mono ?_); rintro e w5 ⟨rfl, hb5⟩; have HB5 := Lib.hid ((HBB.out.trans (hb5.mono HBB.out.size)).alloc (Nat.le_trans HBB.out.size hb5.size) (.cells #[.int .i64 0, .int .i64 0, .slice none 0 0, .slice none 0 0, .int .u64 0, .int .i64 0, .bool false, .int .i64 9] 92)); have hx5 := keep3 hb5 x0 x1 x2 (.cells #[.int .i64 0, .int .i64 0, .slice none 0 0, .slice none 0 0, .int .u64 0, .int .i64 0, .bool false, .int .i64 9] 92); obtain ⟨x0, x1, x2⟩ := hx5; have ba := box8 w5 92 9; obtain ⟨a0, a1, a2, a3, a4, a5, a6, a7⟩ := ba)
            | (go_at_call 15; refine (HSD.out _).mono ?_; rintro e w6 ⟨rfl, hb6⟩; have HB6 := Lib.hid (HB5.out.trans (hb6.mono HB5.out.size)); have x0 := cell_stays hb6 x0; have x1 := cell_stays hb6 x1; have x2 := cell_stays hb6 x2; have a0 := cell_stays hb6 a0; have a1 := cell_stays hb6 a1; have a2 := cell_stays hb6 a2; have a3 := cell_stays hb6 a3; have a4 := cell_stays hb6 a4; have a5 := cell_stays hb6 a5; have a6 := cell_stays hb6 a6; have a7 := cell_stays hb6 a7)
            | (go_at_call 61; refine (HSM.out _).mono ?_; rintro e w7 ⟨rfl, hb7⟩; have HB7 := Lib.hid (HB6.out.trans (hb7.mono HB6.out.size)); have x0 := cell_stays hb7 x0; have x1 := cell_stays hb7 x1; have x2 := cell_stays hb7 x2))
          go_roundw
          case rel => exact ⟨10, by omega, by omega, by go_num, HB7.out, x0, x1, x2⟩
          case measure => simp [intOf]
        · have hcb : (c != 0) = true := by rw [bne_iff_ne]; exact hc0
          have hE : lf 9 = 2 := by rw [HLE.out]; simp [hc0]
          have hE1 := (HLW.out 9 (by omega) (by omega)).1
          have hpl := plays_err 9 (by omega) (by omega) r c p hp _ n x (.slice none 0 0) 0 x wr (HR.out.below hb) (rdl_nil _ _) (by rw [hE1, hE]; decide)
          rw [hE1, hE, show ((9 : Nat) : Int) = 9 from rfl] at hpl
          unfold ans0 at hpl
          have hsm := fun W => same_ans0 2 W
          unfold ans0 at hsm
          have HPL := Lib.hid hpl
          have HSM := Lib.hid hsm
          have HBB := Lib.hid hb
          clear hE hE1 hpl hsm hb hc0
          go_wp2_with (first
            | (go_at_call 60; (with_reducible refine HPL.out.mono ?_); rintro e w5 ⟨rfl, hb5⟩; have HB5 := Lib.hid ((HBB.out.trans (hb5.mono HBB.out.size)).alloc (Nat.le_trans HBB.out.size hb5.size) (.cells #[.int .i64 0, .int .i64 0, .slice none 0 0, .slice none 0 0, .int .u64 0, .int .i64 0, .bool false, .int .i64 2] 92)); have hx5 := keep3 hb5 x0 x1 x2 (.cells #[.int .i64 0, .int .i64 0, .slice none 0 0, .slice none 0 0, .int .u64 0, .int .i64 0, .bool false, .int .i64 2] 92); obtain ⟨x0, x1, x2⟩ := hx5; have ba := box8 w5 92 2; obtain ⟨a0, a1, a2, a3, a4, a5, a6, a7⟩ := ba)
            | (go_at_call 15; refine (HSD.out _).mono ?_; rintro e w6 ⟨rfl, hb6⟩; have HB6 := Lib.hid (HB5.out.trans (hb6.mono HB5.out.size)); have x0 := cell_stays hb6 x0; have x1 := cell_stays hb6 x1; have x2 := cell_stays hb6 x2; have a0 := cell_stays hb6 a0; have a1 := cell_stays hb6 a1; have a2 := cell_stays hb6 a2; have a3 := cell_stays hb6 a3; have a4 := cell_stays hb6 a4; have a5 := cell_stays hb6 a5; have a6 := cell_stays hb6 a6; have a7 := cell_stays hb6 a7)
            | (go_at_call 61; refine (HSM.out _).mono ?_; rintro e w7 ⟨rfl, hb7⟩; have HB7 := Lib.hid (HB6.out.trans (hb7.mono HB6.out.size)); have x0 := cell_stays hb7 x0; have x1 := cell_stays hb7 x1; have x2 := cell_stays hb7 x2))
          go_roundw
          case rel => exact ⟨10, by omega, by omega, by go_num, HB7.out, x0, x1, x2⟩
          case measure => simp [intOf]
      · go_wp2_with fail
        go_ret
        exact ⟨rfl, hb⟩
  | false =>
    go_enter Try.func34, Try.ntmps34
    go_wp2_with (first
      | (go_at_call 15; refine (HSD.out _).mono ?_; rintro e w1 ⟨rfl, hb1⟩; have x0 := cell_stays hb1 x0; have x1 := cell_stays hb1 x1; have x2 := cell_stays hb1 x2)
      | (go_at_call 14; refine (HPR.out _).mono ?_; rintro e w2 ⟨rfl, rfl⟩))
    have HB1 := Lib.hid (HB0.out.trans (hb1.mono HB0.out.size))
    clear hb1 HB0
    go_loopw [5] (fun kv wr => ∃ k : Nat, 3 ≤ k ∧ k ≤ 10 ∧ kv = .int .i64 k ∧ Below w.heap.size w wr ∧ wr.cell? ⟨w.heap.size, 0, none⟩ = some (.int .i64 r) ∧ wr.cell? ⟨w.heap.size, 1, none⟩ = some (.int .i64 c) ∧ wr.cell? ⟨w.heap.size, 2, none⟩ = some (.slice a n cap)) (fun kv _ => 10 - (intOf kv).toNat)
    case atStart => exact ⟨3, by omega, by omega, rfl, HB1.out, x0, x1, x2⟩
    case round =>
      clear HB1 x0 x1 x2
      obtain ⟨k, k1, k2, rfl, hb, x0, x1, x2⟩ := hrel
      rcases (by omega : k = 3 ∨ k = 4 ∨ k = 5 ∨ k = 6 ∨ k = 7 ∨ k = 8 ∨ k = 9 ∨ k = 10) with e | e | e | e | e | e | e | e <;> subst e
      · have hE : lf 3 = 1 := by rw [HLE.out]; simp
        have hE1 := (HLW.out 3 (by omega) (by omega)).1
        have hpl := plays_err 3 (by omega) (by omega) r c p hp _ n x (.slice none 0 0) 0 x wr (HR.out.below hb) (rdl_nil _ _) (by rw [hE1, hE]; decide)
        rw [hE1, hE, show ((3 : Nat) : Int) = 3 from rfl] at hpl
        unfold ans0 at hpl
        have hsm := fun W => same_ans0 1 W
        unfold ans0 at hsm
        have HPL := Lib.hid hpl
        have HSM := Lib.hid hsm
        have HBB := Lib.hid hb
        clear hE hE1 hpl hsm hb
        go_wp2_with (first
          | (go_at_call 60; (with_reducible refine HPL.out.mono ?_); rintro e w5 ⟨rfl, hb5⟩; have HB5 := Lib.hid ((HBB.out.trans (hb5.mono HBB.out.size)).alloc (Nat.le_trans HBB.out.size hb5.size) (.cells #[.int .i64 0, .int .i64 0, .slice none 0 0, .slice none 0 0, .int .u64 0, .int .i64 0, .bool false, .int .i64 1] 92)); have hx5 := keep3 hb5 x0 x1 x2 (.cells #[.int .i64 0, .int .i64 0, .slice none 0 0, .slice none 0 0, .int .u64 0, .int .i64 0, .bool false, .int .i64 1] 92); obtain ⟨x0, x1, x2⟩ := hx5; have ba := box8 w5 92 1; obtain ⟨a0, a1, a2, a3, a4, a5, a6, a7⟩ := ba)
          | (go_at_call 15; refine (HSD.out _).mono ?_; rintro e w6 ⟨rfl, hb6⟩; have HB6 := Lib.hid (HB5.out.trans (hb6.mono HB5.out.size)); have x0 := cell_stays hb6 x0; have x1 := cell_stays hb6 x1; have x2 := cell_stays hb6 x2; have a0 := cell_stays hb6 a0; have a1 := cell_stays hb6 a1; have a2 := cell_stays hb6 a2; have a3 := cell_stays hb6 a3; have a4 := cell_stays hb6 a4; have a5 := cell_stays hb6 a5; have a6 := cell_stays hb6 a6; have a7 := cell_stays hb6 a7)
          | (go_at_call 61; refine (HSM.out _).mono ?_; rintro e w7 ⟨rfl, hb7⟩; have HB7 := Lib.hid (HB6.out.trans (hb7.mono HB6.out.size)); have x0 := cell_stays hb7 x0; have x1 := cell_stays hb7 x1; have x2 := cell_stays hb7 x2))
        go_roundw
        case rel => exact ⟨4, by omega, by omega, by go_num, HB7.out, x0, x1, x2⟩
        case measure => simp [intOf]
      · by_cases hrc : r = c
        · have hcb : (r != c) = false := by rw [bne_eq_false_iff_eq]; exact hrc
          have hE : lf 4 = 1 := by rw [HLE.out]; simp [hrc]
          have hE1 := (HLW.out 4 (by omega) (by omega)).1
          have hpl := plays_err 4 (by omega) (by omega) r c p hp _ n x (.slice none 0 0) 0 x wr (HR.out.below hb) (rdl_nil _ _) (by rw [hE1, hE]; decide)
          rw [hE1, hE, show ((4 : Nat) : Int) = 4 from rfl] at hpl
          unfold ans0 at hpl
          have hsm := fun W => same_ans0 1 W
          unfold ans0 at hsm
          have HPL := Lib.hid hpl
          have HSM := Lib.hid hsm
          have HBB := Lib.hid hb
          clear hE hE1 hpl hsm hb hrc
          go_wp2_with (first
            | (go_at_call 60; (with_reducible refine HPL.out.mono ?_); rintro e w5 ⟨rfl, hb5⟩; have HB5 := Lib.hid ((HBB.out.trans (hb5.mono HBB.out.size)).alloc (Nat.le_trans HBB.out.size hb5.size) (.cells #[.int .i64 0, .int .i64 0, .slice none 0 0, .slice none 0 0, .int .u64 0, .int .i64 0, .bool false, .int .i64 1] 92)); have hx5 := keep3 hb5 x0 x1 x2 (.cells #[.int .i64 0, .int .i64 0, .slice none 0 0, .slice none 0 0, .int .u64 0, .int .i64 0, .bool false, .int .i64 1] 92); obtain ⟨x0, x1, x2⟩ := hx5; have ba := box8 w5 92 1; obtain ⟨a0, a1, a2, a3, a4, a5, a6, a7⟩ := ba)
            | (go_at_call 15; refine (HSD.out _).mono ?_; rintro e w6 ⟨rfl, hb6⟩; have HB6 := Lib.hid (HB5.out.trans (hb6.mono HB5.out.size)); have x0 := cell_stays hb6 x0; have x1 := cell_stays hb6 x1; have x2 := cell_stays hb6 x2; have a0 := cell_stays hb6 a0; have a1 := cell_stays hb6 a1; have a2 := cell_stays hb6 a2; have a3 := cell_stays hb6 a3; have a4 := cell_stays hb6 a4; have a5 := cell_stays hb6 a5; have a6 := cell_stays hb6 a6; have a7 := cell_stays hb6 a7)
            | (go_at_call 61; refine (HSM.out _).mono ?_; rintro e w7 ⟨rfl, hb7⟩; have HB7 := Lib.hid (HB6.out.trans (hb7.mono HB6.out.size)); have x0 := cell_stays hb7 x0; have x1 := cell_stays hb7 x1; have x2 := cell_stays hb7 x2))
          go_roundw
          case rel => exact ⟨5, by omega, by omega, by go_num, HB7.out, x0, x1, x2⟩
          case measure => simp [intOf]
        · have hcb : (r != c) = true := by rw [bne_iff_ne]; exact hrc
          have hE : lf 4 = 1 := by rw [HLE.out]; simp [hrc]
          have hE1 := (HLW.out 4 (by omega) (by omega)).1
          have hpl := plays_err 4 (by omega) (by omega) r c p hp _ n x (.slice none 0 0) 0 x wr (HR.out.below hb) (rdl_nil _ _) (by rw [hE1, hE]; decide)
          rw [hE1, hE, show ((4 : Nat) : Int) = 4 from rfl] at hpl
          unfold ans0 at hpl
          have hsm := fun W => same_ans0 1 W
          unfold ans0 at hsm
          have HPL := Lib.hid hpl
          have HSM := Lib.hid hsm
          have HBB := Lib.hid hb
          clear hE hE1 hpl hsm hb hrc
          go_wp2_with (first
            | (go_at_call 60; (with_reducible refine HPL.out.mono ?_); rintro e w5 ⟨rfl, hb5⟩; have HB5 := Lib.hid ((HBB.out.trans (hb5.mono HBB.out.size)).alloc (Nat.le_trans HBB.out.size hb5.size) (.cells #[.int .i64 0, .int .i64 0, .slice none 0 0, .slice none 0 0, .int .u64 0, .int .i64 0, .bool false, .int .i64 1] 92)); have hx5 := keep3 hb5 x0 x1 x2 (.cells #[.int .i64 0, .int .i64 0, .slice none 0 0, .slice none 0 0, .int .u64 0, .int .i64 0, .bool false, .int .i64 1] 92); obtain ⟨x0, x1, x2⟩ := hx5; have ba := box8 w5 92 1; obtain ⟨a0, a1, a2, a3, a4, a5, a6, a7⟩ := ba)
            | (go_at_call 15; refine (HSD.out _).mono ?_; rintro e w6 ⟨rfl, hb6⟩; have HB6 := Lib.hid (HB5.out.trans (hb6.mono HB5.out.size)); have x0 := cell_stays hb6 x0; have x1 := cell_stays hb6 x1; have x2 := cell_stays hb6 x2; have a0 := cell_stays hb6 a0; have a1 := cell_stays hb6 a1; have a2 := cell_stays hb6 a2; have a3 := cell_stays hb6 a3; have a4 := cell_stays hb6 a4; have a5 := cell_stays hb6 a5; have a6 := cell_stays hb6 a6; have a7 := cell_stays hb6 a7)
            | (go_at_call 61; refine (HSM.out _).mono ?_; rintro e w7 ⟨rfl, hb7⟩; have HB7 := Lib.hid (HB6.out.trans (hb7.mono HB6.out.size)); have x0 := cell_stays hb7 x0; have x1 := cell_stays hb7 x1; have x2 := cell_stays hb7 x2))
          go_roundw
          case rel => exact ⟨5, by omega, by omega, by go_num, HB7.out, x0, x1, x2⟩
          case measure => simp [intOf]
      · have hE : lf 5 = 1 := by rw [HLE.out]; simp
        have hE1 := (HLW.out 5 (by omega) (by omega)).1
        have hpl := plays_err 5 (by omega) (by omega) r c p hp _ n x (.slice none 0 0) 0 x wr (HR.out.below hb) (rdl_nil _ _) (by rw [hE1, hE]; decide)
        rw [hE1, hE, show ((5 : Nat) : Int) = 5 from rfl] at hpl
        unfold ans0 at hpl
        have hsm := fun W => same_ans0 1 W
        unfold ans0 at hsm
        have HPL := Lib.hid hpl
        have HSM := Lib.hid hsm
        have HBB := Lib.hid hb
        clear hE hE1 hpl hsm hb
        go_wp2_with (first
          | (go_at_call 60; (with_reducible refine HPL.out.mono ?_); rintro e w5 ⟨rfl, hb5⟩; have HB5 := Lib.hid ((HBB.out.trans (hb5.mono HBB.out.size)).alloc (Nat.le_trans HBB.out.size hb5.size) (.cells #[.int .i64 0, .int .i64 0, .slice none 0 0, .slice none 0 0, .int .u64 0, .int .i64 0, .bool false, .int .i64 1] 92)); have hx5 := keep3 hb5 x0 x1 x2 (.cells #[.int .i64 0, .int .i64 0, .slice none 0 0, .slice none 0 0, .int .u64 0, .int .i64 0, .bool false, .int .i64 1] 92); obtain ⟨x0, x1, x2⟩ := hx5; have ba := box8 w5 92 1; obtain ⟨a0, a1, a2, a3, a4, a5, a6, a7⟩ := ba)
          | (go_at_call 15; refine (HSD.out _).mono ?_; rintro e w6 ⟨rfl, hb6⟩; have HB6 := Lib.hid (HB5.out.trans (hb6.mono HB5.out.size)); have x0 := cell_stays hb6 x0; have x1 := cell_stays hb6 x1; have x2 := cell_stays hb6 x2; have a0 := cell_stays hb6 a0; have a1 := cell_stays hb6 a1; have a2 := cell_stays hb6 a2; have a3 := cell_stays hb6 a3; have a4 := cell_stays hb6 a4; have a5 := cell_stays hb6 a5; have a6 := cell_stays hb6 a6; have a7 := cell_stays hb6 a7)
          | (go_at_call 61; refine (HSM.out _).mono ?_; rintro e w7 ⟨rfl, hb7⟩; have HB7 := Lib.hid (HB6.out.trans (hb7.mono HB6.out.size)); have x0 := cell_stays hb7 x0; have x1 := cell_stays hb7 x1; have x2 := cell_stays hb7 x2))
        go_roundw
        case rel => exact ⟨6, by omega, by omega, by go_num, HB7.out, x0, x1, x2⟩
        case measure => simp [intOf]
      · have hE : lf 6 = 1 := by rw [HLE.out]; simp
        have hE1 := (HLW.out 6 (by omega) (by omega)).1
        have hpl := plays_err 6 (by omega) (by omega) r c p hp _ n x (.slice none 0 0) 0 x wr (HR.out.below hb) (rdl_nil _ _) (by rw [hE1, hE]; decide)
        rw [hE1, hE, show ((6 : Nat) : Int) = 6 from rfl] at hpl
        unfold ans0 at hpl
        have hsm := fun W => same_ans0 1 W
        unfold ans0 at hsm
        have HPL := Lib.hid hpl
        have HSM := Lib.hid hsm
        have HBB := Lib.hid hb
        clear hE hE1 hpl hsm hb
        go_wp2_with (first
          | (go_at_call 60; (with_reducible refine HPL.out.mono ?_); rintro e w5 ⟨rfl, hb5⟩; have HB5 := Lib.hid ((HBB.out.trans (hb5.mono HBB.out.size)).alloc (Nat.le_trans HBB.out.size hb5.size) (.cells #[.int .i64 0, .int .i64 0, .slice none 0 0, .slice none 0 0, .int .u64 0, .int .i64 0, .bool false, .int .i64 1] 92)); have hx5 := keep3 hb5 x0 x1 x2 (.cells #[.int .i64 0, .int .i64 0, .slice none 0 0, .slice none 0 0, .int .u64 0, .int .i64 0, .bool false, .int .i64 1] 92); obtain ⟨x0, x1, x2⟩ := hx5; have ba := box8 w5 92 1; obtain ⟨a0, a1, a2, a3, a4, a5, a6, a7⟩ := ba)
          | (go_at_call 15; refine (HSD.out _).mono ?_; rintro e w6 ⟨rfl, hb6⟩; have HB6 := Lib.hid (HB5.out.trans (hb6.mono HB5.out.size)); have x0 := cell_stays hb6 x0; have x1 := cell_stays hb6 x1; have x2 := cell_stays hb6 x2; have a0 := cell_stays hb6 a0; have a1 := cell_stays hb6 a1; have a2 := cell_stays hb6 a2; have a3 := cell_stays hb6 a3; have a4 := cell_stays hb6 a4; have a5 := cell_stays hb6 a5; have a6 := cell_stays hb6 a6; have a7 := cell_stays hb6 a7)
          | (go_at_call 61; refine (HSM.out _).mono ?_; rintro e w7 ⟨rfl, hb7⟩; have HB7 := Lib.hid (HB6.out.trans (hb7.mono HB6.out.size)); have x0 := cell_stays hb7 x0; have x1 := cell_stays hb7 x1; have x2 := cell_stays hb7 x2))
        go_roundw
        case rel => exact ⟨7, by omega, by omega, by go_num, HB7.out, x0, x1, x2⟩
        case measure => simp [intOf]
      · by_cases hrc : r = c
        · have hcb : (r != c) = false := by rw [bne_eq_false_iff_eq]; exact hrc
          have hE : lf 7 = 1 := by rw [HLE.out]; simp [hrc]
          have hE1 := (HLW.out 7 (by omega) (by omega)).1
          have hpl := plays_err 7 (by omega) (by omega) r c p hp _ n x (.slice none 0 0) 0 x wr (HR.out.below hb) (rdl_nil _ _) (by rw [hE1, hE]; decide)
          rw [hE1, hE, show ((7 : Nat) : Int) = 7 from rfl] at hpl
          unfold ans0 at hpl
          have hsm := fun W => same_ans0 1 W
          unfold ans0 at hsm
          have HPL := Lib.hid hpl
          have HSM := Lib.hid hsm
          have HBB := Lib.hid hb
          clear hE hE1 hpl hsm hb hrc
          go_wp2_with (first
            | (go_at_call 60; (with_reducible refine HPL.out.mono ?_); rintro e w5 ⟨rfl, hb5⟩; have HB5 := Lib.hid ((HBB.out.trans (hb5.mono HBB.out.size)).alloc (Nat.le_trans HBB.out.size hb5.size) (.cells #[.int .i64 0, .int .i64 0, .slice none 0 0, .slice none 0 0, .int .u64 0, .int .i64 0, .bool false, .int .i64 1] 92)); have hx5 := keep3 hb5 x0 x1 x2 (.cells #[.int .i64 0, .int .i64 0, .slice none 0 0, .slice none 0 0, .int .u64 0, .int .i64 0, .bool false, .int .i64 1] 92); obtain ⟨x0, x1, x2⟩ := hx5; have ba := box8 w5 92 1; obtain ⟨a0, a1, a2, a3, a4, a5, a6, a7⟩ := ba)
            | (go_at_call 15; refine (HSD.out _).mono ?_; rintro e w6 ⟨rfl, hb6⟩; have HB6 := Lib.hid (HB5.out.trans (hb6.mono HB5.out.size)); have x0 := cell_stays hb6 x0; have x1 := cell_stays hb6 x1; have x2 := cell_stays hb6 x2; have a0 := cell_stays hb6 a0; have a1 := cell_stays hb6 a1; have a2 := cell_stays hb6 a2; have a3 := cell_stays hb6 a3; have a4 := cell_stays hb6 a4; have a5 := cell_stays hb6 a5; have a6 := cell_stays hb6 a6; have a7 := cell_stays hb6 a7)
            | (go_at_call 61; refine (HSM.out _).mono ?_; rintro e w7 ⟨rfl, hb7⟩; have HB7 := Lib.hid (HB6.out.trans (hb7.mono HB6.out.size)); have x0 := cell_stays hb7 x0; have x1 := cell_stays hb7 x1; have x2 := cell_stays hb7 x2))
          go_roundw
          case rel => exact ⟨8, by omega, by omega, by go_num, HB7.out, x0, x1, x2⟩
          case measure => simp [intOf]
        · have hcb : (r != c) = true := by rw [bne_iff_ne]; exact hrc
          have hE : lf 7 = 1 := by rw [HLE.out]; simp [hrc]
          have hE1 := (HLW.out 7 (by omega) (by omega)).1
          have hpl := plays_err 7 (by omega) (by omega) r c p hp _ n x (.slice none 0 0) 0 x wr (HR.out.below hb) (rdl_nil _ _) (by rw [hE1, hE]; decide)
          rw [hE1, hE, show ((7 : Nat) : Int) = 7 from rfl] at hpl
          unfold ans0 at hpl
          have hsm := fun W => same_ans0 1 W
          unfold ans0 at hsm
          have HPL := Lib.hid hpl
          have HSM := Lib.hid hsm
          have HBB := Lib.hid hb
          clear hE hE1 hpl hsm hb hrc
          go_wp2_with (first
            | (go_at_call 60; (with_reducible refine HPL.out.mono ?_); rintro e w5 ⟨rfl, hb5⟩; have HB5 := Lib.hid ((HBB.out.trans (hb5.mono HBB.out.size)).alloc (Nat.le_trans HBB.out.size hb5.size) (.cells #[.int .i64 0, .int .i64 0, .slice none 0 0, .slice none 0 0, .int .u64 0, .int .i64 0, .bool false, .int .i64 1] 92)); have hx5 := keep3 hb5 x0 x1 x2 (.cells #[.int .i64 0, .int .i64 0, .slice none 0 0, .slice none 0 0, .int .u64 0, .int .i64 0, .bool false, .int .i64 1] 92); obtain ⟨x0, x1, x2⟩ := hx5; have ba := box8 w5 92 1; obtain ⟨a0, a1, a2, a3, a4, a5, a6, a7⟩ := ba)
            | (go_at_call 15; refine (HSD.out _).mono ?_; rintro e w6 ⟨rfl, hb6⟩; have HB6 := Lib.hid (HB5.out.trans (hb6.mono HB5.out.size)); have x0 := cell_stays hb6 x0; have x1 := cell_stays hb6 x1; have x2 := cell_stays hb6 x2; have a0 := cell_stays hb6 a0; have a1 := cell_stays hb6 a1; have a2 := cell_stays hb6 a2; have a3 := cell_stays hb6 a3; have a4 := cell_stays hb6 a4; have a5 := cell_stays hb6 a5; have a6 := cell_stays hb6 a6; have a7 := cell_stays hb6 a7)
            | (go_at_call 61; refine (HSM.out _).mono ?_; rintro e w7 ⟨rfl, hb7⟩; have HB7 := Lib.hid (HB6.out.trans (hb7.mono HB6.out.size)); have x0 := cell_stays hb7 x0; have x1 := cell_stays hb7 x1; have x2 := cell_stays hb7 x2))
          go_roundw
          case rel => exact ⟨8, by omega, by omega, by go_num, HB7.out, x0, x1, x2⟩
          case measure => simp [intOf]
      · have hE : lf 8 = 1 := by rw [HLE.out]; simp
        have hE1 := (HLW.out 8 (by omega) (by omega)).1
        have hpl := plays_err 8 (by omega) (by omega) r c p hp _ n x (.slice none 0 0) 0 x wr (HR.out.below hb) (rdl_nil _ _) (by rw [hE1, hE]; decide)
        rw [hE1, hE, show ((8 : Nat) : Int) = 8 from rfl] at hpl
        unfold ans0 at hpl
        have hsm := fun W => same_ans0 1 W
        unfold ans0 at hsm
        have HPL := Lib.hid hpl
        have HSM := Lib.hid hsm
        have HBB := Lib.hid hb
        clear hE hE1 hpl hsm hb
        go_wp2_with (first
          | (go_at_call 60; (with_reducible refine HPL.out.mono ?_); rintro e w5 ⟨rfl, hb5⟩; have HB5 := Lib.hid ((HBB.out.trans (hb5.mono HBB.out.size)).alloc (Nat.le_trans HBB.out.size hb5.size) (.cells #[.int .i64 0, .int .i64 0, .slice none 0 0, .slice none 0 0, .int .u64 0, .int .i64 0, .bool false, .int .i64 1] 92)); have hx5 := keep3 hb5 x0 x1 x2 (.cells #[.int .i64 0, .int .i64 0, .slice none 0 0, .slice none 0 0, .int .u64 0, .int .i64 0, .bool false, .int .i64 1] 92); obtain ⟨x0, x1, x2⟩ := hx5; have ba := box8 w5 92 1; obtain ⟨a0, a1, a2, a3, a4, a5, a6, a7⟩ := ba)
          | (go_at_call 15; refine (HSD.out _).mono ?_; rintro e w6 ⟨rfl, hb6⟩; have HB6 := Lib.hid (HB5.out.trans (hb6.mono HB5.out.size)); have x0 := cell_stays hb6 x0; have x1 := cell_stays hb6 x1; have x2 := cell_stays hb6 x2; have a0 := cell_stays hb6 a0; have a1 := cell_stays hb6 a1; have a2 := cell_stays hb6 a2; have a3 := cell_stays hb6 a3; have a4 := cell_stays hb6 a4; have a5 := cell_stays hb6 a5; have a6 := cell_stays hb6 a6; have a7 := cell_stays hb6 a7)
          | (go_at_call 61; refine (HSM.out _).mono ?_; rintro e w7 ⟨rfl, hb7⟩; have HB7 := Lib.hid (HB6.out.trans (hb7.mono HB6.out.size)); have x0 := cell_stays hb7 x0; have x1 := cell_stays hb7 x1; have x2 := cell_stays hb7 x2))
        go_roundw
        case rel => exact ⟨9, by omega, by omega, by go_num, HB7.out, x0, x1, x2⟩
        case measure => simp [intOf]
      · by_cases hc0 : c = 0
        · have hcb : (c != 0) = false := by rw [bne_eq_false_iff_eq]; exact hc0
          have hE : lf 9 = 1 := by rw [HLE.out]; simp [hc0]
          have hE1 := (HLW.out 9 (by omega) (by omega)).1
          have hpl := plays_err 9 (by omega) (by omega) r c p hp _ n x (.slice none 0 0) 0 x wr (HR.out.below hb) (rdl_nil _ _) (by rw [hE1, hE]; decide)
          rw [hE1, hE, show ((9 : Nat) : Int) = 9 from rfl] at hpl
          unfold ans0 at hpl
          have hsm := fun W => same_ans0 1 W
          unfold ans0 at hsm
          have HPL := Lib.hid hpl
          have HSM := Lib.hid hsm
          have HBB := Lib.hid hb
          clear hE hE1 hpl hsm hb hc0
          go_wp2_with (first
            | (go_at_call 60; (with_reducible refine HPL.out.mono ?_); rintro e w5 ⟨rfl, hb5⟩; have HB5 := Lib.hid ((HBB.out.trans (hb5.mono HBB.out.size)).alloc (Nat.le_trans HBB.out.size hb5.size) (.cells #[.int .i64 0, .int .i64 0, .slice none 0 0, .slice none 0 0, .int .u64 0, .int .i64 0, .bool false, .int .i64 1] 92)); have hx5 := keep3 hb5 x0 x1 x2 (.cells #[.int .i64 0, .int .i64 0, .slice none 0 0, .slice none 0 0, .int .u64 0, .int .i64 0, .bool false, .int .i64 1] 92); obtain ⟨x0, x1, x2⟩ := hx5; have ba := box8 w5 92 1; obtain ⟨a0, a1, a2, a3, a4, a5, a6, a7⟩ := ba)
            | (go_at_call 15; refine (HSD.out _).mono ?_; rintro e w6 ⟨rfl, hb6⟩; have HB6 := Lib.hid (HB5.out.trans (hb6.mono HB5.out.size)); have x0 := cell_stays hb6 x0; have x1 := cell_stays hb6 x1; have x2 := cell_stays hb6 x2; have a0 := cell_stays hb6 a0; have a1 := cell_stays hb6 a1; have a2 := cell_stays hb6 a2; have a3 := cell_stays hb6 a3; have a4 := cell_stays hb6 a4; have a5 := cell_stays hb6 a5; have a6 := cell_stays hb6 a6; have a7 := cell_stays hb6 a7)
            | (go_at_call 61; refine (HSM.out _).mono ?_; rintro e w7 ⟨rfl, hb7⟩; have HB7 := Lib.hid (HB6.out.trans (hb7.mono HB6.out.size)); have x0 := cell_stays hb7 x0; have x1 := cell_stays hb7 x1; have x2 := cell_stays hb7 x2))
          go_roundw
          case rel => exact ⟨10, by omega, by omega, by go_num, HB7.out, x0, x1, x2⟩
          case measure => simp [intOf]
        · have hcb : (c != 0) = true := by rw [bne_iff_ne]; exact hc0
          have hE : lf 9 = 1 := by rw [HLE.out]; simp [hc0]
          have hE1 := (HLW.out 9 (by omega) (by omega)).1
          have hpl := plays_err 9 (by omega) (by omega) r c p hp _ n x (.slice none 0 0) 0 x wr (HR.out.below hb) (rdl_nil _ _) (by rw [hE1, hE]; decide)
          rw [hE1, hE, show ((9 : Nat) : Int) = 9 from rfl] at hpl
          unfold ans0 at hpl
          have hsm := fun W => same_ans0 1 W
          unfold ans0 at hsm
          have HPL := Lib.hid hpl
          have HSM := Lib.hid hsm
          have HBB := Lib.hid hb
          clear hE hE1 hpl hsm hb hc0
          go_wp2_with (first
            | (go_at_call 60; (with_reducible refine HPL.out.mono ?_); rintro e w5 ⟨rfl, hb5⟩; have HB5 := Lib.hid ((HBB.out.trans (hb5.mono HBB.out.size)).alloc (Nat.le_trans HBB.out.size hb5.size) (.cells #[.int .i64 0, .int .i64 0, .slice none 0 0, .slice none 0 0, .int .u64 0, .int .i64 0, .bool false, .int .i64 1] 92)); have hx5 := keep3 hb5 x0 x1 x2 (.cells #[.int .i64 0, .int .i64 0, .slice none 0 0, .slice none 0 0, .int .u64 0, .int .i64 0, .bool false, .int .i64 1] 92); obtain ⟨x0, x1, x2⟩ := hx5; have ba := box8 w5 92 1; obtain ⟨a0, a1, a2, a3, a4, a5, a6, a7⟩ := ba)
            | (go_at_call 15; refine (HSD.out _).mono ?_; rintro e w6 ⟨rfl, hb6⟩; have HB6 := Lib.hid (HB5.out.trans (hb6.mono HB5.out.size)); have x0 := cell_stays hb6 x0; have x1 := cell_stays hb6 x1; have x2 := cell_stays hb6 x2; have a0 := cell_stays hb6 a0; have a1 := cell_stays hb6 a1; have a2 := cell_stays hb6 a2; have a3 := cell_stays hb6 a3; have a4 := cell_stays hb6 a4; have a5 := cell_stays hb6 a5; have a6 := cell_stays hb6 a6; have a7 := cell_stays hb6 a7)
            | (go_at_call 61; refine (HSM.out _).mono ?_; rintro e w7 ⟨rfl, hb7⟩; have HB7 := Lib.hid (HB6.out.trans (hb7.mono HB6.out.size)); have x0 := cell_stays hb7 x0; have x1 := cell_stays hb7 x1; have x2 := cell_stays hb7 x2))
          go_roundw
          case rel => exact ⟨10, by omega, by omega, by go_num, HB7.out, x0, x1, x2⟩
          case measure => simp [intOf]
      · go_wp2_with fail
        go_ret
        exact ⟨rfl, hb⟩

end Go.Proofs.Ytdlpemmoobbgnaa
