/- The walk of the law's plays where each call with a prime is refused; modp.Solve refused. -/
import Derived.Test.YtdlpemmoobbgnaaS3
import Derived.Test.YtdlpemmoobbgnaaKerW
set_option linter.unusedVariables false
set_option linter.unusedSimpArgs false
namespace Go.Proofs.Ytdlpemmoobbgnaa
open Go.RowKit

theorem Solve_err (r c : Int) (p : Int) (hp : 0 ≤ p) (s : Value) (n : Nat) (x : Nat → Raw) (sb : Value) (nb : Nat) (b : Nat → Raw) (w : World) (hr : RdL w s n x) (hrb : RdL w sb nb b) (he : openE r c n p ((nb : Int) == c) ≠ 0) :
    Calls Try.prog 29 #[.agg #[.int .i64 r, .int .i64 c, s], sb, .int .u64 p] w fun e w' =>
      e = .returned (.tuple #[.slice none 0 0, .int .i64 (openE r c n p ((nb : Int) == c))]) ∧ Below w.heap.size w w' := by
  obtain ⟨a, cap, rfl, hn⟩ := hr.slice
  obtain ⟨ab, capb, rfl, hnb⟩ := hrb.slice
  have hne : (openE r c n p ((nb : Int) == c) != 0) = true := by rw [bne_iff_ne]; exact he
  obtain ⟨E, hE⟩ : ∃ E, E = openE r c n p ((nb : Int) == c) := ⟨_, rfl⟩
  rw [← hE] at hne ⊢
  have HE := Lib.hid hE.symm
  clear he hE hr hrb
  go_enter Try.func29, Try.ntmps29
  go_wp2_with (go_at_call 43; refine (open_any r c a n cap hn p hp ((nb : Int) == c) _).mono ?_; rw [HE.out]; rintro e w1 ⟨rfl, hb1⟩)
  go_ret2
  exact ⟨rfl, ((Below.refl _ _).alloc (Nat.le_refl _) _).trans (hb1.mono (by simp))⟩

/-- the error of the call of this kind, B of nb places -/
def fitB (k : Int) (r c : Int) (nb : Nat) : Bool := if k = 4 ∨ k = 7 then r == c else if k = 9 then (nb : Int) == c else true

/-- an answer of nothing but an error -/
def ans0 (E : Int) : Value := .agg #[.int .i64 0, .int .i64 0, .slice none 0 0, .slice none 0 0, .int .u64 0, .int .i64 0, .bool false, .int .i64 E]

/-- two boxes of eight cells beside the parameter's -/
theorem opBox (w : World) (l : List Value) (t u : TypeId) :
    let Z : List Value := [.int .i64 0, .int .i64 0, .slice none 0 0, .slice none 0 0, .int .u64 0, .int .i64 0, .bool false, .int .i64 0]
    let W := ((w.alloc (.cells l.toArray t)).alloc (.cells Z.toArray u)).alloc (.cells Z.toArray u)
    (∀ i y, l[i]? = some y → W.cell? ⟨w.heap.size, i, none⟩ = some y) ∧ (∀ i y, Z[i]? = some y → W.cell? ⟨w.heap.size + 1, i, none⟩ = some y ∧ W.frozen? ⟨w.heap.size + 1, i, none⟩ = false) ∧
      (∀ i y, Z[i]? = some y → W.cell? ⟨w.heap.size + 1 + 1, i, none⟩ = some y ∧ W.frozen? ⟨w.heap.size + 1 + 1, i, none⟩ = false) ∧ Below w.heap.size w W ∧ W.heap.size = w.heap.size + 3 := by
  intro Z W
  obtain ⟨w1, h1⟩ : ∃ w1, w1 = w.alloc (.cells l.toArray t) := ⟨_, rfl⟩
  obtain ⟨w2, h2⟩ : ∃ w2, w2 = w1.alloc (.cells Z.toArray u) := ⟨_, rfl⟩
  have hW : W = w2.alloc (.cells Z.toArray u) := by rw [h2, h1]
  have s1 : w1.heap.size = w.heap.size + 1 := by rw [h1]; simp
  have s2 : w2.heap.size = w.heap.size + 1 + 1 := by rw [h2]; simp [s1]
  have b1 : Below w.heap.size w w1 := by rw [h1]; exact (Below.refl _ _).alloc (Nat.le_refl _) _
  have b2 : Below w1.heap.size w1 w2 := by rw [h2]; exact (Below.refl _ _).alloc (Nat.le_refl _) _
  have b3 : Below w2.heap.size w2 W := by rw [hW]; exact (Below.refl _ _).alloc (Nat.le_refl _) _
  have k1 := cellsOf w l t
  have k2 := cellsOf w1 Z u
  have k3 := cellsOf w2 Z u
  rw [← h1] at k1
  rw [← h2, s1] at k2
  rw [← hW, s2] at k3
  have sW : W.heap.size = w.heap.size + 3 := by rw [hW]; simp [s2]
  clear_value W Z
  exact ⟨fun i y h => cell_stays b3 (cell_stays b2 (k1 i y h).1), fun i y h => ⟨cell_stays b3 (k2 i y h).1, froz_stays b3 (k2 i y h).1 (k2 i y h).2⟩, fun i y h => k3 i y h,
    b1.trans ((b2.mono (by omega)).trans (b3.mono (by omega))), sW⟩


-- BY gen_s4.py FROM HERE ON

theorem Reduce_err (r c : Int) (p : Int) (hp : 0 ≤ p) (s : Value) (n : Nat) (x : Nat → Raw) (w : World) (hr : RdL w s n x) (he : openE r c n p true ≠ 0) :
    Calls Try.prog 35 #[.agg #[.int .i64 r, .int .i64 c, s], .int .u64 p] w fun e w' => e = .returned (.tuple #[mat0, .int .i64 (openE r c n p true)]) ∧ Below w.heap.size w w' := by
  refine (Reduce_any r c p hp s n x w hr).mono ?_
  rintro e w' ⟨v, rfl, h, hb⟩
  rw [h.2 he]; exact ⟨rfl, hb⟩

theorem Echelon_err (r c : Int) (p : Int) (hp : 0 ≤ p) (s : Value) (n : Nat) (x : Nat → Raw) (w : World) (hr : RdL w s n x) (he : openE r c n p true ≠ 0) :
    Calls Try.prog 25 #[.agg #[.int .i64 r, .int .i64 c, s], .int .u64 p] w fun e w' => e = .returned (.tuple #[mat0, .int .i64 (openE r c n p true)]) ∧ Below w.heap.size w w' := by
  refine (Echelon_any r c p hp s n x w hr).mono ?_
  rintro e w' ⟨v, rfl, h, hb⟩
  rw [h.2 he]; exact ⟨rfl, hb⟩

theorem Kernel_err (r c : Int) (p : Int) (hp : 0 ≤ p) (s : Value) (n : Nat) (x : Nat → Raw) (w : World) (hr : RdL w s n x) (he : openE r c n p true ≠ 0) :
    Calls Try.prog 26 #[.agg #[.int .i64 r, .int .i64 c, s], .int .u64 p] w fun e w' => e = .returned (.tuple #[mat0, .int .i64 (openE r c n p true)]) ∧ Below w.heap.size w w' := by
  refine (Kernel_any r c p hp s n x w hr).mono ?_
  rintro e w' ⟨v, rfl, h, hb⟩
  rw [h.2 he]; exact ⟨rfl, hb⟩

theorem Inverse_err (r c : Int) (p : Int) (hp : 0 ≤ p) (s : Value) (n : Nat) (x : Nat → Raw) (w : World) (hr : RdL w s n x) (he : openE r c n p (r == c) ≠ 0) :
    Calls Try.prog 20 #[.agg #[.int .i64 r, .int .i64 c, s], .int .u64 p] w fun e w' => e = .returned (.tuple #[mat0, .int .i64 (openE r c n p (r == c))]) ∧ Below w.heap.size w w' := by
  have hi : invE r c n x p = openE r c n p (r == c) := if_neg he
  refine (Inverse_any r c p hp s n x w hr).mono ?_
  rw [hi]
  rintro e w' ⟨v, rfl, h, hb⟩
  rw [h.2 he]; exact ⟨rfl, hb⟩
theorem Det_err (r c : Int) (p : Int) (hp : 0 ≤ p) (s : Value) (n : Nat) (x : Nat → Raw) (w : World) (hr : RdL w s n x) (he : openE r c n p (r == c) ≠ 0) :
    Calls Try.prog 18 #[.agg #[.int .i64 r, .int .i64 c, s], .int .u64 p] w fun e w' => e = .returned (.tuple #[.int .u64 0, .int .i64 (openE r c n p (r == c))]) ∧ Below w.heap.size w w' := by
  have hv : detV r c n x p = 0 := if_neg he
  have := Det_any r c p hp s n x w hr
  rw [hv] at this
  exact this
theorem Rank_err (r c : Int) (p : Int) (hp : 0 ≤ p) (s : Value) (n : Nat) (x : Nat → Raw) (w : World) (hr : RdL w s n x) (he : openE r c n p true ≠ 0) :
    Calls Try.prog 31 #[.agg #[.int .i64 r, .int .i64 c, s], .int .u64 p] w fun e w' => e = .returned (.tuple #[.int .i64 0, .int .i64 (openE r c n p true)]) ∧ Below w.heap.size w w' := by
  have hv : rankV r c n x p = 0 := if_neg he
  have := Rank_any r c p hp s n x w hr
  rw [hv] at this
  exact this

set_option maxHeartbeats 2000000 in
set_option maxRecDepth 100000 in
theorem plays_err3 (r c : Int) (p : Int) (hp : 0 ≤ p) (s : Value) (n : Nat) (x : Nat → Raw) (sb : Value) (nb : Nat) (b : Nat → Raw) (w : World) (hr : RdL w s n x) (hrb : RdL w sb nb b) (he : openE r c n p true ≠ 0) :
    Calls Try.prog 60 #[.agg #[.int .i64 3, .int .i64 r, .int .i64 c, s, sb, .int .u64 p]] w fun e w' => e = .returned (ans0 (openE r c n p true)) ∧ Below w.heap.size w w' := by
  obtain ⟨a, cap, rfl, -⟩ := hr.slice
  obtain ⟨ab, capb, rfl, -⟩ := hrb.slice
  obtain ⟨hx, hy, hz, hb, hs3⟩ := opBox w [.int .i64 3, .int .i64 r, .int .i64 c, .slice a n cap, .slice ab nb capb, .int .u64 p] 62 92
  have hcall := Reduce_err r c p hp _ n x _ (hr.below hb) he
  obtain ⟨E, hE⟩ : ∃ E, E = openE r c n p true := ⟨_, rfl⟩
  rw [← hE] at hcall ⊢
  have HC := Lib.hid hcall
  have HY := Lib.hid hy
  have HZ := Lib.hid hz
  have HB := Lib.hid hb
  have HS3 := Lib.hid hs3
  have x0 := hx 0 _ rfl
  have x1 := hx 1 _ rfl
  have x2 := hx 2 _ rfl
  have x3 := hx 3 _ rfl
  have x4 := hx 4 _ rfl
  have x5 := hx 5 _ rfl
  clear hr hrb he hx hy hz hb hs3 hcall hE
  go_enter Try.func60, Try.ntmps60
  go_wp2_with fail
  refine HC.out.mono ?_
  rintro e w4 ⟨rfl, hb4⟩
  have Y := fun i y h => cell_stays hb4 (HZ.out i y h).1
  have Yf := fun i y h => froz_stays hb4 (HZ.out i y h).1 (HZ.out i y h).2
  have Z := fun i y h => cell_stays hb4 (HY.out i y h).1
  have Zf := fun i y h => froz_stays hb4 (HY.out i y h).1 (HY.out i y h).2
  have y0 := Y 0 _ rfl
  have y1 := Y 1 _ rfl
  have y2 := Y 2 _ rfl
  have y3 := Y 3 _ rfl
  have y4 := Y 4 _ rfl
  have y5 := Y 5 _ rfl
  have y6 := Y 6 _ rfl
  have y7 := Y 7 _ rfl
  have f0 := Yf 0 _ rfl
  have f1 := Yf 1 _ rfl
  have f2 := Yf 2 _ rfl
  have f3 := Yf 3 _ rfl
  have f4 := Yf 4 _ rfl
  have f5 := Yf 5 _ rfl
  have f7 := Yf 7 _ rfl
  have z0 := Z 0 _ rfl
  have z1 := Z 1 _ rfl
  have z2 := Z 2 _ rfl
  have z3 := Z 3 _ rfl
  have z4 := Z 4 _ rfl
  have z5 := Z 5 _ rfl
  have z6 := Z 6 _ rfl
  have z7 := Z 7 _ rfl
  have k0 := Zf 0 _ rfl
  have k1 := Zf 1 _ rfl
  have k2 := Zf 2 _ rfl
  have k3 := Zf 3 _ rfl
  have k4 := Zf 4 _ rfl
  have k5 := Zf 5 _ rfl
  have k6 := Zf 6 _ rfl
  have k7 := Zf 7 _ rfl
  have HB4 := Lib.hid (HB.out.trans (hb4.mono HB.out.size))
  clear Y Yf Z Zf hb4 HY HZ HB HC x0 x1 x2 x3 x4 x5
  unfold mat0
  go_wp2_with fail
  refine bodyPost_ret (v := ans0 E) ?_ rfl ⟨rfl, ?_⟩
  · simp [results, Try.results60, go_sem, z0, z1, z2, z3, z4, z5, z6, z7, ans0]
  · repeat (with_reducible refine Below.setCell ?_ (by first | (simp; done) | (simp; omega)) _)
    exact HB4.out

set_option maxHeartbeats 2000000 in
set_option maxRecDepth 100000 in
theorem plays_err4 (r c : Int) (p : Int) (hp : 0 ≤ p) (s : Value) (n : Nat) (x : Nat → Raw) (sb : Value) (nb : Nat) (b : Nat → Raw) (w : World) (hr : RdL w s n x) (hrb : RdL w sb nb b) (he : openE r c n p (r == c) ≠ 0) :
    Calls Try.prog 60 #[.agg #[.int .i64 4, .int .i64 r, .int .i64 c, s, sb, .int .u64 p]] w fun e w' => e = .returned (ans0 (openE r c n p (r == c))) ∧ Below w.heap.size w w' := by
  obtain ⟨a, cap, rfl, -⟩ := hr.slice
  obtain ⟨ab, capb, rfl, -⟩ := hrb.slice
  obtain ⟨hx, hy, hz, hb, hs3⟩ := opBox w [.int .i64 4, .int .i64 r, .int .i64 c, .slice a n cap, .slice ab nb capb, .int .u64 p] 62 92
  have hcall := Det_err r c p hp _ n x _ (hr.below hb) he
  obtain ⟨E, hE⟩ : ∃ E, E = openE r c n p (r == c) := ⟨_, rfl⟩
  rw [← hE] at hcall ⊢
  have HC := Lib.hid hcall
  have HY := Lib.hid hy
  have HZ := Lib.hid hz
  have HB := Lib.hid hb
  have HS3 := Lib.hid hs3
  have x0 := hx 0 _ rfl
  have x1 := hx 1 _ rfl
  have x2 := hx 2 _ rfl
  have x3 := hx 3 _ rfl
  have x4 := hx 4 _ rfl
  have x5 := hx 5 _ rfl
  clear hr hrb he hx hy hz hb hs3 hcall hE
  go_enter Try.func60, Try.ntmps60
  go_wp2_with fail
  refine HC.out.mono ?_
  rintro e w4 ⟨rfl, hb4⟩
  have Y := fun i y h => cell_stays hb4 (HZ.out i y h).1
  have Yf := fun i y h => froz_stays hb4 (HZ.out i y h).1 (HZ.out i y h).2
  have Z := fun i y h => cell_stays hb4 (HY.out i y h).1
  have Zf := fun i y h => froz_stays hb4 (HY.out i y h).1 (HY.out i y h).2
  have y0 := Y 0 _ rfl
  have y1 := Y 1 _ rfl
  have y2 := Y 2 _ rfl
  have y3 := Y 3 _ rfl
  have y4 := Y 4 _ rfl
  have y5 := Y 5 _ rfl
  have y6 := Y 6 _ rfl
  have y7 := Y 7 _ rfl
  have f0 := Yf 0 _ rfl
  have f1 := Yf 1 _ rfl
  have f2 := Yf 2 _ rfl
  have f3 := Yf 3 _ rfl
  have f4 := Yf 4 _ rfl
  have f5 := Yf 5 _ rfl
  have f7 := Yf 7 _ rfl
  have z0 := Z 0 _ rfl
  have z1 := Z 1 _ rfl
  have z2 := Z 2 _ rfl
  have z3 := Z 3 _ rfl
  have z4 := Z 4 _ rfl
  have z5 := Z 5 _ rfl
  have z6 := Z 6 _ rfl
  have z7 := Z 7 _ rfl
  have k0 := Zf 0 _ rfl
  have k1 := Zf 1 _ rfl
  have k2 := Zf 2 _ rfl
  have k3 := Zf 3 _ rfl
  have k4 := Zf 4 _ rfl
  have k5 := Zf 5 _ rfl
  have k6 := Zf 6 _ rfl
  have k7 := Zf 7 _ rfl
  have HB4 := Lib.hid (HB.out.trans (hb4.mono HB.out.size))
  clear Y Yf Z Zf hb4 HY HZ HB HC x0 x1 x2 x3 x4 x5
  go_wp2_with fail
  refine bodyPost_ret (v := ans0 E) ?_ rfl ⟨rfl, ?_⟩
  · simp [results, Try.results60, go_sem, z0, z1, z2, z3, z4, z5, z6, z7, ans0]
  · repeat (with_reducible refine Below.setCell ?_ (by first | (simp; done) | (simp; omega)) _)
    exact HB4.out

set_option maxHeartbeats 2000000 in
set_option maxRecDepth 100000 in
theorem plays_err5 (r c : Int) (p : Int) (hp : 0 ≤ p) (s : Value) (n : Nat) (x : Nat → Raw) (sb : Value) (nb : Nat) (b : Nat → Raw) (w : World) (hr : RdL w s n x) (hrb : RdL w sb nb b) (he : openE r c n p true ≠ 0) :
    Calls Try.prog 60 #[.agg #[.int .i64 5, .int .i64 r, .int .i64 c, s, sb, .int .u64 p]] w fun e w' => e = .returned (ans0 (openE r c n p true)) ∧ Below w.heap.size w w' := by
  obtain ⟨a, cap, rfl, -⟩ := hr.slice
  obtain ⟨ab, capb, rfl, -⟩ := hrb.slice
  obtain ⟨hx, hy, hz, hb, hs3⟩ := opBox w [.int .i64 5, .int .i64 r, .int .i64 c, .slice a n cap, .slice ab nb capb, .int .u64 p] 62 92
  have hcall := Rank_err r c p hp _ n x _ (hr.below hb) he
  obtain ⟨E, hE⟩ : ∃ E, E = openE r c n p true := ⟨_, rfl⟩
  rw [← hE] at hcall ⊢
  have HC := Lib.hid hcall
  have HY := Lib.hid hy
  have HZ := Lib.hid hz
  have HB := Lib.hid hb
  have HS3 := Lib.hid hs3
  have x0 := hx 0 _ rfl
  have x1 := hx 1 _ rfl
  have x2 := hx 2 _ rfl
  have x3 := hx 3 _ rfl
  have x4 := hx 4 _ rfl
  have x5 := hx 5 _ rfl
  clear hr hrb he hx hy hz hb hs3 hcall hE
  go_enter Try.func60, Try.ntmps60
  go_wp2_with fail
  refine HC.out.mono ?_
  rintro e w4 ⟨rfl, hb4⟩
  have Y := fun i y h => cell_stays hb4 (HZ.out i y h).1
  have Yf := fun i y h => froz_stays hb4 (HZ.out i y h).1 (HZ.out i y h).2
  have Z := fun i y h => cell_stays hb4 (HY.out i y h).1
  have Zf := fun i y h => froz_stays hb4 (HY.out i y h).1 (HY.out i y h).2
  have y0 := Y 0 _ rfl
  have y1 := Y 1 _ rfl
  have y2 := Y 2 _ rfl
  have y3 := Y 3 _ rfl
  have y4 := Y 4 _ rfl
  have y5 := Y 5 _ rfl
  have y6 := Y 6 _ rfl
  have y7 := Y 7 _ rfl
  have f0 := Yf 0 _ rfl
  have f1 := Yf 1 _ rfl
  have f2 := Yf 2 _ rfl
  have f3 := Yf 3 _ rfl
  have f4 := Yf 4 _ rfl
  have f5 := Yf 5 _ rfl
  have f7 := Yf 7 _ rfl
  have z0 := Z 0 _ rfl
  have z1 := Z 1 _ rfl
  have z2 := Z 2 _ rfl
  have z3 := Z 3 _ rfl
  have z4 := Z 4 _ rfl
  have z5 := Z 5 _ rfl
  have z6 := Z 6 _ rfl
  have z7 := Z 7 _ rfl
  have k0 := Zf 0 _ rfl
  have k1 := Zf 1 _ rfl
  have k2 := Zf 2 _ rfl
  have k3 := Zf 3 _ rfl
  have k4 := Zf 4 _ rfl
  have k5 := Zf 5 _ rfl
  have k6 := Zf 6 _ rfl
  have k7 := Zf 7 _ rfl
  have HB4 := Lib.hid (HB.out.trans (hb4.mono HB.out.size))
  clear Y Yf Z Zf hb4 HY HZ HB HC x0 x1 x2 x3 x4 x5
  go_wp2_with fail
  refine bodyPost_ret (v := ans0 E) ?_ rfl ⟨rfl, ?_⟩
  · simp [results, Try.results60, go_sem, z0, z1, z2, z3, z4, z5, z6, z7, ans0]
  · repeat (with_reducible refine Below.setCell ?_ (by first | (simp; done) | (simp; omega)) _)
    exact HB4.out

set_option maxHeartbeats 2000000 in
set_option maxRecDepth 100000 in
theorem plays_err6 (r c : Int) (p : Int) (hp : 0 ≤ p) (s : Value) (n : Nat) (x : Nat → Raw) (sb : Value) (nb : Nat) (b : Nat → Raw) (w : World) (hr : RdL w s n x) (hrb : RdL w sb nb b) (he : openE r c n p true ≠ 0) :
    Calls Try.prog 60 #[.agg #[.int .i64 6, .int .i64 r, .int .i64 c, s, sb, .int .u64 p]] w fun e w' => e = .returned (ans0 (openE r c n p true)) ∧ Below w.heap.size w w' := by
  obtain ⟨a, cap, rfl, -⟩ := hr.slice
  obtain ⟨ab, capb, rfl, -⟩ := hrb.slice
  obtain ⟨hx, hy, hz, hb, hs3⟩ := opBox w [.int .i64 6, .int .i64 r, .int .i64 c, .slice a n cap, .slice ab nb capb, .int .u64 p] 62 92
  have hcall := Echelon_err r c p hp _ n x _ (hr.below hb) he
  obtain ⟨E, hE⟩ : ∃ E, E = openE r c n p true := ⟨_, rfl⟩
  rw [← hE] at hcall ⊢
  have HC := Lib.hid hcall
  have HY := Lib.hid hy
  have HZ := Lib.hid hz
  have HB := Lib.hid hb
  have HS3 := Lib.hid hs3
  have x0 := hx 0 _ rfl
  have x1 := hx 1 _ rfl
  have x2 := hx 2 _ rfl
  have x3 := hx 3 _ rfl
  have x4 := hx 4 _ rfl
  have x5 := hx 5 _ rfl
  clear hr hrb he hx hy hz hb hs3 hcall hE
  go_enter Try.func60, Try.ntmps60
  go_wp2_with fail
  refine HC.out.mono ?_
  rintro e w4 ⟨rfl, hb4⟩
  have Y := fun i y h => cell_stays hb4 (HZ.out i y h).1
  have Yf := fun i y h => froz_stays hb4 (HZ.out i y h).1 (HZ.out i y h).2
  have Z := fun i y h => cell_stays hb4 (HY.out i y h).1
  have Zf := fun i y h => froz_stays hb4 (HY.out i y h).1 (HY.out i y h).2
  have y0 := Y 0 _ rfl
  have y1 := Y 1 _ rfl
  have y2 := Y 2 _ rfl
  have y3 := Y 3 _ rfl
  have y4 := Y 4 _ rfl
  have y5 := Y 5 _ rfl
  have y6 := Y 6 _ rfl
  have y7 := Y 7 _ rfl
  have f0 := Yf 0 _ rfl
  have f1 := Yf 1 _ rfl
  have f2 := Yf 2 _ rfl
  have f3 := Yf 3 _ rfl
  have f4 := Yf 4 _ rfl
  have f5 := Yf 5 _ rfl
  have f7 := Yf 7 _ rfl
  have z0 := Z 0 _ rfl
  have z1 := Z 1 _ rfl
  have z2 := Z 2 _ rfl
  have z3 := Z 3 _ rfl
  have z4 := Z 4 _ rfl
  have z5 := Z 5 _ rfl
  have z6 := Z 6 _ rfl
  have z7 := Z 7 _ rfl
  have k0 := Zf 0 _ rfl
  have k1 := Zf 1 _ rfl
  have k2 := Zf 2 _ rfl
  have k3 := Zf 3 _ rfl
  have k4 := Zf 4 _ rfl
  have k5 := Zf 5 _ rfl
  have k6 := Zf 6 _ rfl
  have k7 := Zf 7 _ rfl
  have HB4 := Lib.hid (HB.out.trans (hb4.mono HB.out.size))
  clear Y Yf Z Zf hb4 HY HZ HB HC x0 x1 x2 x3 x4 x5
  unfold mat0
  go_wp2_with fail
  refine bodyPost_ret (v := ans0 E) ?_ rfl ⟨rfl, ?_⟩
  · simp [results, Try.results60, go_sem, z0, z1, z2, z3, z4, z5, z6, z7, ans0]
  · repeat (with_reducible refine Below.setCell ?_ (by first | (simp; done) | (simp; omega)) _)
    exact HB4.out

set_option maxHeartbeats 2000000 in
set_option maxRecDepth 100000 in
theorem plays_err7 (r c : Int) (p : Int) (hp : 0 ≤ p) (s : Value) (n : Nat) (x : Nat → Raw) (sb : Value) (nb : Nat) (b : Nat → Raw) (w : World) (hr : RdL w s n x) (hrb : RdL w sb nb b) (he : openE r c n p (r == c) ≠ 0) :
    Calls Try.prog 60 #[.agg #[.int .i64 7, .int .i64 r, .int .i64 c, s, sb, .int .u64 p]] w fun e w' => e = .returned (ans0 (openE r c n p (r == c))) ∧ Below w.heap.size w w' := by
  obtain ⟨a, cap, rfl, -⟩ := hr.slice
  obtain ⟨ab, capb, rfl, -⟩ := hrb.slice
  obtain ⟨hx, hy, hz, hb, hs3⟩ := opBox w [.int .i64 7, .int .i64 r, .int .i64 c, .slice a n cap, .slice ab nb capb, .int .u64 p] 62 92
  have hcall := Inverse_err r c p hp _ n x _ (hr.below hb) he
  obtain ⟨E, hE⟩ : ∃ E, E = openE r c n p (r == c) := ⟨_, rfl⟩
  rw [← hE] at hcall ⊢
  have HC := Lib.hid hcall
  have HY := Lib.hid hy
  have HZ := Lib.hid hz
  have HB := Lib.hid hb
  have HS3 := Lib.hid hs3
  have x0 := hx 0 _ rfl
  have x1 := hx 1 _ rfl
  have x2 := hx 2 _ rfl
  have x3 := hx 3 _ rfl
  have x4 := hx 4 _ rfl
  have x5 := hx 5 _ rfl
  clear hr hrb he hx hy hz hb hs3 hcall hE
  go_enter Try.func60, Try.ntmps60
  go_wp2_with fail
  refine HC.out.mono ?_
  rintro e w4 ⟨rfl, hb4⟩
  have Y := fun i y h => cell_stays hb4 (HZ.out i y h).1
  have Yf := fun i y h => froz_stays hb4 (HZ.out i y h).1 (HZ.out i y h).2
  have Z := fun i y h => cell_stays hb4 (HY.out i y h).1
  have Zf := fun i y h => froz_stays hb4 (HY.out i y h).1 (HY.out i y h).2
  have y0 := Y 0 _ rfl
  have y1 := Y 1 _ rfl
  have y2 := Y 2 _ rfl
  have y3 := Y 3 _ rfl
  have y4 := Y 4 _ rfl
  have y5 := Y 5 _ rfl
  have y6 := Y 6 _ rfl
  have y7 := Y 7 _ rfl
  have f0 := Yf 0 _ rfl
  have f1 := Yf 1 _ rfl
  have f2 := Yf 2 _ rfl
  have f3 := Yf 3 _ rfl
  have f4 := Yf 4 _ rfl
  have f5 := Yf 5 _ rfl
  have f7 := Yf 7 _ rfl
  have z0 := Z 0 _ rfl
  have z1 := Z 1 _ rfl
  have z2 := Z 2 _ rfl
  have z3 := Z 3 _ rfl
  have z4 := Z 4 _ rfl
  have z5 := Z 5 _ rfl
  have z6 := Z 6 _ rfl
  have z7 := Z 7 _ rfl
  have k0 := Zf 0 _ rfl
  have k1 := Zf 1 _ rfl
  have k2 := Zf 2 _ rfl
  have k3 := Zf 3 _ rfl
  have k4 := Zf 4 _ rfl
  have k5 := Zf 5 _ rfl
  have k6 := Zf 6 _ rfl
  have k7 := Zf 7 _ rfl
  have HB4 := Lib.hid (HB.out.trans (hb4.mono HB.out.size))
  clear Y Yf Z Zf hb4 HY HZ HB HC x0 x1 x2 x3 x4 x5
  unfold mat0
  go_wp2_with fail
  refine bodyPost_ret (v := ans0 E) ?_ rfl ⟨rfl, ?_⟩
  · simp [results, Try.results60, go_sem, z0, z1, z2, z3, z4, z5, z6, z7, ans0]
  · repeat (with_reducible refine Below.setCell ?_ (by first | (simp; done) | (simp; omega)) _)
    exact HB4.out

set_option maxHeartbeats 2000000 in
set_option maxRecDepth 100000 in
theorem plays_err8 (r c : Int) (p : Int) (hp : 0 ≤ p) (s : Value) (n : Nat) (x : Nat → Raw) (sb : Value) (nb : Nat) (b : Nat → Raw) (w : World) (hr : RdL w s n x) (hrb : RdL w sb nb b) (he : openE r c n p true ≠ 0) :
    Calls Try.prog 60 #[.agg #[.int .i64 8, .int .i64 r, .int .i64 c, s, sb, .int .u64 p]] w fun e w' => e = .returned (ans0 (openE r c n p true)) ∧ Below w.heap.size w w' := by
  obtain ⟨a, cap, rfl, -⟩ := hr.slice
  obtain ⟨ab, capb, rfl, -⟩ := hrb.slice
  obtain ⟨hx, hy, hz, hb, hs3⟩ := opBox w [.int .i64 8, .int .i64 r, .int .i64 c, .slice a n cap, .slice ab nb capb, .int .u64 p] 62 92
  have hcall := Kernel_err r c p hp _ n x _ (hr.below hb) he
  obtain ⟨E, hE⟩ : ∃ E, E = openE r c n p true := ⟨_, rfl⟩
  rw [← hE] at hcall ⊢
  have HC := Lib.hid hcall
  have HY := Lib.hid hy
  have HZ := Lib.hid hz
  have HB := Lib.hid hb
  have HS3 := Lib.hid hs3
  have x0 := hx 0 _ rfl
  have x1 := hx 1 _ rfl
  have x2 := hx 2 _ rfl
  have x3 := hx 3 _ rfl
  have x4 := hx 4 _ rfl
  have x5 := hx 5 _ rfl
  clear hr hrb he hx hy hz hb hs3 hcall hE
  go_enter Try.func60, Try.ntmps60
  go_wp2_with fail
  refine HC.out.mono ?_
  rintro e w4 ⟨rfl, hb4⟩
  have Y := fun i y h => cell_stays hb4 (HZ.out i y h).1
  have Yf := fun i y h => froz_stays hb4 (HZ.out i y h).1 (HZ.out i y h).2
  have Z := fun i y h => cell_stays hb4 (HY.out i y h).1
  have Zf := fun i y h => froz_stays hb4 (HY.out i y h).1 (HY.out i y h).2
  have y0 := Y 0 _ rfl
  have y1 := Y 1 _ rfl
  have y2 := Y 2 _ rfl
  have y3 := Y 3 _ rfl
  have y4 := Y 4 _ rfl
  have y5 := Y 5 _ rfl
  have y6 := Y 6 _ rfl
  have y7 := Y 7 _ rfl
  have f0 := Yf 0 _ rfl
  have f1 := Yf 1 _ rfl
  have f2 := Yf 2 _ rfl
  have f3 := Yf 3 _ rfl
  have f4 := Yf 4 _ rfl
  have f5 := Yf 5 _ rfl
  have f7 := Yf 7 _ rfl
  have z0 := Z 0 _ rfl
  have z1 := Z 1 _ rfl
  have z2 := Z 2 _ rfl
  have z3 := Z 3 _ rfl
  have z4 := Z 4 _ rfl
  have z5 := Z 5 _ rfl
  have z6 := Z 6 _ rfl
  have z7 := Z 7 _ rfl
  have k0 := Zf 0 _ rfl
  have k1 := Zf 1 _ rfl
  have k2 := Zf 2 _ rfl
  have k3 := Zf 3 _ rfl
  have k4 := Zf 4 _ rfl
  have k5 := Zf 5 _ rfl
  have k6 := Zf 6 _ rfl
  have k7 := Zf 7 _ rfl
  have HB4 := Lib.hid (HB.out.trans (hb4.mono HB.out.size))
  clear Y Yf Z Zf hb4 HY HZ HB HC x0 x1 x2 x3 x4 x5
  unfold mat0
  go_wp2_with fail
  refine bodyPost_ret (v := ans0 E) ?_ rfl ⟨rfl, ?_⟩
  · simp [results, Try.results60, go_sem, z0, z1, z2, z3, z4, z5, z6, z7, ans0]
  · repeat (with_reducible refine Below.setCell ?_ (by first | (simp; done) | (simp; omega)) _)
    exact HB4.out

set_option maxHeartbeats 2000000 in
set_option maxRecDepth 100000 in
theorem plays_err9 (r c : Int) (p : Int) (hp : 0 ≤ p) (s : Value) (n : Nat) (x : Nat → Raw) (sb : Value) (nb : Nat) (b : Nat → Raw) (w : World) (hr : RdL w s n x) (hrb : RdL w sb nb b) (he : openE r c n p ((nb : Int) == c) ≠ 0) :
    Calls Try.prog 60 #[.agg #[.int .i64 9, .int .i64 r, .int .i64 c, s, sb, .int .u64 p]] w fun e w' => e = .returned (ans0 (openE r c n p ((nb : Int) == c))) ∧ Below w.heap.size w w' := by
  obtain ⟨a, cap, rfl, -⟩ := hr.slice
  obtain ⟨ab, capb, rfl, -⟩ := hrb.slice
  obtain ⟨hx, hy, hz, hb, hs3⟩ := opBox w [.int .i64 9, .int .i64 r, .int .i64 c, .slice a n cap, .slice ab nb capb, .int .u64 p] 62 92
  have hcall := Solve_err r c p hp _ n x _ nb b _ (hr.below hb) (hrb.below hb) he
  obtain ⟨E, hE⟩ : ∃ E, E = openE r c n p ((nb : Int) == c) := ⟨_, rfl⟩
  rw [← hE] at hcall ⊢
  have HC := Lib.hid hcall
  have HY := Lib.hid hy
  have HZ := Lib.hid hz
  have HB := Lib.hid hb
  have HS3 := Lib.hid hs3
  have x0 := hx 0 _ rfl
  have x1 := hx 1 _ rfl
  have x2 := hx 2 _ rfl
  have x3 := hx 3 _ rfl
  have x4 := hx 4 _ rfl
  have x5 := hx 5 _ rfl
  clear hr hrb he hx hy hz hb hs3 hcall hE
  go_enter Try.func60, Try.ntmps60
  go_wp2_with fail
  refine HC.out.mono ?_
  rintro e w4 ⟨rfl, hb4⟩
  have Y := fun i y h => cell_stays hb4 (HZ.out i y h).1
  have Yf := fun i y h => froz_stays hb4 (HZ.out i y h).1 (HZ.out i y h).2
  have Z := fun i y h => cell_stays hb4 (HY.out i y h).1
  have Zf := fun i y h => froz_stays hb4 (HY.out i y h).1 (HY.out i y h).2
  have y0 := Y 0 _ rfl
  have y1 := Y 1 _ rfl
  have y2 := Y 2 _ rfl
  have y3 := Y 3 _ rfl
  have y4 := Y 4 _ rfl
  have y5 := Y 5 _ rfl
  have y6 := Y 6 _ rfl
  have y7 := Y 7 _ rfl
  have f0 := Yf 0 _ rfl
  have f1 := Yf 1 _ rfl
  have f2 := Yf 2 _ rfl
  have f3 := Yf 3 _ rfl
  have f4 := Yf 4 _ rfl
  have f5 := Yf 5 _ rfl
  have f7 := Yf 7 _ rfl
  have z0 := Z 0 _ rfl
  have z1 := Z 1 _ rfl
  have z2 := Z 2 _ rfl
  have z3 := Z 3 _ rfl
  have z4 := Z 4 _ rfl
  have z5 := Z 5 _ rfl
  have z6 := Z 6 _ rfl
  have z7 := Z 7 _ rfl
  have k0 := Zf 0 _ rfl
  have k1 := Zf 1 _ rfl
  have k2 := Zf 2 _ rfl
  have k3 := Zf 3 _ rfl
  have k4 := Zf 4 _ rfl
  have k5 := Zf 5 _ rfl
  have k6 := Zf 6 _ rfl
  have k7 := Zf 7 _ rfl
  have HB4 := Lib.hid (HB.out.trans (hb4.mono HB.out.size))
  clear Y Yf Z Zf hb4 HY HZ HB HC x0 x1 x2 x3 x4 x5
  go_wp2_with fail
  refine bodyPost_ret (v := ans0 E) ?_ rfl ⟨rfl, ?_⟩
  · simp [results, Try.results60, go_sem, z0, z1, z2, z3, z4, z5, z6, z7, ans0]
  · repeat (with_reducible refine Below.setCell ?_ (by first | (simp; done) | (simp; omega)) _)
    exact HB4.out

end Go.Proofs.Ytdlpemmoobbgnaa
