/- Fresh lists that stay while memory beside them is written; what the calls answer, over any such reading. The contracts of modp's calls and the reference's, with the same answers. The walk of the law's plays, kind by kind, from the contract of the call. The walk of the law's wants, kind by kind, from the contract of the call. A script of calls as an argument, opened; the bounds come of the form's own reach (each slice that is read weighs at most 2^47 bytes). The law's right and ModpAll: every call answers what the reference answers. -/
import Derived.Test.YtdlpemmoobbgnaaGP
import Derived.Test.YtdlpemmoobbgnaaGI
import Derived.Test.YtdlpemmoobbgnaaGO
import Derived.Test.YtdlpemmoobbgnaaGQ
import Derived.Test.YtdlpemmoobbgnaaGY
import Derived.Test.YtdlpemmoobbgnaaGH
import Derived.SizedLaws
set_option linter.unusedVariables false
set_option linter.unusedSimpArgs false
namespace Go.Proofs.Ytdlpemmoobbgnaa
open Go.RowKit

/-- memory is made, and written below base -/
inductive Rch (base : Nat) (w0 : World) : World → Prop
  | refl : Rch base w0 w0
  | set {w1 : World} {a : Addr} (v : Value) : Rch base w0 w1 → a.block < base → Rch base w0 (w1.setCell a v)
  | fresh {w1 w2 : World} : Rch base w0 w1 → Below w1.heap.size w1 w2 → Rch base w0 w2
theorem Rch.trans {base : Nat} {w w1 w2 : World} (h : Rch base w w1) (g : Rch base w1 w2) : Rch base w w2 := by
  induction g with
  | refl => exact h
  | set v _ ha ih => exact Rch.set v ih ha
  | fresh _ hb ih => exact Rch.fresh ih hb
theorem Rch.mono {base base' : Nat} {w w1 : World} (h : Rch base w w1) (hb : base ≤ base') : Rch base' w w1 := by
  induction h with
  | refl => exact Rch.refl
  | set v _ ha ih => exact Rch.set v ih (Nat.lt_of_lt_of_le ha hb)
  | fresh _ hc ih => exact Rch.fresh ih hc

/-- a list that reads the same as long as memory from base on stays -/
def FrL (w : World) (base : Nat) (v : Value) (n : Nat) (X : Nat → Raw) : Prop := ∀ w', Rch base w w' → RdL w' v n X
section
variable {w w' : World} {base base' n : Nat} {v : Value} {X : Nat → Raw}
theorem FrL.read (h : FrL w base v n X) : RdL w v n X := h w Rch.refl
theorem FrL.set (h : FrL w base v n X) {a : Addr} (ha : a.block < base) (y : Value) : FrL (w.setCell a y) base v n X := fun w' hr => h w' ((Rch.set y Rch.refl ha).trans hr)
theorem FrL.below (h : FrL w base v n X) (hb : Below w.heap.size w w') : FrL w' base v n X := fun w2 hr => h w2 ((Rch.fresh Rch.refl hb).trans hr)
theorem FrL.mono (h : FrL w base v n X) (hb : base' ≤ base) : FrL w base' v n X := fun w' hr => h w' (hr.mono hb)
theorem FrL.slice (h : FrL w base v n X) : ∃ a c, v = .slice a n c := by
  obtain ⟨a, c, e, -⟩ := h.read.slice
  exact ⟨a, c, e⟩
theorem FrL.nil : FrL w base (.slice none 0 0) 0 X := fun _ _ => ⟨none, 0, rfl, Nat.le_refl _, by omega, fun h => absurd h (by omega)⟩
theorem FrL.own (h : OwnF w base v n X) (hn : n ≤ 4398046511104) : FrL w base v n X := fun w' hr => by
  have : OwnF w' base v n X := by
    induction hr with
    | refl => exact h
    | set y _ ha ih => exact ih.set ha y
    | fresh _ hb ih => exact ih.below hb
  exact this.read hn
theorem FrL.ls {lb : Nat} {y : Nat → Int} {M : Nat → Value} (h : LS 56 22 w base base lb n n (fun q => small (y q)) M) (hn : n ≤ 4096) (hy : ∀ q, q < n → 0 ≤ y q ∧ y q < 2147483648) : FrL w base (.slice (some ⟨lb, 0, none⟩) n n) n (fun q => small (y q)) := fun w' hr => by
  have : LS 56 22 w' base base lb n n (fun q => small (y q)) M := by
    induction hr with
    | refl => exact h
    | set v _ ha ih => exact ih.set ha (by have := ih.own; omega) v
    | fresh _ hb ih => exact ih.below hb
  exact small_read this hn hy
end

/-- a reading of a fresh list that stays while memory below base is written and new memory is made -/
structure KeepQ (Q : World → Nat → Value → Nat → (Nat → Raw) → Prop) : Prop where
  set : ∀ {w : World} {base : Nat} {v : Value} {n : Nat} {X : Nat → Raw} {a : Addr}, Q w base v n X → a.block < base → ∀ y, Q (w.setCell a y) base v n X
  below : ∀ {w w' : World} {base : Nat} {v : Value} {n : Nat} {X : Nat → Raw}, Q w base v n X → Below w.heap.size w w' → Q w' base v n X
  mono : ∀ {w : World} {base base' : Nat} {v : Value} {n : Nat} {X : Nat → Raw}, Q w base v n X → base' ≤ base → Q w base' v n X
  nil : ∀ {w : World} {base : Nat} {X : Nat → Raw}, Q w base (.slice none 0 0) 0 X
  slice : ∀ {w : World} {base : Nat} {v : Value} {n : Nat} {X : Nat → Raw}, Q w base v n X → ∃ a c, v = .slice a n c
theorem FrL.keep : KeepQ FrL := ⟨fun h ha y => h.set ha y, fun h hb => h.below hb, fun h hb => h.mono hb, FrL.nil, fun h => h.slice⟩

/-- a matrix and an error are answered -/
def MatA (Q : World → Nat → Value → Nat → (Nat → Raw) → Prop) (rr cc : Int) (nn : Nat) (X : Nat → Raw) (E : Int) (base : Nat) (e : Ending) (w' : World) : Prop := ∃ s', e = .returned (.tuple #[.agg #[.int .i64 rr, .int .i64 cc, s'], .int .i64 E]) ∧ Q w' base s' nn X
/-- a list and an error are answered -/
def LstA (Q : World → Nat → Value → Nat → (Nat → Raw) → Prop) (nn : Nat) (X : Nat → Raw) (E : Int) (base : Nat) (e : Ending) (w' : World) : Prop := ∃ s', e = .returned (.tuple #[s', .int .i64 E]) ∧ Q w' base s' nn X

end Go.Proofs.Ytdlpemmoobbgnaa

namespace Go.Proofs.Ytdlpemmoobbgnaa
open Go.RowKit

theorem AnsM.mat {w' : World} {base : Nat} {v : Value} {m n : Nat} {G : Nat → Nat → Int} (h : AnsM w' base v 0 m n G) (hm : m ≤ 64) (hn : n ≤ 64) (hG : ∀ i j, i < m → j < n → 0 ≤ G i j ∧ G i j < 2147483648) :
    MatA FrL m n (m * n) (fun q => small (G (q / n) (q % n))) 0 base (.returned (.tuple #[v, .int .i64 0])) w' := by
  obtain ⟨lb, M, rfl, hl⟩ := h.1 rfl
  exact ⟨_, rfl, FrL.ls hl (Nat.mul_le_mul hm hn) fun q hq => by
    have h := mul_idx (K := 0) hq
    exact hG _ _ h.1 h.2⟩
theorem AnsM.mat0 {w' : World} {base : Nat} {v : Value} {m n : Nat} {G : Nat → Nat → Int} {E : Int} (h : AnsM w' base v E m n G) (hE : E ≠ 0) : MatA FrL 0 0 0 (fun _ => small 0) E base (.returned (.tuple #[v, .int .i64 E])) w' := by
  rw [h.2 hE]
  exact ⟨_, rfl, FrL.nil⟩

section
variable (r c p : Int) (hp : 0 ≤ p) (s : Value) (n : Nat) (x : Nat → Raw) (w : World) (hr : RdL w s n x)
include hp hr

omit hp hr in
theorem fit_sq : (!(true && (r != c))) = (r == c) := by
  by_cases h : r = c
  · simp [h]
  · have h1 : (r == c) = false := beq_eq_false_iff_ne.2 h
    rw [bne, h1]; rfl

end
end Go.Proofs.Ytdlpemmoobbgnaa

namespace Go.Proofs.Ytdlpemmoobbgnaa
open Go.RowKit

/-- what plays and wants answer: a matrix, a list, two numbers, a bool, an error -/
structure AnsD where
  rr : Int
  cc : Int
  nn : Nat
  X : Nat → Raw
  mm : Nat
  L : Nat → Raw
  W : Int
  N : Int
  ok : Bool
  E : Int
def AnsD.post (D : AnsD) (Q : World → Nat → Value → Nat → (Nat → Raw) → Prop) (base : Nat) (e : Ending) (w' : World) : Prop := ∃ s' l', e = .returned (.agg #[.int .i64 D.rr, .int .i64 D.cc, s', l', .int .u64 D.W, .int .i64 D.N, .bool D.ok, .int .i64 D.E]) ∧ Q w' base s' D.nn D.X ∧ Q w' base l' D.mm D.L

set_option maxHeartbeats 2000000 in
set_option maxRecDepth 100000 in
theorem plays12_3 {Q : World → Nat → Value → Nat → (Nat → Raw) → Prop} (hQ : KeepQ Q) (r c p : Int) (s : Value) (n : Nat) (x : Nat → Raw) (sb : Value) (nb : Nat) (b : Nat → Raw) (w : World) (hr : RdL w s n x) (hrb : RdL w sb nb b) (rr cc : Int) (nn : Nat) (X : Nat → Raw) (E : Int)
    (hcall : ∀ W, Below w.heap.size w W → Calls Try.prog 35 #[.agg #[.int .i64 r, .int .i64 c, s], .int .u64 p] W fun e w' => MatA Q rr cc nn X E W.heap.size e w' ∧ Below W.heap.size W w') :
    Calls Try.prog 60 #[.agg #[.int .i64 3, .int .i64 r, .int .i64 c, s, sb, .int .u64 p]] w fun e w' => AnsD.post ⟨rr, cc, nn, X, 0, fun _ => small 0, 0, 0, false, E⟩ Q w.heap.size e w' ∧ Below w.heap.size w w' := by
  obtain ⟨a, cap, rfl, -⟩ := hr.slice
  obtain ⟨ab, capb, rfl, -⟩ := hrb.slice
  obtain ⟨hx, hy, hz, hb, hs3⟩ := opBox w [.int .i64 3, .int .i64 r, .int .i64 c, .slice a n cap, .slice ab nb capb, .int .u64 p] 62 92
  have hcall := hcall _ hb
  have HC := Lib.hid hcall
  have HY := Lib.hid hy
  have HZ := Lib.hid hz
  have HB := Lib.hid hb
  have HS3 := Lib.hid hs3
  have x0 := hx 0 _ rfl
  have x1 := hx 1 _ rfl
  have x2 := hx 2 _ rfl
  have x3 := hx 3 _ rfl
  have x4 := hx 4 _ rfl
  have x5 := hx 5 _ rfl
  clear hr hrb hx hy hz hb hs3 hcall
  go_enter Try.func60, Try.ntmps60
  go_wp2_with fail
  refine HC.out.mono ?_
  rintro e w4 ⟨⟨s4, rfl, hfr⟩, hb4⟩
  rw [HS3.out] at hfr
  obtain ⟨a4, c4, rfl⟩ := hQ.slice hfr
  have HFR := Lib.hid hfr
  clear hfr
  have Y := fun i y h => cell_stays hb4 (HZ.out i y h).1
  have Yf := fun i y h => froz_stays hb4 (HZ.out i y h).1 (HZ.out i y h).2
  have Z := fun i y h => cell_stays hb4 (HY.out i y h).1
  have Zf := fun i y h => froz_stays hb4 (HY.out i y h).1 (HY.out i y h).2
  have y0 := Y 0 _ rfl
  have y1 := Y 1 _ rfl
  have y2 := Y 2 _ rfl
  have y3 := Y 3 _ rfl
  have y4 := Y 4 _ rfl
  have y5 := Y 5 _ rfl
  have y6 := Y 6 _ rfl
  have y7 := Y 7 _ rfl
  have f0 := Yf 0 _ rfl
  have f1 := Yf 1 _ rfl
  have f2 := Yf 2 _ rfl
  have f3 := Yf 3 _ rfl
  have f4 := Yf 4 _ rfl
  have f5 := Yf 5 _ rfl
  have f6 := Yf 6 _ rfl
  have f7 := Yf 7 _ rfl
  have z0 := Z 0 _ rfl
  have z1 := Z 1 _ rfl
  have z2 := Z 2 _ rfl
  have z3 := Z 3 _ rfl
  have z4 := Z 4 _ rfl
  have z5 := Z 5 _ rfl
  have z6 := Z 6 _ rfl
  have z7 := Z 7 _ rfl
  have k0 := Zf 0 _ rfl
  have k1 := Zf 1 _ rfl
  have k2 := Zf 2 _ rfl
  have k3 := Zf 3 _ rfl
  have k4 := Zf 4 _ rfl
  have k5 := Zf 5 _ rfl
  have k6 := Zf 6 _ rfl
  have k7 := Zf 7 _ rfl
  have HB4 := Lib.hid (HB.out.trans (hb4.mono HB.out.size))
  clear Y Yf Z Zf hb4 HY HZ HB HC x0 x1 x2 x3 x4 x5
  go_wp2_with fail
  refine bodyPost_ret (v := .agg #[.int .i64 rr, .int .i64 cc, .slice a4 nn c4, .slice none 0 0, .int .u64 0, .int .i64 0, .bool false, .int .i64 E]) ?_ rfl ⟨⟨_, _, rfl, (by
    refine hQ.mono (base := w.heap.size + 3) ?_ (by omega)
    repeat (with_reducible refine hQ.set ?_ (by first | (simp; done) | (simp; omega)) _)
    exact HFR.out), hQ.nil⟩, ?_⟩
  · simp [results, Try.results60, go_sem, z0, z1, z2, z3, z4, z5, z6, z7]
  · repeat (with_reducible refine Below.setCell ?_ (by first | (simp; done) | (simp; omega)) _)
    exact HB4.out

set_option maxHeartbeats 2000000 in
set_option maxRecDepth 100000 in
theorem plays12_4 {Q : World → Nat → Value → Nat → (Nat → Raw) → Prop} (hQ : KeepQ Q) (r c p : Int) (s : Value) (n : Nat) (x : Nat → Raw) (sb : Value) (nb : Nat) (b : Nat → Raw) (w : World) (hr : RdL w s n x) (hrb : RdL w sb nb b) (D E : Int)
    (hcall : ∀ W, Below w.heap.size w W → Calls Try.prog 18 #[.agg #[.int .i64 r, .int .i64 c, s], .int .u64 p] W fun e w' => e = .returned (.tuple #[.int .u64 D, .int .i64 E]) ∧ Below W.heap.size W w') :
    Calls Try.prog 60 #[.agg #[.int .i64 4, .int .i64 r, .int .i64 c, s, sb, .int .u64 p]] w fun e w' => AnsD.post ⟨0, 0, 0, fun _ => small 0, 0, fun _ => small 0, D, 0, false, E⟩ Q w.heap.size e w' ∧ Below w.heap.size w w' := by
  obtain ⟨a, cap, rfl, -⟩ := hr.slice
  obtain ⟨ab, capb, rfl, -⟩ := hrb.slice
  obtain ⟨hx, hy, hz, hb, hs3⟩ := opBox w [.int .i64 4, .int .i64 r, .int .i64 c, .slice a n cap, .slice ab nb capb, .int .u64 p] 62 92
  have hcall := hcall _ hb
  have HC := Lib.hid hcall
  have HY := Lib.hid hy
  have HZ := Lib.hid hz
  have HB := Lib.hid hb
  have HS3 := Lib.hid hs3
  have x0 := hx 0 _ rfl
  have x1 := hx 1 _ rfl
  have x2 := hx 2 _ rfl
  have x3 := hx 3 _ rfl
  have x4 := hx 4 _ rfl
  have x5 := hx 5 _ rfl
  clear hr hrb hx hy hz hb hs3 hcall
  go_enter Try.func60, Try.ntmps60
  go_wp2_with fail
  refine HC.out.mono ?_
  rintro e w4 ⟨rfl, hb4⟩
  have Y := fun i y h => cell_stays hb4 (HZ.out i y h).1
  have Yf := fun i y h => froz_stays hb4 (HZ.out i y h).1 (HZ.out i y h).2
  have Z := fun i y h => cell_stays hb4 (HY.out i y h).1
  have Zf := fun i y h => froz_stays hb4 (HY.out i y h).1 (HY.out i y h).2
  have y0 := Y 0 _ rfl
  have y1 := Y 1 _ rfl
  have y2 := Y 2 _ rfl
  have y3 := Y 3 _ rfl
  have y4 := Y 4 _ rfl
  have y5 := Y 5 _ rfl
  have y6 := Y 6 _ rfl
  have y7 := Y 7 _ rfl
  have f0 := Yf 0 _ rfl
  have f1 := Yf 1 _ rfl
  have f2 := Yf 2 _ rfl
  have f3 := Yf 3 _ rfl
  have f4 := Yf 4 _ rfl
  have f5 := Yf 5 _ rfl
  have f6 := Yf 6 _ rfl
  have f7 := Yf 7 _ rfl
  have z0 := Z 0 _ rfl
  have z1 := Z 1 _ rfl
  have z2 := Z 2 _ rfl
  have z3 := Z 3 _ rfl
  have z4 := Z 4 _ rfl
  have z5 := Z 5 _ rfl
  have z6 := Z 6 _ rfl
  have z7 := Z 7 _ rfl
  have k0 := Zf 0 _ rfl
  have k1 := Zf 1 _ rfl
  have k2 := Zf 2 _ rfl
  have k3 := Zf 3 _ rfl
  have k4 := Zf 4 _ rfl
  have k5 := Zf 5 _ rfl
  have k6 := Zf 6 _ rfl
  have k7 := Zf 7 _ rfl
  have HB4 := Lib.hid (HB.out.trans (hb4.mono HB.out.size))
  clear Y Yf Z Zf hb4 HY HZ HB HC x0 x1 x2 x3 x4 x5
  go_wp2_with fail
  refine bodyPost_ret (v := .agg #[.int .i64 0, .int .i64 0, .slice none 0 0, .slice none 0 0, .int .u64 D, .int .i64 0, .bool false, .int .i64 E]) ?_ rfl ⟨⟨_, _, rfl, hQ.nil, hQ.nil⟩, ?_⟩
  · simp [results, Try.results60, go_sem, z0, z1, z2, z3, z4, z5, z6, z7]
  · repeat (with_reducible refine Below.setCell ?_ (by first | (simp; done) | (simp; omega)) _)
    exact HB4.out

set_option maxHeartbeats 2000000 in
set_option maxRecDepth 100000 in
theorem plays12_5 {Q : World → Nat → Value → Nat → (Nat → Raw) → Prop} (hQ : KeepQ Q) (r c p : Int) (s : Value) (n : Nat) (x : Nat → Raw) (sb : Value) (nb : Nat) (b : Nat → Raw) (w : World) (hr : RdL w s n x) (hrb : RdL w sb nb b) (D E : Int)
    (hcall : ∀ W, Below w.heap.size w W → Calls Try.prog 31 #[.agg #[.int .i64 r, .int .i64 c, s], .int .u64 p] W fun e w' => e = .returned (.tuple #[.int .i64 D, .int .i64 E]) ∧ Below W.heap.size W w') :
    Calls Try.prog 60 #[.agg #[.int .i64 5, .int .i64 r, .int .i64 c, s, sb, .int .u64 p]] w fun e w' => AnsD.post ⟨0, 0, 0, fun _ => small 0, 0, fun _ => small 0, 0, D, false, E⟩ Q w.heap.size e w' ∧ Below w.heap.size w w' := by
  obtain ⟨a, cap, rfl, -⟩ := hr.slice
  obtain ⟨ab, capb, rfl, -⟩ := hrb.slice
  obtain ⟨hx, hy, hz, hb, hs3⟩ := opBox w [.int .i64 5, .int .i64 r, .int .i64 c, .slice a n cap, .slice ab nb capb, .int .u64 p] 62 92
  have hcall := hcall _ hb
  have HC := Lib.hid hcall
  have HY := Lib.hid hy
  have HZ := Lib.hid hz
  have HB := Lib.hid hb
  have HS3 := Lib.hid hs3
  have x0 := hx 0 _ rfl
  have x1 := hx 1 _ rfl
  have x2 := hx 2 _ rfl
  have x3 := hx 3 _ rfl
  have x4 := hx 4 _ rfl
  have x5 := hx 5 _ rfl
  clear hr hrb hx hy hz hb hs3 hcall
  go_enter Try.func60, Try.ntmps60
  go_wp2_with fail
  refine HC.out.mono ?_
  rintro e w4 ⟨rfl, hb4⟩
  have Y := fun i y h => cell_stays hb4 (HZ.out i y h).1
  have Yf := fun i y h => froz_stays hb4 (HZ.out i y h).1 (HZ.out i y h).2
  have Z := fun i y h => cell_stays hb4 (HY.out i y h).1
  have Zf := fun i y h => froz_stays hb4 (HY.out i y h).1 (HY.out i y h).2
  have y0 := Y 0 _ rfl
  have y1 := Y 1 _ rfl
  have y2 := Y 2 _ rfl
  have y3 := Y 3 _ rfl
  have y4 := Y 4 _ rfl
  have y5 := Y 5 _ rfl
  have y6 := Y 6 _ rfl
  have y7 := Y 7 _ rfl
  have f0 := Yf 0 _ rfl
  have f1 := Yf 1 _ rfl
  have f2 := Yf 2 _ rfl
  have f3 := Yf 3 _ rfl
  have f4 := Yf 4 _ rfl
  have f5 := Yf 5 _ rfl
  have f6 := Yf 6 _ rfl
  have f7 := Yf 7 _ rfl
  have z0 := Z 0 _ rfl
  have z1 := Z 1 _ rfl
  have z2 := Z 2 _ rfl
  have z3 := Z 3 _ rfl
  have z4 := Z 4 _ rfl
  have z5 := Z 5 _ rfl
  have z6 := Z 6 _ rfl
  have z7 := Z 7 _ rfl
  have k0 := Zf 0 _ rfl
  have k1 := Zf 1 _ rfl
  have k2 := Zf 2 _ rfl
  have k3 := Zf 3 _ rfl
  have k4 := Zf 4 _ rfl
  have k5 := Zf 5 _ rfl
  have k6 := Zf 6 _ rfl
  have k7 := Zf 7 _ rfl
  have HB4 := Lib.hid (HB.out.trans (hb4.mono HB.out.size))
  clear Y Yf Z Zf hb4 HY HZ HB HC x0 x1 x2 x3 x4 x5
  go_wp2_with fail
  refine bodyPost_ret (v := .agg #[.int .i64 0, .int .i64 0, .slice none 0 0, .slice none 0 0, .int .u64 0, .int .i64 D, .bool false, .int .i64 E]) ?_ rfl ⟨⟨_, _, rfl, hQ.nil, hQ.nil⟩, ?_⟩
  · simp [results, Try.results60, go_sem, z0, z1, z2, z3, z4, z5, z6, z7]
  · repeat (with_reducible refine Below.setCell ?_ (by first | (simp; done) | (simp; omega)) _)
    exact HB4.out

set_option maxHeartbeats 2000000 in
set_option maxRecDepth 100000 in
theorem plays12_6 {Q : World → Nat → Value → Nat → (Nat → Raw) → Prop} (hQ : KeepQ Q) (r c p : Int) (s : Value) (n : Nat) (x : Nat → Raw) (sb : Value) (nb : Nat) (b : Nat → Raw) (w : World) (hr : RdL w s n x) (hrb : RdL w sb nb b) (rr cc : Int) (nn : Nat) (X : Nat → Raw) (E : Int)
    (hcall : ∀ W, Below w.heap.size w W → Calls Try.prog 25 #[.agg #[.int .i64 r, .int .i64 c, s], .int .u64 p] W fun e w' => MatA Q rr cc nn X E W.heap.size e w' ∧ Below W.heap.size W w') :
    Calls Try.prog 60 #[.agg #[.int .i64 6, .int .i64 r, .int .i64 c, s, sb, .int .u64 p]] w fun e w' => AnsD.post ⟨rr, cc, nn, X, 0, fun _ => small 0, 0, 0, false, E⟩ Q w.heap.size e w' ∧ Below w.heap.size w w' := by
  obtain ⟨a, cap, rfl, -⟩ := hr.slice
  obtain ⟨ab, capb, rfl, -⟩ := hrb.slice
  obtain ⟨hx, hy, hz, hb, hs3⟩ := opBox w [.int .i64 6, .int .i64 r, .int .i64 c, .slice a n cap, .slice ab nb capb, .int .u64 p] 62 92
  have hcall := hcall _ hb
  have HC := Lib.hid hcall
  have HY := Lib.hid hy
  have HZ := Lib.hid hz
  have HB := Lib.hid hb
  have HS3 := Lib.hid hs3
  have x0 := hx 0 _ rfl
  have x1 := hx 1 _ rfl
  have x2 := hx 2 _ rfl
  have x3 := hx 3 _ rfl
  have x4 := hx 4 _ rfl
  have x5 := hx 5 _ rfl
  clear hr hrb hx hy hz hb hs3 hcall
  go_enter Try.func60, Try.ntmps60
  go_wp2_with fail
  refine HC.out.mono ?_
  rintro e w4 ⟨⟨s4, rfl, hfr⟩, hb4⟩
  rw [HS3.out] at hfr
  obtain ⟨a4, c4, rfl⟩ := hQ.slice hfr
  have HFR := Lib.hid hfr
  clear hfr
  have Y := fun i y h => cell_stays hb4 (HZ.out i y h).1
  have Yf := fun i y h => froz_stays hb4 (HZ.out i y h).1 (HZ.out i y h).2
  have Z := fun i y h => cell_stays hb4 (HY.out i y h).1
  have Zf := fun i y h => froz_stays hb4 (HY.out i y h).1 (HY.out i y h).2
  have y0 := Y 0 _ rfl
  have y1 := Y 1 _ rfl
  have y2 := Y 2 _ rfl
  have y3 := Y 3 _ rfl
  have y4 := Y 4 _ rfl
  have y5 := Y 5 _ rfl
  have y6 := Y 6 _ rfl
  have y7 := Y 7 _ rfl
  have f0 := Yf 0 _ rfl
  have f1 := Yf 1 _ rfl
  have f2 := Yf 2 _ rfl
  have f3 := Yf 3 _ rfl
  have f4 := Yf 4 _ rfl
  have f5 := Yf 5 _ rfl
  have f6 := Yf 6 _ rfl
  have f7 := Yf 7 _ rfl
  have z0 := Z 0 _ rfl
  have z1 := Z 1 _ rfl
  have z2 := Z 2 _ rfl
  have z3 := Z 3 _ rfl
  have z4 := Z 4 _ rfl
  have z5 := Z 5 _ rfl
  have z6 := Z 6 _ rfl
  have z7 := Z 7 _ rfl
  have k0 := Zf 0 _ rfl
  have k1 := Zf 1 _ rfl
  have k2 := Zf 2 _ rfl
  have k3 := Zf 3 _ rfl
  have k4 := Zf 4 _ rfl
  have k5 := Zf 5 _ rfl
  have k6 := Zf 6 _ rfl
  have k7 := Zf 7 _ rfl
  have HB4 := Lib.hid (HB.out.trans (hb4.mono HB.out.size))
  clear Y Yf Z Zf hb4 HY HZ HB HC x0 x1 x2 x3 x4 x5
  go_wp2_with fail
  refine bodyPost_ret (v := .agg #[.int .i64 rr, .int .i64 cc, .slice a4 nn c4, .slice none 0 0, .int .u64 0, .int .i64 0, .bool false, .int .i64 E]) ?_ rfl ⟨⟨_, _, rfl, (by
    refine hQ.mono (base := w.heap.size + 3) ?_ (by omega)
    repeat (with_reducible refine hQ.set ?_ (by first | (simp; done) | (simp; omega)) _)
    exact HFR.out), hQ.nil⟩, ?_⟩
  · simp [results, Try.results60, go_sem, z0, z1, z2, z3, z4, z5, z6, z7]
  · repeat (with_reducible refine Below.setCell ?_ (by first | (simp; done) | (simp; omega)) _)
    exact HB4.out

set_option maxHeartbeats 2000000 in
set_option maxRecDepth 100000 in
theorem plays12_7 {Q : World → Nat → Value → Nat → (Nat → Raw) → Prop} (hQ : KeepQ Q) (r c p : Int) (s : Value) (n : Nat) (x : Nat → Raw) (sb : Value) (nb : Nat) (b : Nat → Raw) (w : World) (hr : RdL w s n x) (hrb : RdL w sb nb b) (rr cc : Int) (nn : Nat) (X : Nat → Raw) (E : Int)
    (hcall : ∀ W, Below w.heap.size w W → Calls Try.prog 20 #[.agg #[.int .i64 r, .int .i64 c, s], .int .u64 p] W fun e w' => MatA Q rr cc nn X E W.heap.size e w' ∧ Below W.heap.size W w') :
    Calls Try.prog 60 #[.agg #[.int .i64 7, .int .i64 r, .int .i64 c, s, sb, .int .u64 p]] w fun e w' => AnsD.post ⟨rr, cc, nn, X, 0, fun _ => small 0, 0, 0, false, E⟩ Q w.heap.size e w' ∧ Below w.heap.size w w' := by
  obtain ⟨a, cap, rfl, -⟩ := hr.slice
  obtain ⟨ab, capb, rfl, -⟩ := hrb.slice
  obtain ⟨hx, hy, hz, hb, hs3⟩ := opBox w [.int .i64 7, .int .i64 r, .int .i64 c, .slice a n cap, .slice ab nb capb, .int .u64 p] 62 92
  have hcall := hcall _ hb
  have HC := Lib.hid hcall
  have HY := Lib.hid hy
  have HZ := Lib.hid hz
  have HB := Lib.hid hb
  have HS3 := Lib.hid hs3
  have x0 := hx 0 _ rfl
  have x1 := hx 1 _ rfl
  have x2 := hx 2 _ rfl
  have x3 := hx 3 _ rfl
  have x4 := hx 4 _ rfl
  have x5 := hx 5 _ rfl
  clear hr hrb hx hy hz hb hs3 hcall
  go_enter Try.func60, Try.ntmps60
  go_wp2_with fail
  refine HC.out.mono ?_
  rintro e w4 ⟨⟨s4, rfl, hfr⟩, hb4⟩
  rw [HS3.out] at hfr
  obtain ⟨a4, c4, rfl⟩ := hQ.slice hfr
  have HFR := Lib.hid hfr
  clear hfr
  have Y := fun i y h => cell_stays hb4 (HZ.out i y h).1
  have Yf := fun i y h => froz_stays hb4 (HZ.out i y h).1 (HZ.out i y h).2
  have Z := fun i y h => cell_stays hb4 (HY.out i y h).1
  have Zf := fun i y h => froz_stays hb4 (HY.out i y h).1 (HY.out i y h).2
  have y0 := Y 0 _ rfl
  have y1 := Y 1 _ rfl
  have y2 := Y 2 _ rfl
  have y3 := Y 3 _ rfl
  have y4 := Y 4 _ rfl
  have y5 := Y 5 _ rfl
  have y6 := Y 6 _ rfl
  have y7 := Y 7 _ rfl
  have f0 := Yf 0 _ rfl
  have f1 := Yf 1 _ rfl
  have f2 := Yf 2 _ rfl
  have f3 := Yf 3 _ rfl
  have f4 := Yf 4 _ rfl
  have f5 := Yf 5 _ rfl
  have f6 := Yf 6 _ rfl
  have f7 := Yf 7 _ rfl
  have z0 := Z 0 _ rfl
  have z1 := Z 1 _ rfl
  have z2 := Z 2 _ rfl
  have z3 := Z 3 _ rfl
  have z4 := Z 4 _ rfl
  have z5 := Z 5 _ rfl
  have z6 := Z 6 _ rfl
  have z7 := Z 7 _ rfl
  have k0 := Zf 0 _ rfl
  have k1 := Zf 1 _ rfl
  have k2 := Zf 2 _ rfl
  have k3 := Zf 3 _ rfl
  have k4 := Zf 4 _ rfl
  have k5 := Zf 5 _ rfl
  have k6 := Zf 6 _ rfl
  have k7 := Zf 7 _ rfl
  have HB4 := Lib.hid (HB.out.trans (hb4.mono HB.out.size))
  clear Y Yf Z Zf hb4 HY HZ HB HC x0 x1 x2 x3 x4 x5
  go_wp2_with fail
  refine bodyPost_ret (v := .agg #[.int .i64 rr, .int .i64 cc, .slice a4 nn c4, .slice none 0 0, .int .u64 0, .int .i64 0, .bool false, .int .i64 E]) ?_ rfl ⟨⟨_, _, rfl, (by
    refine hQ.mono (base := w.heap.size + 3) ?_ (by omega)
    repeat (with_reducible refine hQ.set ?_ (by first | (simp; done) | (simp; omega)) _)
    exact HFR.out), hQ.nil⟩, ?_⟩
  · simp [results, Try.results60, go_sem, z0, z1, z2, z3, z4, z5, z6, z7]
  · repeat (with_reducible refine Below.setCell ?_ (by first | (simp; done) | (simp; omega)) _)
    exact HB4.out

set_option maxHeartbeats 2000000 in
set_option maxRecDepth 100000 in
theorem plays12_8 {Q : World → Nat → Value → Nat → (Nat → Raw) → Prop} (hQ : KeepQ Q) (r c p : Int) (s : Value) (n : Nat) (x : Nat → Raw) (sb : Value) (nb : Nat) (b : Nat → Raw) (w : World) (hr : RdL w s n x) (hrb : RdL w sb nb b) (rr cc : Int) (nn : Nat) (X : Nat → Raw) (E : Int)
    (hcall : ∀ W, Below w.heap.size w W → Calls Try.prog 26 #[.agg #[.int .i64 r, .int .i64 c, s], .int .u64 p] W fun e w' => MatA Q rr cc nn X E W.heap.size e w' ∧ Below W.heap.size W w') :
    Calls Try.prog 60 #[.agg #[.int .i64 8, .int .i64 r, .int .i64 c, s, sb, .int .u64 p]] w fun e w' => AnsD.post ⟨rr, cc, nn, X, 0, fun _ => small 0, 0, 0, false, E⟩ Q w.heap.size e w' ∧ Below w.heap.size w w' := by
  obtain ⟨a, cap, rfl, -⟩ := hr.slice
  obtain ⟨ab, capb, rfl, -⟩ := hrb.slice
  obtain ⟨hx, hy, hz, hb, hs3⟩ := opBox w [.int .i64 8, .int .i64 r, .int .i64 c, .slice a n cap, .slice ab nb capb, .int .u64 p] 62 92
  have hcall := hcall _ hb
  have HC := Lib.hid hcall
  have HY := Lib.hid hy
  have HZ := Lib.hid hz
  have HB := Lib.hid hb
  have HS3 := Lib.hid hs3
  have x0 := hx 0 _ rfl
  have x1 := hx 1 _ rfl
  have x2 := hx 2 _ rfl
  have x3 := hx 3 _ rfl
  have x4 := hx 4 _ rfl
  have x5 := hx 5 _ rfl
  clear hr hrb hx hy hz hb hs3 hcall
  go_enter Try.func60, Try.ntmps60
  go_wp2_with fail
  refine HC.out.mono ?_
  rintro e w4 ⟨⟨s4, rfl, hfr⟩, hb4⟩
  rw [HS3.out] at hfr
  obtain ⟨a4, c4, rfl⟩ := hQ.slice hfr
  have HFR := Lib.hid hfr
  clear hfr
  have Y := fun i y h => cell_stays hb4 (HZ.out i y h).1
  have Yf := fun i y h => froz_stays hb4 (HZ.out i y h).1 (HZ.out i y h).2
  have Z := fun i y h => cell_stays hb4 (HY.out i y h).1
  have Zf := fun i y h => froz_stays hb4 (HY.out i y h).1 (HY.out i y h).2
  have y0 := Y 0 _ rfl
  have y1 := Y 1 _ rfl
  have y2 := Y 2 _ rfl
  have y3 := Y 3 _ rfl
  have y4 := Y 4 _ rfl
  have y5 := Y 5 _ rfl
  have y6 := Y 6 _ rfl
  have y7 := Y 7 _ rfl
  have f0 := Yf 0 _ rfl
  have f1 := Yf 1 _ rfl
  have f2 := Yf 2 _ rfl
  have f3 := Yf 3 _ rfl
  have f4 := Yf 4 _ rfl
  have f5 := Yf 5 _ rfl
  have f6 := Yf 6 _ rfl
  have f7 := Yf 7 _ rfl
  have z0 := Z 0 _ rfl
  have z1 := Z 1 _ rfl
  have z2 := Z 2 _ rfl
  have z3 := Z 3 _ rfl
  have z4 := Z 4 _ rfl
  have z5 := Z 5 _ rfl
  have z6 := Z 6 _ rfl
  have z7 := Z 7 _ rfl
  have k0 := Zf 0 _ rfl
  have k1 := Zf 1 _ rfl
  have k2 := Zf 2 _ rfl
  have k3 := Zf 3 _ rfl
  have k4 := Zf 4 _ rfl
  have k5 := Zf 5 _ rfl
  have k6 := Zf 6 _ rfl
  have k7 := Zf 7 _ rfl
  have HB4 := Lib.hid (HB.out.trans (hb4.mono HB.out.size))
  clear Y Yf Z Zf hb4 HY HZ HB HC x0 x1 x2 x3 x4 x5
  go_wp2_with fail
  refine bodyPost_ret (v := .agg #[.int .i64 rr, .int .i64 cc, .slice a4 nn c4, .slice none 0 0, .int .u64 0, .int .i64 0, .bool false, .int .i64 E]) ?_ rfl ⟨⟨_, _, rfl, (by
    refine hQ.mono (base := w.heap.size + 3) ?_ (by omega)
    repeat (with_reducible refine hQ.set ?_ (by first | (simp; done) | (simp; omega)) _)
    exact HFR.out), hQ.nil⟩, ?_⟩
  · simp [results, Try.results60, go_sem, z0, z1, z2, z3, z4, z5, z6, z7]
  · repeat (with_reducible refine Below.setCell ?_ (by first | (simp; done) | (simp; omega)) _)
    exact HB4.out

set_option maxHeartbeats 2000000 in
set_option maxRecDepth 100000 in
theorem plays12_9 {Q : World → Nat → Value → Nat → (Nat → Raw) → Prop} (hQ : KeepQ Q) (r c p : Int) (s : Value) (n : Nat) (x : Nat → Raw) (sb : Value) (nb : Nat) (b : Nat → Raw) (w : World) (hr : RdL w s n x) (hrb : RdL w sb nb b) (nn : Nat) (X : Nat → Raw) (E : Int)
    (hcall : ∀ W, Below w.heap.size w W → Calls Try.prog 29 #[.agg #[.int .i64 r, .int .i64 c, s], sb, .int .u64 p] W fun e w' => LstA Q nn X E W.heap.size e w' ∧ Below W.heap.size W w') :
    Calls Try.prog 60 #[.agg #[.int .i64 9, .int .i64 r, .int .i64 c, s, sb, .int .u64 p]] w fun e w' => AnsD.post ⟨0, 0, 0, fun _ => small 0, nn, X, 0, 0, false, E⟩ Q w.heap.size e w' ∧ Below w.heap.size w w' := by
  obtain ⟨a, cap, rfl, -⟩ := hr.slice
  obtain ⟨ab, capb, rfl, -⟩ := hrb.slice
  obtain ⟨hx, hy, hz, hb, hs3⟩ := opBox w [.int .i64 9, .int .i64 r, .int .i64 c, .slice a n cap, .slice ab nb capb, .int .u64 p] 62 92
  have hcall := hcall _ hb
  have HC := Lib.hid hcall
  have HY := Lib.hid hy
  have HZ := Lib.hid hz
  have HB := Lib.hid hb
  have HS3 := Lib.hid hs3
  have x0 := hx 0 _ rfl
  have x1 := hx 1 _ rfl
  have x2 := hx 2 _ rfl
  have x3 := hx 3 _ rfl
  have x4 := hx 4 _ rfl
  have x5 := hx 5 _ rfl
  clear hr hrb hx hy hz hb hs3 hcall
  go_enter Try.func60, Try.ntmps60
  go_wp2_with fail
  refine HC.out.mono ?_
  rintro e w4 ⟨⟨s4, rfl, hfr⟩, hb4⟩
  rw [HS3.out] at hfr
  obtain ⟨a4, c4, rfl⟩ := hQ.slice hfr
  have HFR := Lib.hid hfr
  clear hfr
  have Y := fun i y h => cell_stays hb4 (HZ.out i y h).1
  have Yf := fun i y h => froz_stays hb4 (HZ.out i y h).1 (HZ.out i y h).2
  have Z := fun i y h => cell_stays hb4 (HY.out i y h).1
  have Zf := fun i y h => froz_stays hb4 (HY.out i y h).1 (HY.out i y h).2
  have y0 := Y 0 _ rfl
  have y1 := Y 1 _ rfl
  have y2 := Y 2 _ rfl
  have y3 := Y 3 _ rfl
  have y4 := Y 4 _ rfl
  have y5 := Y 5 _ rfl
  have y6 := Y 6 _ rfl
  have y7 := Y 7 _ rfl
  have f0 := Yf 0 _ rfl
  have f1 := Yf 1 _ rfl
  have f2 := Yf 2 _ rfl
  have f3 := Yf 3 _ rfl
  have f4 := Yf 4 _ rfl
  have f5 := Yf 5 _ rfl
  have f6 := Yf 6 _ rfl
  have f7 := Yf 7 _ rfl
  have z0 := Z 0 _ rfl
  have z1 := Z 1 _ rfl
  have z2 := Z 2 _ rfl
  have z3 := Z 3 _ rfl
  have z4 := Z 4 _ rfl
  have z5 := Z 5 _ rfl
  have z6 := Z 6 _ rfl
  have z7 := Z 7 _ rfl
  have k0 := Zf 0 _ rfl
  have k1 := Zf 1 _ rfl
  have k2 := Zf 2 _ rfl
  have k3 := Zf 3 _ rfl
  have k4 := Zf 4 _ rfl
  have k5 := Zf 5 _ rfl
  have k6 := Zf 6 _ rfl
  have k7 := Zf 7 _ rfl
  have HB4 := Lib.hid (HB.out.trans (hb4.mono HB.out.size))
  clear Y Yf Z Zf hb4 HY HZ HB HC x0 x1 x2 x3 x4 x5
  go_wp2_with fail
  refine bodyPost_ret (v := .agg #[.int .i64 0, .int .i64 0, .slice none 0 0, .slice a4 nn c4, .int .u64 0, .int .i64 0, .bool false, .int .i64 E]) ?_ rfl ⟨⟨_, _, rfl, hQ.nil, (by
    refine hQ.mono (base := w.heap.size + 3) ?_ (by omega)
    repeat (with_reducible refine hQ.set ?_ (by first | (simp; done) | (simp; omega)) _)
    exact HFR.out)⟩, ?_⟩
  · simp [results, Try.results60, go_sem, z0, z1, z2, z3, z4, z5, z6, z7]
  · repeat (with_reducible refine Below.setCell ?_ (by first | (simp; done) | (simp; omega)) _)
    exact HB4.out

end Go.Proofs.Ytdlpemmoobbgnaa

namespace Go.Proofs.Ytdlpemmoobbgnaa
open Go.RowKit

set_option maxHeartbeats 2000000 in
set_option maxRecDepth 100000 in
theorem wants12_3 {Q : World → Nat → Value → Nat → (Nat → Raw) → Prop} (hQ : KeepQ Q) (r c p : Int) (s : Value) (n : Nat) (x : Nat → Raw) (sb : Value) (nb : Nat) (b : Nat → Raw) (w : World) (hr : RdL w s n x) (hrb : RdL w sb nb b) (rr cc : Int) (nn : Nat) (X : Nat → Raw) (E : Int)
    (hcall : ∀ W, Below w.heap.size w W → Calls Try.prog 84 #[.agg #[.int .i64 r, .int .i64 c, s], .int .u64 p] W fun e w' => MatA Q rr cc nn X E W.heap.size e w' ∧ Below W.heap.size W w') :
    Calls Try.prog 59 #[.agg #[.int .i64 3, .int .i64 r, .int .i64 c, s, sb, .int .u64 p]] w fun e w' => AnsD.post ⟨rr, cc, nn, X, 0, fun _ => small 0, 0, 0, false, E⟩ Q w.heap.size e w' ∧ Below w.heap.size w w' := by
  obtain ⟨a, cap, rfl, -⟩ := hr.slice
  obtain ⟨ab, capb, rfl, -⟩ := hrb.slice
  obtain ⟨hx, hy, hz, hb, hs3⟩ := opBox w [.int .i64 3, .int .i64 r, .int .i64 c, .slice a n cap, .slice ab nb capb, .int .u64 p] 62 92
  have hcall := hcall _ hb
  have HC := Lib.hid hcall
  have HY := Lib.hid hy
  have HZ := Lib.hid hz
  have HB := Lib.hid hb
  have HS3 := Lib.hid hs3
  have x0 := hx 0 _ rfl
  have x1 := hx 1 _ rfl
  have x2 := hx 2 _ rfl
  have x3 := hx 3 _ rfl
  have x4 := hx 4 _ rfl
  have x5 := hx 5 _ rfl
  clear hr hrb hx hy hz hb hs3 hcall
  go_enter Try.func59, Try.ntmps59
  go_wp2_with fail
  refine HC.out.mono ?_
  rintro e w4 ⟨⟨s4, rfl, hfr⟩, hb4⟩
  rw [HS3.out] at hfr
  obtain ⟨a4, c4, rfl⟩ := hQ.slice hfr
  have HFR := Lib.hid hfr
  clear hfr
  have Y := fun i y h => cell_stays hb4 (HZ.out i y h).1
  have Yf := fun i y h => froz_stays hb4 (HZ.out i y h).1 (HZ.out i y h).2
  have Z := fun i y h => cell_stays hb4 (HY.out i y h).1
  have Zf := fun i y h => froz_stays hb4 (HY.out i y h).1 (HY.out i y h).2
  have y0 := Y 0 _ rfl
  have y1 := Y 1 _ rfl
  have y2 := Y 2 _ rfl
  have y3 := Y 3 _ rfl
  have y4 := Y 4 _ rfl
  have y5 := Y 5 _ rfl
  have y6 := Y 6 _ rfl
  have y7 := Y 7 _ rfl
  have f0 := Yf 0 _ rfl
  have f1 := Yf 1 _ rfl
  have f2 := Yf 2 _ rfl
  have f3 := Yf 3 _ rfl
  have f4 := Yf 4 _ rfl
  have f5 := Yf 5 _ rfl
  have f6 := Yf 6 _ rfl
  have f7 := Yf 7 _ rfl
  have z0 := Z 0 _ rfl
  have z1 := Z 1 _ rfl
  have z2 := Z 2 _ rfl
  have z3 := Z 3 _ rfl
  have z4 := Z 4 _ rfl
  have z5 := Z 5 _ rfl
  have z6 := Z 6 _ rfl
  have z7 := Z 7 _ rfl
  have k0 := Zf 0 _ rfl
  have k1 := Zf 1 _ rfl
  have k2 := Zf 2 _ rfl
  have k3 := Zf 3 _ rfl
  have k4 := Zf 4 _ rfl
  have k5 := Zf 5 _ rfl
  have k6 := Zf 6 _ rfl
  have k7 := Zf 7 _ rfl
  have HB4 := Lib.hid (HB.out.trans (hb4.mono HB.out.size))
  clear Y Yf Z Zf hb4 HY HZ HB HC x0 x1 x2 x3 x4 x5
  go_wp2_with fail
  refine bodyPost_ret (v := .agg #[.int .i64 rr, .int .i64 cc, .slice a4 nn c4, .slice none 0 0, .int .u64 0, .int .i64 0, .bool false, .int .i64 E]) ?_ rfl ⟨⟨_, _, rfl, (by
    refine hQ.mono (base := w.heap.size + 3) ?_ (by omega)
    repeat (with_reducible refine hQ.set ?_ (by first | (simp; done) | (simp; omega)) _)
    exact HFR.out), hQ.nil⟩, ?_⟩
  · simp [results, Try.results59, go_sem, z0, z1, z2, z3, z4, z5, z6, z7]
  · repeat (with_reducible refine Below.setCell ?_ (by first | (simp; done) | (simp; omega)) _)
    exact HB4.out

set_option maxHeartbeats 2000000 in
set_option maxRecDepth 100000 in
theorem wants12_4 {Q : World → Nat → Value → Nat → (Nat → Raw) → Prop} (hQ : KeepQ Q) (r c p : Int) (s : Value) (n : Nat) (x : Nat → Raw) (sb : Value) (nb : Nat) (b : Nat → Raw) (w : World) (hr : RdL w s n x) (hrb : RdL w sb nb b) (D E : Int)
    (hcall : ∀ W, Below w.heap.size w W → Calls Try.prog 85 #[.agg #[.int .i64 r, .int .i64 c, s], .int .u64 p] W fun e w' => e = .returned (.tuple #[.int .u64 D, .int .i64 E]) ∧ Below W.heap.size W w') :
    Calls Try.prog 59 #[.agg #[.int .i64 4, .int .i64 r, .int .i64 c, s, sb, .int .u64 p]] w fun e w' => AnsD.post ⟨0, 0, 0, fun _ => small 0, 0, fun _ => small 0, D, 0, false, E⟩ Q w.heap.size e w' ∧ Below w.heap.size w w' := by
  obtain ⟨a, cap, rfl, -⟩ := hr.slice
  obtain ⟨ab, capb, rfl, -⟩ := hrb.slice
  obtain ⟨hx, hy, hz, hb, hs3⟩ := opBox w [.int .i64 4, .int .i64 r, .int .i64 c, .slice a n cap, .slice ab nb capb, .int .u64 p] 62 92
  have hcall := hcall _ hb
  have HC := Lib.hid hcall
  have HY := Lib.hid hy
  have HZ := Lib.hid hz
  have HB := Lib.hid hb
  have HS3 := Lib.hid hs3
  have x0 := hx 0 _ rfl
  have x1 := hx 1 _ rfl
  have x2 := hx 2 _ rfl
  have x3 := hx 3 _ rfl
  have x4 := hx 4 _ rfl
  have x5 := hx 5 _ rfl
  clear hr hrb hx hy hz hb hs3 hcall
  go_enter Try.func59, Try.ntmps59
  go_wp2_with fail
  refine HC.out.mono ?_
  rintro e w4 ⟨rfl, hb4⟩
  have Y := fun i y h => cell_stays hb4 (HZ.out i y h).1
  have Yf := fun i y h => froz_stays hb4 (HZ.out i y h).1 (HZ.out i y h).2
  have Z := fun i y h => cell_stays hb4 (HY.out i y h).1
  have Zf := fun i y h => froz_stays hb4 (HY.out i y h).1 (HY.out i y h).2
  have y0 := Y 0 _ rfl
  have y1 := Y 1 _ rfl
  have y2 := Y 2 _ rfl
  have y3 := Y 3 _ rfl
  have y4 := Y 4 _ rfl
  have y5 := Y 5 _ rfl
  have y6 := Y 6 _ rfl
  have y7 := Y 7 _ rfl
  have f0 := Yf 0 _ rfl
  have f1 := Yf 1 _ rfl
  have f2 := Yf 2 _ rfl
  have f3 := Yf 3 _ rfl
  have f4 := Yf 4 _ rfl
  have f5 := Yf 5 _ rfl
  have f6 := Yf 6 _ rfl
  have f7 := Yf 7 _ rfl
  have z0 := Z 0 _ rfl
  have z1 := Z 1 _ rfl
  have z2 := Z 2 _ rfl
  have z3 := Z 3 _ rfl
  have z4 := Z 4 _ rfl
  have z5 := Z 5 _ rfl
  have z6 := Z 6 _ rfl
  have z7 := Z 7 _ rfl
  have k0 := Zf 0 _ rfl
  have k1 := Zf 1 _ rfl
  have k2 := Zf 2 _ rfl
  have k3 := Zf 3 _ rfl
  have k4 := Zf 4 _ rfl
  have k5 := Zf 5 _ rfl
  have k6 := Zf 6 _ rfl
  have k7 := Zf 7 _ rfl
  have HB4 := Lib.hid (HB.out.trans (hb4.mono HB.out.size))
  clear Y Yf Z Zf hb4 HY HZ HB HC x0 x1 x2 x3 x4 x5
  go_wp2_with fail
  refine bodyPost_ret (v := .agg #[.int .i64 0, .int .i64 0, .slice none 0 0, .slice none 0 0, .int .u64 D, .int .i64 0, .bool false, .int .i64 E]) ?_ rfl ⟨⟨_, _, rfl, hQ.nil, hQ.nil⟩, ?_⟩
  · simp [results, Try.results59, go_sem, z0, z1, z2, z3, z4, z5, z6, z7]
  · repeat (with_reducible refine Below.setCell ?_ (by first | (simp; done) | (simp; omega)) _)
    exact HB4.out

set_option maxHeartbeats 2000000 in
set_option maxRecDepth 100000 in
theorem wants12_5 {Q : World → Nat → Value → Nat → (Nat → Raw) → Prop} (hQ : KeepQ Q) (r c p : Int) (s : Value) (n : Nat) (x : Nat → Raw) (sb : Value) (nb : Nat) (b : Nat → Raw) (w : World) (hr : RdL w s n x) (hrb : RdL w sb nb b) (D E : Int)
    (hcall : ∀ W, Below w.heap.size w W → Calls Try.prog 86 #[.agg #[.int .i64 r, .int .i64 c, s], .int .u64 p] W fun e w' => e = .returned (.tuple #[.int .i64 D, .int .i64 E]) ∧ Below W.heap.size W w') :
    Calls Try.prog 59 #[.agg #[.int .i64 5, .int .i64 r, .int .i64 c, s, sb, .int .u64 p]] w fun e w' => AnsD.post ⟨0, 0, 0, fun _ => small 0, 0, fun _ => small 0, 0, D, false, E⟩ Q w.heap.size e w' ∧ Below w.heap.size w w' := by
  obtain ⟨a, cap, rfl, -⟩ := hr.slice
  obtain ⟨ab, capb, rfl, -⟩ := hrb.slice
  obtain ⟨hx, hy, hz, hb, hs3⟩ := opBox w [.int .i64 5, .int .i64 r, .int .i64 c, .slice a n cap, .slice ab nb capb, .int .u64 p] 62 92
  have hcall := hcall _ hb
  have HC := Lib.hid hcall
  have HY := Lib.hid hy
  have HZ := Lib.hid hz
  have HB := Lib.hid hb
  have HS3 := Lib.hid hs3
  have x0 := hx 0 _ rfl
  have x1 := hx 1 _ rfl
  have x2 := hx 2 _ rfl
  have x3 := hx 3 _ rfl
  have x4 := hx 4 _ rfl
  have x5 := hx 5 _ rfl
  clear hr hrb hx hy hz hb hs3 hcall
  go_enter Try.func59, Try.ntmps59
  go_wp2_with fail
  refine HC.out.mono ?_
  rintro e w4 ⟨rfl, hb4⟩
  have Y := fun i y h => cell_stays hb4 (HZ.out i y h).1
  have Yf := fun i y h => froz_stays hb4 (HZ.out i y h).1 (HZ.out i y h).2
  have Z := fun i y h => cell_stays hb4 (HY.out i y h).1
  have Zf := fun i y h => froz_stays hb4 (HY.out i y h).1 (HY.out i y h).2
  have y0 := Y 0 _ rfl
  have y1 := Y 1 _ rfl
  have y2 := Y 2 _ rfl
  have y3 := Y 3 _ rfl
  have y4 := Y 4 _ rfl
  have y5 := Y 5 _ rfl
  have y6 := Y 6 _ rfl
  have y7 := Y 7 _ rfl
  have f0 := Yf 0 _ rfl
  have f1 := Yf 1 _ rfl
  have f2 := Yf 2 _ rfl
  have f3 := Yf 3 _ rfl
  have f4 := Yf 4 _ rfl
  have f5 := Yf 5 _ rfl
  have f6 := Yf 6 _ rfl
  have f7 := Yf 7 _ rfl
  have z0 := Z 0 _ rfl
  have z1 := Z 1 _ rfl
  have z2 := Z 2 _ rfl
  have z3 := Z 3 _ rfl
  have z4 := Z 4 _ rfl
  have z5 := Z 5 _ rfl
  have z6 := Z 6 _ rfl
  have z7 := Z 7 _ rfl
  have k0 := Zf 0 _ rfl
  have k1 := Zf 1 _ rfl
  have k2 := Zf 2 _ rfl
  have k3 := Zf 3 _ rfl
  have k4 := Zf 4 _ rfl
  have k5 := Zf 5 _ rfl
  have k6 := Zf 6 _ rfl
  have k7 := Zf 7 _ rfl
  have HB4 := Lib.hid (HB.out.trans (hb4.mono HB.out.size))
  clear Y Yf Z Zf hb4 HY HZ HB HC x0 x1 x2 x3 x4 x5
  go_wp2_with fail
  refine bodyPost_ret (v := .agg #[.int .i64 0, .int .i64 0, .slice none 0 0, .slice none 0 0, .int .u64 0, .int .i64 D, .bool false, .int .i64 E]) ?_ rfl ⟨⟨_, _, rfl, hQ.nil, hQ.nil⟩, ?_⟩
  · simp [results, Try.results59, go_sem, z0, z1, z2, z3, z4, z5, z6, z7]
  · repeat (with_reducible refine Below.setCell ?_ (by first | (simp; done) | (simp; omega)) _)
    exact HB4.out

set_option maxHeartbeats 2000000 in
set_option maxRecDepth 100000 in
theorem wants12_6 {Q : World → Nat → Value → Nat → (Nat → Raw) → Prop} (hQ : KeepQ Q) (r c p : Int) (s : Value) (n : Nat) (x : Nat → Raw) (sb : Value) (nb : Nat) (b : Nat → Raw) (w : World) (hr : RdL w s n x) (hrb : RdL w sb nb b) (rr cc : Int) (nn : Nat) (X : Nat → Raw) (E : Int)
    (hcall : ∀ W, Below w.heap.size w W → Calls Try.prog 87 #[.agg #[.int .i64 r, .int .i64 c, s], .int .u64 p] W fun e w' => MatA Q rr cc nn X E W.heap.size e w' ∧ Below W.heap.size W w') :
    Calls Try.prog 59 #[.agg #[.int .i64 6, .int .i64 r, .int .i64 c, s, sb, .int .u64 p]] w fun e w' => AnsD.post ⟨rr, cc, nn, X, 0, fun _ => small 0, 0, 0, false, E⟩ Q w.heap.size e w' ∧ Below w.heap.size w w' := by
  obtain ⟨a, cap, rfl, -⟩ := hr.slice
  obtain ⟨ab, capb, rfl, -⟩ := hrb.slice
  obtain ⟨hx, hy, hz, hb, hs3⟩ := opBox w [.int .i64 6, .int .i64 r, .int .i64 c, .slice a n cap, .slice ab nb capb, .int .u64 p] 62 92
  have hcall := hcall _ hb
  have HC := Lib.hid hcall
  have HY := Lib.hid hy
  have HZ := Lib.hid hz
  have HB := Lib.hid hb
  have HS3 := Lib.hid hs3
  have x0 := hx 0 _ rfl
  have x1 := hx 1 _ rfl
  have x2 := hx 2 _ rfl
  have x3 := hx 3 _ rfl
  have x4 := hx 4 _ rfl
  have x5 := hx 5 _ rfl
  clear hr hrb hx hy hz hb hs3 hcall
  go_enter Try.func59, Try.ntmps59
  go_wp2_with fail
  refine HC.out.mono ?_
  rintro e w4 ⟨⟨s4, rfl, hfr⟩, hb4⟩
  rw [HS3.out] at hfr
  obtain ⟨a4, c4, rfl⟩ := hQ.slice hfr
  have HFR := Lib.hid hfr
  clear hfr
  have Y := fun i y h => cell_stays hb4 (HZ.out i y h).1
  have Yf := fun i y h => froz_stays hb4 (HZ.out i y h).1 (HZ.out i y h).2
  have Z := fun i y h => cell_stays hb4 (HY.out i y h).1
  have Zf := fun i y h => froz_stays hb4 (HY.out i y h).1 (HY.out i y h).2
  have y0 := Y 0 _ rfl
  have y1 := Y 1 _ rfl
  have y2 := Y 2 _ rfl
  have y3 := Y 3 _ rfl
  have y4 := Y 4 _ rfl
  have y5 := Y 5 _ rfl
  have y6 := Y 6 _ rfl
  have y7 := Y 7 _ rfl
  have f0 := Yf 0 _ rfl
  have f1 := Yf 1 _ rfl
  have f2 := Yf 2 _ rfl
  have f3 := Yf 3 _ rfl
  have f4 := Yf 4 _ rfl
  have f5 := Yf 5 _ rfl
  have f6 := Yf 6 _ rfl
  have f7 := Yf 7 _ rfl
  have z0 := Z 0 _ rfl
  have z1 := Z 1 _ rfl
  have z2 := Z 2 _ rfl
  have z3 := Z 3 _ rfl
  have z4 := Z 4 _ rfl
  have z5 := Z 5 _ rfl
  have z6 := Z 6 _ rfl
  have z7 := Z 7 _ rfl
  have k0 := Zf 0 _ rfl
  have k1 := Zf 1 _ rfl
  have k2 := Zf 2 _ rfl
  have k3 := Zf 3 _ rfl
  have k4 := Zf 4 _ rfl
  have k5 := Zf 5 _ rfl
  have k6 := Zf 6 _ rfl
  have k7 := Zf 7 _ rfl
  have HB4 := Lib.hid (HB.out.trans (hb4.mono HB.out.size))
  clear Y Yf Z Zf hb4 HY HZ HB HC x0 x1 x2 x3 x4 x5
  go_wp2_with fail
  refine bodyPost_ret (v := .agg #[.int .i64 rr, .int .i64 cc, .slice a4 nn c4, .slice none 0 0, .int .u64 0, .int .i64 0, .bool false, .int .i64 E]) ?_ rfl ⟨⟨_, _, rfl, (by
    refine hQ.mono (base := w.heap.size + 3) ?_ (by omega)
    repeat (with_reducible refine hQ.set ?_ (by first | (simp; done) | (simp; omega)) _)
    exact HFR.out), hQ.nil⟩, ?_⟩
  · simp [results, Try.results59, go_sem, z0, z1, z2, z3, z4, z5, z6, z7]
  · repeat (with_reducible refine Below.setCell ?_ (by first | (simp; done) | (simp; omega)) _)
    exact HB4.out

set_option maxHeartbeats 2000000 in
set_option maxRecDepth 100000 in
theorem wants12_7 {Q : World → Nat → Value → Nat → (Nat → Raw) → Prop} (hQ : KeepQ Q) (r c p : Int) (s : Value) (n : Nat) (x : Nat → Raw) (sb : Value) (nb : Nat) (b : Nat → Raw) (w : World) (hr : RdL w s n x) (hrb : RdL w sb nb b) (rr cc : Int) (nn : Nat) (X : Nat → Raw) (E : Int)
    (hcall : ∀ W, Below w.heap.size w W → Calls Try.prog 88 #[.agg #[.int .i64 r, .int .i64 c, s], .int .u64 p] W fun e w' => MatA Q rr cc nn X E W.heap.size e w' ∧ Below W.heap.size W w') :
    Calls Try.prog 59 #[.agg #[.int .i64 7, .int .i64 r, .int .i64 c, s, sb, .int .u64 p]] w fun e w' => AnsD.post ⟨rr, cc, nn, X, 0, fun _ => small 0, 0, 0, false, E⟩ Q w.heap.size e w' ∧ Below w.heap.size w w' := by
  obtain ⟨a, cap, rfl, -⟩ := hr.slice
  obtain ⟨ab, capb, rfl, -⟩ := hrb.slice
  obtain ⟨hx, hy, hz, hb, hs3⟩ := opBox w [.int .i64 7, .int .i64 r, .int .i64 c, .slice a n cap, .slice ab nb capb, .int .u64 p] 62 92
  have hcall := hcall _ hb
  have HC := Lib.hid hcall
  have HY := Lib.hid hy
  have HZ := Lib.hid hz
  have HB := Lib.hid hb
  have HS3 := Lib.hid hs3
  have x0 := hx 0 _ rfl
  have x1 := hx 1 _ rfl
  have x2 := hx 2 _ rfl
  have x3 := hx 3 _ rfl
  have x4 := hx 4 _ rfl
  have x5 := hx 5 _ rfl
  clear hr hrb hx hy hz hb hs3 hcall
  go_enter Try.func59, Try.ntmps59
  go_wp2_with fail
  refine HC.out.mono ?_
  rintro e w4 ⟨⟨s4, rfl, hfr⟩, hb4⟩
  rw [HS3.out] at hfr
  obtain ⟨a4, c4, rfl⟩ := hQ.slice hfr
  have HFR := Lib.hid hfr
  clear hfr
  have Y := fun i y h => cell_stays hb4 (HZ.out i y h).1
  have Yf := fun i y h => froz_stays hb4 (HZ.out i y h).1 (HZ.out i y h).2
  have Z := fun i y h => cell_stays hb4 (HY.out i y h).1
  have Zf := fun i y h => froz_stays hb4 (HY.out i y h).1 (HY.out i y h).2
  have y0 := Y 0 _ rfl
  have y1 := Y 1 _ rfl
  have y2 := Y 2 _ rfl
  have y3 := Y 3 _ rfl
  have y4 := Y 4 _ rfl
  have y5 := Y 5 _ rfl
  have y6 := Y 6 _ rfl
  have y7 := Y 7 _ rfl
  have f0 := Yf 0 _ rfl
  have f1 := Yf 1 _ rfl
  have f2 := Yf 2 _ rfl
  have f3 := Yf 3 _ rfl
  have f4 := Yf 4 _ rfl
  have f5 := Yf 5 _ rfl
  have f6 := Yf 6 _ rfl
  have f7 := Yf 7 _ rfl
  have z0 := Z 0 _ rfl
  have z1 := Z 1 _ rfl
  have z2 := Z 2 _ rfl
  have z3 := Z 3 _ rfl
  have z4 := Z 4 _ rfl
  have z5 := Z 5 _ rfl
  have z6 := Z 6 _ rfl
  have z7 := Z 7 _ rfl
  have k0 := Zf 0 _ rfl
  have k1 := Zf 1 _ rfl
  have k2 := Zf 2 _ rfl
  have k3 := Zf 3 _ rfl
  have k4 := Zf 4 _ rfl
  have k5 := Zf 5 _ rfl
  have k6 := Zf 6 _ rfl
  have k7 := Zf 7 _ rfl
  have HB4 := Lib.hid (HB.out.trans (hb4.mono HB.out.size))
  clear Y Yf Z Zf hb4 HY HZ HB HC x0 x1 x2 x3 x4 x5
  go_wp2_with fail
  refine bodyPost_ret (v := .agg #[.int .i64 rr, .int .i64 cc, .slice a4 nn c4, .slice none 0 0, .int .u64 0, .int .i64 0, .bool false, .int .i64 E]) ?_ rfl ⟨⟨_, _, rfl, (by
    refine hQ.mono (base := w.heap.size + 3) ?_ (by omega)
    repeat (with_reducible refine hQ.set ?_ (by first | (simp; done) | (simp; omega)) _)
    exact HFR.out), hQ.nil⟩, ?_⟩
  · simp [results, Try.results59, go_sem, z0, z1, z2, z3, z4, z5, z6, z7]
  · repeat (with_reducible refine Below.setCell ?_ (by first | (simp; done) | (simp; omega)) _)
    exact HB4.out

set_option maxHeartbeats 2000000 in
set_option maxRecDepth 100000 in
theorem wants12_8 {Q : World → Nat → Value → Nat → (Nat → Raw) → Prop} (hQ : KeepQ Q) (r c p : Int) (s : Value) (n : Nat) (x : Nat → Raw) (sb : Value) (nb : Nat) (b : Nat → Raw) (w : World) (hr : RdL w s n x) (hrb : RdL w sb nb b) (rr cc : Int) (nn : Nat) (X : Nat → Raw) (E : Int)
    (hcall : ∀ W, Below w.heap.size w W → Calls Try.prog 89 #[.agg #[.int .i64 r, .int .i64 c, s], .int .u64 p] W fun e w' => MatA Q rr cc nn X E W.heap.size e w' ∧ Below W.heap.size W w') :
    Calls Try.prog 59 #[.agg #[.int .i64 8, .int .i64 r, .int .i64 c, s, sb, .int .u64 p]] w fun e w' => AnsD.post ⟨rr, cc, nn, X, 0, fun _ => small 0, 0, 0, false, E⟩ Q w.heap.size e w' ∧ Below w.heap.size w w' := by
  obtain ⟨a, cap, rfl, -⟩ := hr.slice
  obtain ⟨ab, capb, rfl, -⟩ := hrb.slice
  obtain ⟨hx, hy, hz, hb, hs3⟩ := opBox w [.int .i64 8, .int .i64 r, .int .i64 c, .slice a n cap, .slice ab nb capb, .int .u64 p] 62 92
  have hcall := hcall _ hb
  have HC := Lib.hid hcall
  have HY := Lib.hid hy
  have HZ := Lib.hid hz
  have HB := Lib.hid hb
  have HS3 := Lib.hid hs3
  have x0 := hx 0 _ rfl
  have x1 := hx 1 _ rfl
  have x2 := hx 2 _ rfl
  have x3 := hx 3 _ rfl
  have x4 := hx 4 _ rfl
  have x5 := hx 5 _ rfl
  clear hr hrb hx hy hz hb hs3 hcall
  go_enter Try.func59, Try.ntmps59
  go_wp2_with fail
  refine HC.out.mono ?_
  rintro e w4 ⟨⟨s4, rfl, hfr⟩, hb4⟩
  rw [HS3.out] at hfr
  obtain ⟨a4, c4, rfl⟩ := hQ.slice hfr
  have HFR := Lib.hid hfr
  clear hfr
  have Y := fun i y h => cell_stays hb4 (HZ.out i y h).1
  have Yf := fun i y h => froz_stays hb4 (HZ.out i y h).1 (HZ.out i y h).2
  have Z := fun i y h => cell_stays hb4 (HY.out i y h).1
  have Zf := fun i y h => froz_stays hb4 (HY.out i y h).1 (HY.out i y h).2
  have y0 := Y 0 _ rfl
  have y1 := Y 1 _ rfl
  have y2 := Y 2 _ rfl
  have y3 := Y 3 _ rfl
  have y4 := Y 4 _ rfl
  have y5 := Y 5 _ rfl
  have y6 := Y 6 _ rfl
  have y7 := Y 7 _ rfl
  have f0 := Yf 0 _ rfl
  have f1 := Yf 1 _ rfl
  have f2 := Yf 2 _ rfl
  have f3 := Yf 3 _ rfl
  have f4 := Yf 4 _ rfl
  have f5 := Yf 5 _ rfl
  have f6 := Yf 6 _ rfl
  have f7 := Yf 7 _ rfl
  have z0 := Z 0 _ rfl
  have z1 := Z 1 _ rfl
  have z2 := Z 2 _ rfl
  have z3 := Z 3 _ rfl
  have z4 := Z 4 _ rfl
  have z5 := Z 5 _ rfl
  have z6 := Z 6 _ rfl
  have z7 := Z 7 _ rfl
  have k0 := Zf 0 _ rfl
  have k1 := Zf 1 _ rfl
  have k2 := Zf 2 _ rfl
  have k3 := Zf 3 _ rfl
  have k4 := Zf 4 _ rfl
  have k5 := Zf 5 _ rfl
  have k6 := Zf 6 _ rfl
  have k7 := Zf 7 _ rfl
  have HB4 := Lib.hid (HB.out.trans (hb4.mono HB.out.size))
  clear Y Yf Z Zf hb4 HY HZ HB HC x0 x1 x2 x3 x4 x5
  go_wp2_with fail
  refine bodyPost_ret (v := .agg #[.int .i64 rr, .int .i64 cc, .slice a4 nn c4, .slice none 0 0, .int .u64 0, .int .i64 0, .bool false, .int .i64 E]) ?_ rfl ⟨⟨_, _, rfl, (by
    refine hQ.mono (base := w.heap.size + 3) ?_ (by omega)
    repeat (with_reducible refine hQ.set ?_ (by first | (simp; done) | (simp; omega)) _)
    exact HFR.out), hQ.nil⟩, ?_⟩
  · simp [results, Try.results59, go_sem, z0, z1, z2, z3, z4, z5, z6, z7]
  · repeat (with_reducible refine Below.setCell ?_ (by first | (simp; done) | (simp; omega)) _)
    exact HB4.out

set_option maxHeartbeats 2000000 in
set_option maxRecDepth 100000 in
theorem wants12_9 {Q : World → Nat → Value → Nat → (Nat → Raw) → Prop} (hQ : KeepQ Q) (r c p : Int) (s : Value) (n : Nat) (x : Nat → Raw) (sb : Value) (nb : Nat) (b : Nat → Raw) (w : World) (hr : RdL w s n x) (hrb : RdL w sb nb b) (nn : Nat) (X : Nat → Raw) (E : Int)
    (hcall : ∀ W, Below w.heap.size w W → Calls Try.prog 90 #[.agg #[.int .i64 r, .int .i64 c, s], sb, .int .u64 p] W fun e w' => LstA Q nn X E W.heap.size e w' ∧ Below W.heap.size W w') :
    Calls Try.prog 59 #[.agg #[.int .i64 9, .int .i64 r, .int .i64 c, s, sb, .int .u64 p]] w fun e w' => AnsD.post ⟨0, 0, 0, fun _ => small 0, nn, X, 0, 0, false, E⟩ Q w.heap.size e w' ∧ Below w.heap.size w w' := by
  obtain ⟨a, cap, rfl, -⟩ := hr.slice
  obtain ⟨ab, capb, rfl, -⟩ := hrb.slice
  obtain ⟨hx, hy, hz, hb, hs3⟩ := opBox w [.int .i64 9, .int .i64 r, .int .i64 c, .slice a n cap, .slice ab nb capb, .int .u64 p] 62 92
  have hcall := hcall _ hb
  have HC := Lib.hid hcall
  have HY := Lib.hid hy
  have HZ := Lib.hid hz
  have HB := Lib.hid hb
  have HS3 := Lib.hid hs3
  have x0 := hx 0 _ rfl
  have x1 := hx 1 _ rfl
  have x2 := hx 2 _ rfl
  have x3 := hx 3 _ rfl
  have x4 := hx 4 _ rfl
  have x5 := hx 5 _ rfl
  clear hr hrb hx hy hz hb hs3 hcall
  go_enter Try.func59, Try.ntmps59
  go_wp2_with fail
  refine HC.out.mono ?_
  rintro e w4 ⟨⟨s4, rfl, hfr⟩, hb4⟩
  rw [HS3.out] at hfr
  obtain ⟨a4, c4, rfl⟩ := hQ.slice hfr
  have HFR := Lib.hid hfr
  clear hfr
  have Y := fun i y h => cell_stays hb4 (HZ.out i y h).1
  have Yf := fun i y h => froz_stays hb4 (HZ.out i y h).1 (HZ.out i y h).2
  have Z := fun i y h => cell_stays hb4 (HY.out i y h).1
  have Zf := fun i y h => froz_stays hb4 (HY.out i y h).1 (HY.out i y h).2
  have y0 := Y 0 _ rfl
  have y1 := Y 1 _ rfl
  have y2 := Y 2 _ rfl
  have y3 := Y 3 _ rfl
  have y4 := Y 4 _ rfl
  have y5 := Y 5 _ rfl
  have y6 := Y 6 _ rfl
  have y7 := Y 7 _ rfl
  have f0 := Yf 0 _ rfl
  have f1 := Yf 1 _ rfl
  have f2 := Yf 2 _ rfl
  have f3 := Yf 3 _ rfl
  have f4 := Yf 4 _ rfl
  have f5 := Yf 5 _ rfl
  have f6 := Yf 6 _ rfl
  have f7 := Yf 7 _ rfl
  have z0 := Z 0 _ rfl
  have z1 := Z 1 _ rfl
  have z2 := Z 2 _ rfl
  have z3 := Z 3 _ rfl
  have z4 := Z 4 _ rfl
  have z5 := Z 5 _ rfl
  have z6 := Z 6 _ rfl
  have z7 := Z 7 _ rfl
  have k0 := Zf 0 _ rfl
  have k1 := Zf 1 _ rfl
  have k2 := Zf 2 _ rfl
  have k3 := Zf 3 _ rfl
  have k4 := Zf 4 _ rfl
  have k5 := Zf 5 _ rfl
  have k6 := Zf 6 _ rfl
  have k7 := Zf 7 _ rfl
  have HB4 := Lib.hid (HB.out.trans (hb4.mono HB.out.size))
  clear Y Yf Z Zf hb4 HY HZ HB HC x0 x1 x2 x3 x4 x5
  go_wp2_with fail
  refine bodyPost_ret (v := .agg #[.int .i64 0, .int .i64 0, .slice none 0 0, .slice a4 nn c4, .int .u64 0, .int .i64 0, .bool false, .int .i64 E]) ?_ rfl ⟨⟨_, _, rfl, hQ.nil, (by
    refine hQ.mono (base := w.heap.size + 3) ?_ (by omega)
    repeat (with_reducible refine hQ.set ?_ (by first | (simp; done) | (simp; omega)) _)
    exact HFR.out)⟩, ?_⟩
  · simp [results, Try.results59, go_sem, z0, z1, z2, z3, z4, z5, z6, z7]
  · repeat (with_reducible refine Below.setCell ?_ (by first | (simp; done) | (simp; omega)) _)
    exact HB4.out

end Go.Proofs.Ytdlpemmoobbgnaa

namespace Go.Proofs.Ytdlpemmoobbgnaa
open Go.RowKit Go.ChangeShapes Go.WideShapes Go.Deep Go.Joins

/-- each slice in the datum weighs no more than the reach -/
def Fits {H : Type} (t : TypeId) (d : DataW H) : Prop := ∀ n ∈ d.weights Try.prog t, n ≤ reachBytes
theorem weights_all {H : Type} {e : TypeId} : ∀ {l : List (DataW H)} {d : DataW H}, d ∈ l → ∀ n ∈ d.weights Try.prog e, n ∈ DataW.weightsAll Try.prog e l
  | x :: r, d, hd, n, hn => by
    simp only [DataW.weightsAll, List.mem_append]
    rcases List.mem_cons.1 hd with rfl | h
    · exact Or.inl hn
    · exact Or.inr (weights_all h n hn)
theorem Fits.row {H : Type} {t e : TypeId} {n : Nat} {D : Nat → DataW H} {s : List (DataW H)} (ht : Try.prog.underlying t = some (.slice e)) (h : Fits t (.slice ((List.range n).map D) s)) : n * Try.prog.bytesOf e ≤ reachBytes ∧ ∀ i, i < n → Fits e (D i) := by
  unfold Fits at h
  simp only [DataW.weights, ht, List.length_map, List.length_range] at h
  refine ⟨Nat.le_trans (Nat.mul_le_mul_right _ (by omega)) (h _ (List.mem_cons_self ..)), fun i hi m hm => ?_⟩
  exact h m (List.mem_cons_of_mem _ (List.mem_append_left _ (weights_all (List.mem_map.2 ⟨i, List.mem_range.2 hi, rfl⟩) m hm)))
theorem Fits.part {H : Type} {t : TypeId} {fs : Array Field} {parts : List (DataW H)} (ht : Try.prog.underlying t = some (.struct fs)) (h : Fits t (.agg parts)) {j : Nat} {u : TypeId} {d : DataW H} (hu : (fs.toList.map (·.type))[j]? = some u) (hd : parts[j]? = some d) : Fits u d := fun n hn => by
  refine h n ?_
  simp only [DataW.weights, ht]
  exact DataW.weights_mem_each hu hd n hn

section
variable {H : Type} {enc : TypeId × Value → H} {w : World} {base : Nat} {spare : Nat → Bool} {held : Bool}

/-- one call of a script -/
structure OpV where
  k : Int
  r : Int
  c : Int
  p : Int
  s : Value
  n : Nat
  x : Nat → Raw
  sb : Value
  nb : Nat
  b : Nat → Raw
instance opB : Inhabited OpV := ⟨⟨0, 0, 0, 0, .bool false, 0, fun _ => ⟨false, 0, fun _ => 0⟩, .bool false, 0, fun _ => ⟨false, 0, fun _ => 0⟩⟩⟩
end
end Go.Proofs.Ytdlpemmoobbgnaa

namespace Go.Proofs.Ytdlpemmoobbgnaa
open Go.RowKit

section
variable (k r c p : Int) (hp : 0 ≤ p) (s : Value) (n : Nat) (x : Nat → Raw) (sb : Value) (nb : Nat) (b : Nat → Raw) (w : World) (hr : RdL w s n x) (hrb : RdL w sb nb b)
include hp hr hrb

end

end Go.Proofs.Ytdlpemmoobbgnaa
