/- The walks of trellisref05.Euclid, Mod. -/
import Derived.Test.YtdlpemmoobbgnaaR16
set_option linter.unusedVariables false
set_option linter.unusedSimpArgs false
namespace Go.Proofs.Ytdlpemmoobbgnaa
open Go.RowKit

/-- the state of Euclid: the divisor's box, two result boxes, quotient and rest in boxes Q and Q + 1 -/
structure EuS (w wr : World) (Q : Nat) (u0 u1 q0 q1 r0 r1 : Value) : Prop where
  p0 : wr.cell? ⟨w.heap.size + 1, 0, none⟩ = some u0
  p1 : wr.cell? ⟨w.heap.size + 1, 1, none⟩ = some u1
  t0 : wr.cell? ⟨w.heap.size + 1 + 1, 0, none⟩ = some (.bool false) ∧ wr.frozen? ⟨w.heap.size + 1 + 1, 0, none⟩ = false
  t1 : wr.cell? ⟨w.heap.size + 1 + 1, 1, none⟩ = some (.slice none 0 0) ∧ wr.frozen? ⟨w.heap.size + 1 + 1, 1, none⟩ = false
  z0 : wr.cell? ⟨w.heap.size + 1 + 1 + 1, 0, none⟩ = some (.bool false) ∧ wr.frozen? ⟨w.heap.size + 1 + 1 + 1, 0, none⟩ = false
  z1 : wr.cell? ⟨w.heap.size + 1 + 1 + 1, 1, none⟩ = some (.slice none 0 0) ∧ wr.frozen? ⟨w.heap.size + 1 + 1 + 1, 1, none⟩ = false
  q0 : wr.cell? ⟨Q, 0, none⟩ = some q0 ∧ wr.frozen? ⟨Q, 0, none⟩ = false
  q1 : wr.cell? ⟨Q, 1, none⟩ = some q1 ∧ wr.frozen? ⟨Q, 1, none⟩ = false
  r0 : wr.cell? ⟨Q + 1, 0, none⟩ = some r0 ∧ wr.frozen? ⟨Q + 1, 0, none⟩ = false
  r1 : wr.cell? ⟨Q + 1, 1, none⟩ = some r1 ∧ wr.frozen? ⟨Q + 1, 1, none⟩ = false
  below : Below w.heap.size w wr
  hQ : w.heap.size + 4 ≤ Q
  size : Q + 2 ≤ wr.heap.size

section
variable {w wr w' : World} {Q : Nat} {u0 u1 q0 q1 r0 r1 : Value}
theorem EuS.same (h : EuS w wr Q u0 u1 q0 q1 r0 r1) (hb : Below wr.heap.size wr w') : EuS w w' Q u0 u1 q0 q1 r0 r1 :=
  ⟨cell_stays hb h.p0, cell_stays hb h.p1, ⟨cell_stays hb h.t0.1, froz_stays hb h.t0.1 h.t0.2⟩, ⟨cell_stays hb h.t1.1, froz_stays hb h.t1.1 h.t1.2⟩, ⟨cell_stays hb h.z0.1, froz_stays hb h.z0.1 h.z0.2⟩, ⟨cell_stays hb h.z1.1, froz_stays hb h.z1.1 h.z1.2⟩,
    ⟨cell_stays hb h.q0.1, froz_stays hb h.q0.1 h.q0.2⟩, ⟨cell_stays hb h.q1.1, froz_stays hb h.q1.1 h.q1.2⟩, ⟨cell_stays hb h.r0.1, froz_stays hb h.r0.1 h.r0.2⟩, ⟨cell_stays hb h.r1.1, froz_stays hb h.r1.1 h.r1.2⟩,
    h.below.trans (hb.mono h.below.size), h.hQ, Nat.le_trans h.size hb.size⟩
theorem EuS.drew (h : EuS w wr Q u0 u1 q0 q1 r0 r1) : EuS w wr.drew Q u0 u1 q0 q1 r0 r1 := h.same ((Below.refl _ _).drew)

theorem two_froz (w : World) (a0 a1 c0 c1 : Value) (t : TypeId) : ((w.alloc (.cells #[a0, a1] t)).alloc (.cells #[c0, c1] t)).frozen? ⟨w.heap.size, 0, none⟩ = false ∧ ((w.alloc (.cells #[a0, a1] t)).alloc (.cells #[c0, c1] t)).frozen? ⟨w.heap.size, 1, none⟩ = false := by
  have k := cells2 w a0 a1 t
  have hb : Below (w.alloc (.cells #[a0, a1] t)).heap.size (w.alloc (.cells #[a0, a1] t)) ((w.alloc (.cells #[a0, a1] t)).alloc (.cells #[c0, c1] t)) := (Below.refl _ _).alloc (Nat.le_refl _) _
  exact ⟨froz_stays hb (k 0 _ rfl).1 (k 0 _ rfl).2, froz_stays hb (k 1 _ rfl).1 (k 1 _ rfl).2⟩

/-- a box other than b -/
theorem stored2_cell {w3 : World} {b : Nat} (u v : Value) {a : Addr} {y : Value} (h : w3.cell? a = some y) (ha : a.block ≠ b) : (stored2 w3 b u v).cell? a = some y := (stored2_gb w3 b u v).cell h (by intro e; injection e with e; exact ha e)
theorem stored2_froz {w3 : World} (b : Nat) (u v : Value) (a : Addr) : (stored2 w3 b u v).frozen? a = w3.frozen? a := by unfold stored2; rw [World.frozen?_setCell, World.frozen?_setCell]
theorem stored2_own {w3 : World} {b : Nat} (u v : Value) {y0 y1 : Value} (h0 : w3.cell? ⟨b, 0, none⟩ = some y0) (h1 : w3.cell? ⟨b, 1, none⟩ = some y1) : (stored2 w3 b u v).cell? ⟨b, 0, none⟩ = some u ∧ (stored2 w3 b u v).cell? ⟨b, 1, none⟩ = some v := by
  unfold stored2
  constructor
  · rw [World.cell?_setCell_other _ _ _ _ (by intro e; injection e with _ e _; omega)]
    exact World.cell?_setCell_same _ _ _ h0
  · refine World.cell?_setCell_same _ _ _ (u := y1) ?_
    rw [World.cell?_setCell_other _ _ _ _ (by intro e; injection e with _ e _; omega)]; exact h1

theorem EuS.putq (h : EuS w wr Q u0 u1 q0 q1 r0 r1) (u v : Value) : EuS w (stored2 wr Q u v) Q u0 u1 u v r0 r1 := by
  have hQ := h.hQ
  have c {a : Addr} {y : Value} (k : wr.cell? a = some y) (ha : a.block ≠ Q) := stored2_cell (b := Q) u v k ha
  have f {a : Addr} (k : wr.frozen? a = false) : (stored2 wr Q u v).frozen? a = false := by rw [stored2_froz]; exact k
  obtain ⟨o0, o1⟩ := stored2_own u v h.q0.1 h.q1.1
  exact ⟨c h.p0 (by simp; omega), c h.p1 (by simp; omega), ⟨c h.t0.1 (by simp; omega), f h.t0.2⟩, ⟨c h.t1.1 (by simp; omega), f h.t1.2⟩, ⟨c h.z0.1 (by simp; omega), f h.z0.2⟩, ⟨c h.z1.1 (by simp; omega), f h.z1.2⟩,
    ⟨o0, f h.q0.2⟩, ⟨o1, f h.q1.2⟩, ⟨c h.r0.1 (by simp), f h.r0.2⟩, ⟨c h.r1.1 (by simp), f h.r1.2⟩, stored2_below' h.below (by omega) u v, hQ, Nat.le_trans h.size (stored2_gb wr Q u v).size⟩
theorem EuS.putr (h : EuS w wr Q u0 u1 q0 q1 r0 r1) (u v : Value) : EuS w (stored2 wr (Q + 1) u v) Q u0 u1 q0 q1 u v := by
  have hQ := h.hQ
  have c {a : Addr} {y : Value} (k : wr.cell? a = some y) (ha : a.block ≠ Q + 1) := stored2_cell (b := Q + 1) u v k ha
  have f {a : Addr} (k : wr.frozen? a = false) : (stored2 wr (Q + 1) u v).frozen? a = false := by rw [stored2_froz]; exact k
  obtain ⟨o0, o1⟩ := stored2_own u v h.r0.1 h.r1.1
  exact ⟨c h.p0 (by simp; omega), c h.p1 (by simp; omega), ⟨c h.t0.1 (by simp; omega), f h.t0.2⟩, ⟨c h.t1.1 (by simp; omega), f h.t1.2⟩, ⟨c h.z0.1 (by simp; omega), f h.z0.2⟩, ⟨c h.z1.1 (by simp; omega), f h.z1.2⟩,
    ⟨c h.q0.1 (by simp), f h.q0.2⟩, ⟨c h.q1.1 (by simp), f h.q1.2⟩, ⟨o0, f h.r0.2⟩, ⟨o1, f h.r1.2⟩, stored2_below' h.below (by omega) u v, hQ, Nat.le_trans h.size (stored2_gb wr (Q + 1) u v).size⟩
end

theorem FrZ.stored' {w3 : World} {base : Nat} {v : Value} {z : Int} (h : FrZ w3 base v z) {b : Nat} (hb : b < base) (u v' : Value) : FrZ (stored2 w3 b u v') base v z := by
  obtain ⟨m, n, f, rfl, h1, h2⟩ := h
  exact ⟨m, n, f, rfl, stored2_fr' h1 hb u v', h2⟩

theorem emod_abs (x b : Int) : x % b = x % (b.natAbs : Int) := by
  rcases Int.natAbs_eq b with e | e
  · exact congrArg (x % ·) e
  · have h : x % b = x % (-(b.natAbs : Int)) := congrArg (x % ·) e
    rw [h, Int.emod_neg]
theorem tmod_abs (x b : Int) : x.tmod b = x.tmod (b.natAbs : Int) := by
  rcases Int.natAbs_eq b with e | e
  · exact congrArg (x.tmod ·) e
  · have h : x.tmod b = x.tmod (-(b.natAbs : Int)) := congrArg (x.tmod ·) e
    rw [h, Int.tmod_neg]
theorem tmod_emod (a b : Int) : a % b = a.tmod b % b := by
  have h1 := Int.mul_tdiv_add_tmod a b
  have : a = a.tmod b + b * a.tdiv b := by omega
  conv => lhs; rw [this, Int.add_mul_emod_self_left]
/-- what lies in another block stays -/
theorem eu_keep {w9 : World} {base b : Nat} {u : Bool} {a : Option Addr} {n c : Nat} {z : Int} (h : FrZ w9 base (.agg #[.bool u, .slice a n c]) z) (hb : ∀ k, (Value.slice a n c).ownBlock = some k → k < b) (x y : Value) : FrZ (stored2 w9 b x y) base (.agg #[.bool u, .slice a n c]) z := by
  obtain ⟨m, n', f, e, h1, h2⟩ := h
  simp only [Value.agg.injEq, Array.mk.injEq, List.cons.injEq, Value.bool.injEq, and_true] at e
  obtain ⟨rfl, rfl⟩ := e
  refine ⟨_, n', f, rfl, h1.grown (stored2_gb w9 b x y) ?_, h2⟩
  cases hv : (Value.slice a n c).ownBlock with
  | none => exact Or.inl rfl
  | some k => right; have := hb k hv; intro e; injection e with e; omega

/-- quotient and rest handed out -/
theorem eu_out {w w6 : World} {q0 r0 : Bool} {q1 r1 : Value} {qz rz : Int} (hq : FrZ w6 (w.heap.size + 4) (.agg #[.bool q0, q1]) qz) (hr : FrZ w6 (w.heap.size + 4) (.agg #[.bool r0, r1]) rz) (hb : Below w.heap.size w w6) :
    FrZ (stored2 (stored2 w6.drew (w.heap.size + 1 + 1) (.bool q0) q1) (w.heap.size + 1 + 1 + 1) (.bool r0) r1) w.heap.size (.agg #[.bool q0, q1]) qz ∧
    FrZ (stored2 (stored2 w6.drew (w.heap.size + 1 + 1) (.bool q0) q1) (w.heap.size + 1 + 1 + 1) (.bool r0) r1) w.heap.size (.agg #[.bool r0, r1]) rz ∧
    Below w.heap.size w (stored2 (stored2 w6.drew (w.heap.size + 1 + 1) (.bool q0) q1) (w.heap.size + 1 + 1 + 1) (.bool r0) r1) := by
  have hd := (Below.refl w6.heap.size w6).drew
  exact ⟨(((hq.below hd).stored' (by omega) _ _).stored' (by omega) _ _).mono (by omega), (((hr.below hd).stored' (by omega) _ _).stored' (by omega) _ _).mono (by omega),
    stored2_below' (stored2_below' hb.drew (by omega) _ _) (by omega) _ _⟩

/-- quotient and rest by the sign of the rest -/
theorem euclid_ge {a b : Int} (hb : b ≠ 0) (h : 0 ≤ a.tmod b) : a.tmod b = a % b := by
  have h2 := Int.tmod_lt_of_pos a (show 0 < (b.natAbs : Int) by omega)
  rw [← tmod_abs] at h2
  rw [tmod_emod, emod_abs]
  exact (Int.emod_eq_of_lt h h2).symm
theorem euclid_lt {a b : Int} (hb : b ≠ 0) (h : a.tmod b < 0) : a.tmod b + (b.natAbs : Int) = a % b := by
  have h2 := Int.tmod_lt_of_pos (-a) (show 0 < (b.natAbs : Int) by omega)
  rw [← tmod_abs, Int.neg_tmod] at h2
  rw [tmod_emod, emod_abs, ← Int.add_emod_right]
  exact (Int.emod_eq_of_lt (by omega) (by omega)).symm

theorem One_any (w : World) : Calls Try.prog 103 #[.int .i64 1] w fun e w' => ∃ a n c, e = .returned (.agg #[.bool false, .slice a n c]) ∧ RdZ w' (.agg #[.bool false, .slice a n c]) 1 ∧ Below w.heap.size w w' := by
  refine (Of05_any 1 (by omega) (by omega) w).mono ?_
  rintro e w' ⟨v, rfl, hz, hb⟩
  have hr := hz.rd (S := 1) (by unfold ZB; decide) (by omega)
  obtain ⟨m, n, f, rfl, h1, h2⟩ := hz
  obtain ⟨a, c, rfl⟩ := h1.slice
  exact ⟨a, n, c, rfl, hr, hb⟩

set_option maxHeartbeats 4000000 in
theorem Euclid_any (x y : Value) (a b : Int) (w : World) (hb0 : b ≠ 0) (hx : RdZ w x a) (hy : RdZ w y b) :
    Calls Try.prog 76 #[x, y] w fun e w' => ∃ v1 v2 z1, e = .returned (.tuple #[v1, v2, .int .i64 0]) ∧ FrZ w' w.heap.size v1 z1 ∧ FrZ w' w.heap.size v2 (a % b) ∧ Below w.heap.size w w' := by
  obtain ⟨S, hS, hzb⟩ := hx.zb
  obtain ⟨T, hT, hzT⟩ : ∃ T, T ≤ 274877906944 ∧ ZB T (b.natAbs : Int) := by
    obtain ⟨T, h1, h2⟩ := hy.zb
    exact ⟨T, h1, by unfold ZB at *; omega⟩
  obtain ⟨p, am, n, cm, f, rfl, -⟩ := hx.parts
  obtain ⟨q, al, m, cl, g, rfl, -⟩ := hy.parts
  obtain ⟨⟨x0, x1, y0, y1, t0, t1, t2, t3, z0, z1, z2, z3⟩, hb, hs4⟩ := boxes4f w (.bool p) (.slice am n cm) (.bool q) (.slice al m cl) (.bool false) (.slice none 0 0) (.bool false) (.slice none 0 0) 56
  have hrb : ZB S (a.tmod b) := by
    unfold ZB at *
    have : (a.tmod b).natAbs ≤ a.natAbs := by rw [Int.natAbs_tmod]; exact Nat.mod_le _ _
    omega
  have hqb : ZB S (a.tdiv b) := by
    unfold ZB at *
    have : (a.tdiv b).natAbs ≤ a.natAbs := by rw [Int.natAbs_tdiv]; exact Nat.div_le_self _ _
    omega
  have HTR := Lib.hid (Trunc_any _ _ a b _ hb0 (hx.below hb) (hy.below hb))
  have HYW := Lib.hid hy
  have HBB := Lib.hid (And.intro hT hzT)
  clear hT hzT
  have HB := Lib.hid hb
  have HS4 := Lib.hid hs4
  have HRB := Lib.hid hrb
  have HQB := Lib.hid hqb
  have HGE := Lib.hid (fun h => euclid_ge (a := a) hb0 h)
  have HLT := Lib.hid (fun h => euclid_lt (a := a) hb0 h)
  clear hx hy hb hs4 hrb hqb hzb
  generalize a % b = rr at *
  generalize a.tdiv b = qz at *
  generalize a.tmod b = rz at *
  go_enter Try.func76, Try.ntmps76
  go_wp2_with fail
  refine HTR.out.mono ?_
  rintro e w4 ⟨v1, v2, rfl, ⟨m1, n1, f1, rfl, h1, d1⟩, ⟨m2, n2, f2, rfl, h2, d2⟩, hb4⟩
  obtain ⟨a1, c1, rfl⟩ := h1.slice
  obtain ⟨a2, c2, rfl⟩ := h2.slice
  have hw5 := boxes2 w4 (.bool (decide (qz < 0))) (.slice a1 n1 c1) (.bool (decide (rz < 0))) (.slice a2 n2 c2) 56
  obtain ⟨⟨k0, k1, k2, k3, k4, k5⟩, hb5, hs5⟩ := hw5
  have hfq : FrZ w4 (w.heap.size + 4) (.agg #[.bool (decide (qz < 0)), .slice a1 n1 c1]) qz := ⟨_, n1, f1, rfl, h1.mono (by rw [HS4.out]; omega), d1⟩
  have hfr : FrZ w4 (w.heap.size + 4) (.agg #[.bool (decide (rz < 0)), .slice a2 n2 c2]) rz := ⟨_, n2, f2, rfl, h2.mono (by rw [HS4.out]; omega), d2⟩
  have hb45 := hb4.trans (hb5.mono hb4.size)
  have hsz4 := hb4.size
  rw [HS4.out] at hsz4
  have k6 := two_froz w4 (.bool (decide (qz < 0))) (.slice a1 n1 c1) (.bool (decide (rz < 0))) (.slice a2 n2 c2) 56
  have heu : EuS w ((w4.alloc (.cells #[.bool (decide (qz < 0)), .slice a1 n1 c1] 56)).alloc (.cells #[.bool (decide (rz < 0)), .slice a2 n2 c2] 56)) w4.heap.size (.bool q) (.slice al m cl) (.bool (decide (qz < 0))) (.slice a1 n1 c1) (.bool (decide (rz < 0))) (.slice a2 n2 c2) :=
    ⟨cell_stays hb45 y0, cell_stays hb45 y1, ⟨cell_stays hb45 t0, froz_stays hb45 t0 t2⟩, ⟨cell_stays hb45 t1, froz_stays hb45 t1 t3⟩, ⟨cell_stays hb45 z0, froz_stays hb45 z0 z2⟩, ⟨cell_stays hb45 z1, froz_stays hb45 z1 z3⟩,
      ⟨k0, k6.1⟩, ⟨k1, k6.2⟩, ⟨k2, k4⟩, ⟨k3, k5⟩, HB.out.trans (hb45.mono HB.out.size), hsz4, by rw [hs5]; omega⟩
  have HFQ := Lib.hid (hfq.below hb5)
  have HFR := Lib.hid (hfr.below hb5)
  have HR0 : Hid (∀ k, (Value.slice a2 n2 c2).ownBlock = some k → k < w4.heap.size) := fun k hk => (h2.lt hk).2
  have HEU := Lib.hid heu
  clear x0 x1 y0 y1 t0 t1 t2 t3 z0 z1 z2 z3 k0 k1 k2 k3 k4 k5 k6 hb5 hs5 hfq hfr hb45 heu hb4 HTR HB HS4 h1 h2 d1 d2 hsz4
  by_cases hge : 0 ≤ rz
  · have hsg := Sign_any _ _ _ (HFR.out.rd HRB.out hS)
    have hsn : Hid (0 ≤ sgn rz) := by show _ ≤ _; unfold sgn; split <;> (try split) <;> omega
    have hrr : Hid (rz = rr) := HGE.out hge
    generalize sgn rz = sg at hsg hsn
    have hsn' := hsn.out
    have HSG := Lib.hid hsg
    clear hsg HGE HLT hge
    go_wp2_with fail
    refine HSG.out.mono ?_
    rintro e w6 ⟨rfl, hb6⟩
    have heu := HEU.out.same hb6
    have HFQ := Lib.hid (HFQ.out.below hb6)
    have HFR := Lib.hid (HFR.out.below hb6)
    obtain ⟨p0, p1, ⟨t0, t0'⟩, ⟨t1, t1'⟩, ⟨z0, z0'⟩, ⟨z1, z1'⟩, ⟨k0, k0'⟩, ⟨k1, k1'⟩, ⟨k2, k2'⟩, ⟨k3, k3'⟩, hbw, hQw, hsQ⟩ := heu
    have hfin := eu_out HFQ.out HFR.out hbw
    have HFIN := Lib.hid hfin
    clear HSG HEU hb6
    go_wp2_with fail
    go_region
    all_goals
      go_wp2_with fail
      refine bodyPost_ret (v := .tuple #[.agg #[.bool (decide (qz < 0)), .slice a1 n1 c1], .agg #[.bool (decide (rz < 0)), .slice a2 n2 c2], .int .i64 0]) ?_ rfl ⟨_, _, qz, rfl, HFIN.out.1, by rw [← hrr.out]; exact HFIN.out.2.1, HFIN.out.2.2⟩
      simp [results, Try.results76, go_sem, t0, t1, z0, z1]
  · have hsg := Sign_any _ _ _ (HFR.out.rd HRB.out hS)
    have hsn : sgn rz < 0 := by unfold sgn; split <;> (try split) <;> omega
    have hrr : Hid (rz + (b.natAbs : Int) = rr) := HLT.out (by omega)
    have HSB := Lib.hid (fun (W : World) (h : RdZ W (.agg #[.bool q, .slice al m cl]) b) => Sign_any _ _ W h)
    generalize sgn rz = sg at hsg hsn
    have HSG := Lib.hid hsg
    clear hsg HGE HLT hge
    by_cases hbp : 0 < b
    · have hsb : 0 < sgn b := by unfold sgn; split <;> (try split) <;> omega
      generalize sgn b = sb at hsb HSB
      go_upto_region 5 with (go_at_call 102; first
        | ((with_reducible refine HSG.out.mono ?_); rintro e w6 ⟨rfl, hb6⟩; have HEU := Lib.hid (HEU.out.same hb6); have HFQ := Lib.hid (HFQ.out.below hb6); have HFR := Lib.hid (HFR.out.below hb6); have p0 := HEU.out.p0; have p1 := HEU.out.p1)
        | (refine (HSB.out _ (HYW.out.below HEU.out.below)).mono ?_; rintro e w7 ⟨rfl, hb7⟩; have HEU := Lib.hid (HEU.out.same hb7); have HFQ := Lib.hid (HFQ.out.below hb7); have HFR := Lib.hid (HFR.out.below hb7)))
      obtain ⟨-, -, -, -, -, -, ⟨k0, k0'⟩, ⟨k1, k1'⟩, -, -, -, -, -⟩ := HEU.out
      have cm1 := One_any w7.drew
      have CM1 := Lib.hid cm1
      clear cm1 p0 p1
      go_cut [] (fun wx => ∃ (qz2 : Int) (aq : Option Addr) (nq cq : Nat), EuS w wx w4.heap.size (.bool q) (.slice al m cl) (.bool (decide (qz2 < 0))) (.slice aq nq cq) (.bool (decide (rz < 0))) (.slice a2 n2 c2) ∧ FrZ wx (w4.heap.size + 2) (.agg #[.bool (decide (qz2 < 0)), .slice aq nq cq]) qz2 ∧ FrZ wx (w.heap.size + 4) (.agg #[.bool (decide (rz < 0)), .slice a2 n2 c2]) rz)
      case first =>
        go_region_with ((first
          | (go_at_call 103; (with_reducible refine CM1.out.mono ?_); rintro e w8 ⟨a8, n8, c8, rfl, hz8, hb8⟩; have hb78 : Below w7.heap.size w7 w8 := ((Below.refl w7.heap.size w7).drew).trans hb8; have cm2 := Sub05_any _ _ _ _ _ ((HFQ.out.below hb78).rd HQB.out hS) hz8; have CM2 := Lib.hid cm2; clear cm2 hz8; have k0 := cell_stays hb78 k0; have k1 := cell_stays hb78 k1)
          | (go_at_call 32; (with_reducible refine CM2.out.mono ?_); rintro e w9 ⟨v9, rfl, ⟨m9, n9, f9, rfl, h9, d9⟩, hb9⟩; obtain ⟨a9, c9, rfl⟩ := h9.slice; have hb79 : Below w7.heap.size w7 w9 := hb78.trans (hb9.mono hb78.size); have HE9 := Lib.hid (HEU.out.same hb79); obtain ⟨-, -, -, -, -, -, ⟨k0, k0'⟩, ⟨k1, k1'⟩, -, -, -, -, -⟩ := HE9.out)))
        all_goals
          have g1 := HE9.out.putq (.bool (decide (qz - 1 < 0))) (.slice a9 n9 c9)
          have hs7 := HEU.out.size
          have g2 : FrZ (stored2 w9 w4.heap.size (.bool (decide (qz - 1 < 0))) (.slice a9 n9 c9)) (w4.heap.size + 2) (.agg #[.bool (decide (qz - 1 < 0)), .slice a9 n9 c9]) (qz - 1) := FrZ.stored' ⟨_, n9, f9, rfl, h9.mono (by have := hb78.size; omega), d9⟩ (b := w4.heap.size) (by omega) (.bool (decide (qz - 1 < 0))) (.slice a9 n9 c9)
          have g3 : FrZ (stored2 w9 w4.heap.size (.bool (decide (qz - 1 < 0))) (.slice a9 n9 c9)) (w.heap.size + 4) (.agg #[.bool (decide (rz < 0)), .slice a2 n2 c2]) rz := eu_keep (HFR.out.below hb79) HR0.out _ _
          have G := Lib.hid (And.intro g1 (And.intro g2 g3))
          clear g1 g2 g3 h9 d9 hb8 hb9 hb78 hb79
          go_wp2_with fail
          go_meet
          exact ⟨qz - 1, a9, n9, c9, G.out⟩
      case rest =>
        clear HFQ HEU HFR k0 k0' k1 k1' CM1 HSG HSB
        obtain ⟨qz2, aq, nq, cq, heu, hfq, hfr⟩ := hcut
        have HEU := Lib.hid heu
        have HFQ := Lib.hid hfq
        have HFR := Lib.hid hfr
        obtain ⟨p0, p1, -, -, -, -, -, -, ⟨k2, k2'⟩, ⟨k3, k3'⟩, -, -, -⟩ := heu
        clear hfq hfr
        have cm1 := Abs05_any _ _ _ ((HYW.out.below HEU.out.below).below (Below.refl wc.heap.size wc).drew)
        have CM1 := Lib.hid cm1
        clear cm1
        go_upto_region 7 with fail
        go_cut [] (fun wx => ∃ (ar : Option Addr) (nr cr : Nat), EuS w wx w4.heap.size (.bool q) (.slice al m cl) (.bool (decide (qz2 < 0))) (.slice aq nq cq) (.bool (decide ((rz + (b.natAbs : Int)) < 0))) (.slice ar nr cr) ∧ FrZ wx (w.heap.size + 4) (.agg #[.bool (decide (qz2 < 0)), .slice aq nq cq]) qz2 ∧ FrZ wx (w.heap.size + 4) (.agg #[.bool (decide ((rz + (b.natAbs : Int)) < 0)), .slice ar nr cr]) (rz + (b.natAbs : Int)))
        case first =>
          go_region_with ((first
            | (go_at_call 104; (with_reducible refine CM1.out.mono ?_); rintro e w8 ⟨v8, rfl, hz8, hb8⟩; have hb78 : Below wc.heap.size wc w8 := ((Below.refl wc.heap.size wc).drew).trans hb8; have cm2 := Add05_any _ _ _ _ _ ((HFR.out.below hb78).rd HRB.out hS) (hz8.rd HBB.out.2 HBB.out.1); obtain ⟨m8, n8, f8, rfl, h8, d8⟩ := hz8; obtain ⟨a8, c8, rfl⟩ := h8.slice; have CM2 := Lib.hid cm2; clear cm2 h8 d8; have k2 := cell_stays hb78 k2; have k3 := cell_stays hb78 k3)
            | (go_at_call 58; (with_reducible refine CM2.out.mono ?_); rintro e w9 ⟨v9, rfl, ⟨m9, n9, f9, rfl, h9, d9⟩, hb9⟩; obtain ⟨a9, c9, rfl⟩ := h9.slice; have hb79 : Below wc.heap.size wc w9 := hb78.trans (hb9.mono hb78.size); have HE9 := Lib.hid (HEU.out.same hb79); obtain ⟨-, -, -, -, -, -, -, -, ⟨k2, k2'⟩, ⟨k3, k3'⟩, -, -, -⟩ := HE9.out)))
          all_goals
            have g1 := HE9.out.putr (.bool (decide ((rz + (b.natAbs : Int)) < 0))) (.slice a9 n9 c9)
            have hs7 := HEU.out.size
            have hQ7 := HEU.out.hQ
            have g2 : FrZ (stored2 w9 (w4.heap.size + 1) (.bool (decide ((rz + (b.natAbs : Int)) < 0))) (.slice a9 n9 c9)) (w4.heap.size + 2) (.agg #[.bool (decide ((rz + (b.natAbs : Int)) < 0)), .slice a9 n9 c9]) (rz + (b.natAbs : Int)) := FrZ.stored' ⟨_, n9, f9, rfl, h9.mono (by have := hb78.size; omega), d9⟩ (b := w4.heap.size + 1) (by omega) (.bool (decide ((rz + (b.natAbs : Int)) < 0))) (.slice a9 n9 c9)
            have g3 : FrZ (stored2 w9 (w4.heap.size + 1) (.bool (decide ((rz + (b.natAbs : Int)) < 0))) (.slice a9 n9 c9)) (w4.heap.size + 2) (.agg #[.bool (decide (qz2 < 0)), .slice aq nq cq]) qz2 := (HFQ.out.below hb79).stored' (by omega) _ _
            have G := Lib.hid (And.intro g1 (And.intro (g3.mono (show w.heap.size + 4 ≤ w4.heap.size + 2 by omega)) (g2.mono (show w.heap.size + 4 ≤ w4.heap.size + 2 by omega))))
            clear g1 g2 g3 h9 d9 hb8 hb9 hb78 hb79
            go_wp2_with fail
            go_meet
            exact ⟨a9, n9, c9, G.out⟩
        case rest =>
          clear HFQ HEU HFR p0 p1 k2 k2' k3 k3' CM1
          obtain ⟨ar, nr, cr, heu, hfq, hfr⟩ := hcut
          rw [hrr.out] at heu hfr
          have HFQ := Lib.hid hfq
          have HFR := Lib.hid hfr
          obtain ⟨-, -, ⟨t0, t0'⟩, ⟨t1, t1'⟩, ⟨z0, z0'⟩, ⟨z1, z1'⟩, ⟨k0, k0'⟩, ⟨k1, k1'⟩, ⟨k2, k2'⟩, ⟨k3, k3'⟩, hbw, hQw, hsQ⟩ := heu
          have hfin := eu_out HFQ.out HFR.out hbw
          have HFIN := Lib.hid hfin
          clear hfq hfr hfin
          go_wp2_with fail
          go_region
          all_goals
            go_wp2_with fail
            refine bodyPost_ret (v := .tuple #[.agg #[.bool (decide (qz2 < 0)), .slice aq nq cq], .agg #[.bool (decide (rr < 0)), .slice ar nr cr], .int .i64 0]) ?_ rfl ⟨_, _, qz2, rfl, HFIN.out.1, HFIN.out.2.1, HFIN.out.2.2⟩
            simp [results, Try.results76, go_sem, t0, t1, z0, z1]
    · have hsb : sgn b < 0 := by unfold sgn; split <;> (try split) <;> omega
      generalize sgn b = sb at hsb HSB
      go_upto_region 6 with (go_at_call 102; first
        | ((with_reducible refine HSG.out.mono ?_); rintro e w6 ⟨rfl, hb6⟩; have HEU := Lib.hid (HEU.out.same hb6); have HFQ := Lib.hid (HFQ.out.below hb6); have HFR := Lib.hid (HFR.out.below hb6); have p0 := HEU.out.p0; have p1 := HEU.out.p1)
        | (refine (HSB.out _ (HYW.out.below HEU.out.below)).mono ?_; rintro e w7 ⟨rfl, hb7⟩; have HEU := Lib.hid (HEU.out.same hb7); have HFQ := Lib.hid (HFQ.out.below hb7); have HFR := Lib.hid (HFR.out.below hb7)))
      obtain ⟨-, -, -, -, -, -, ⟨k0, k0'⟩, ⟨k1, k1'⟩, -, -, -, -, -⟩ := HEU.out
      have cm1 := One_any w7.drew
      have CM1 := Lib.hid cm1
      clear cm1 p0 p1
      go_cut [] (fun wx => ∃ (qz2 : Int) (aq : Option Addr) (nq cq : Nat), EuS w wx w4.heap.size (.bool q) (.slice al m cl) (.bool (decide (qz2 < 0))) (.slice aq nq cq) (.bool (decide (rz < 0))) (.slice a2 n2 c2) ∧ FrZ wx (w4.heap.size + 2) (.agg #[.bool (decide (qz2 < 0)), .slice aq nq cq]) qz2 ∧ FrZ wx (w.heap.size + 4) (.agg #[.bool (decide (rz < 0)), .slice a2 n2 c2]) rz)
      case first =>
        go_region_with ((first
          | (go_at_call 103; (with_reducible refine CM1.out.mono ?_); rintro e w8 ⟨a8, n8, c8, rfl, hz8, hb8⟩; have hb78 : Below w7.heap.size w7 w8 := ((Below.refl w7.heap.size w7).drew).trans hb8; have cm2 := Add05_any _ _ _ _ _ ((HFQ.out.below hb78).rd HQB.out hS) hz8; have CM2 := Lib.hid cm2; clear cm2 hz8; have k0 := cell_stays hb78 k0; have k1 := cell_stays hb78 k1)
          | (go_at_call 58; (with_reducible refine CM2.out.mono ?_); rintro e w9 ⟨v9, rfl, ⟨m9, n9, f9, rfl, h9, d9⟩, hb9⟩; obtain ⟨a9, c9, rfl⟩ := h9.slice; have hb79 : Below w7.heap.size w7 w9 := hb78.trans (hb9.mono hb78.size); have HE9 := Lib.hid (HEU.out.same hb79); obtain ⟨-, -, -, -, -, -, ⟨k0, k0'⟩, ⟨k1, k1'⟩, -, -, -, -, -⟩ := HE9.out)))
        all_goals
          have g1 := HE9.out.putq (.bool (decide (qz + 1 < 0))) (.slice a9 n9 c9)
          have hs7 := HEU.out.size
          have g2 : FrZ (stored2 w9 w4.heap.size (.bool (decide (qz + 1 < 0))) (.slice a9 n9 c9)) (w4.heap.size + 2) (.agg #[.bool (decide (qz + 1 < 0)), .slice a9 n9 c9]) (qz + 1) := FrZ.stored' ⟨_, n9, f9, rfl, h9.mono (by have := hb78.size; omega), d9⟩ (b := w4.heap.size) (by omega) (.bool (decide (qz + 1 < 0))) (.slice a9 n9 c9)
          have g3 : FrZ (stored2 w9 w4.heap.size (.bool (decide (qz + 1 < 0))) (.slice a9 n9 c9)) (w.heap.size + 4) (.agg #[.bool (decide (rz < 0)), .slice a2 n2 c2]) rz := eu_keep (HFR.out.below hb79) HR0.out _ _
          have G := Lib.hid (And.intro g1 (And.intro g2 g3))
          clear g1 g2 g3 h9 d9 hb8 hb9 hb78 hb79
          go_wp2_with fail
          go_meet
          exact ⟨qz + 1, a9, n9, c9, G.out⟩
      case rest =>
        clear HFQ HEU HFR k0 k0' k1 k1' CM1 HSG HSB
        obtain ⟨qz2, aq, nq, cq, heu, hfq, hfr⟩ := hcut
        have HEU := Lib.hid heu
        have HFQ := Lib.hid hfq
        have HFR := Lib.hid hfr
        obtain ⟨p0, p1, -, -, -, -, -, -, ⟨k2, k2'⟩, ⟨k3, k3'⟩, -, -, -⟩ := heu
        clear hfq hfr
        have cm1 := Abs05_any _ _ _ ((HYW.out.below HEU.out.below).below (Below.refl wc.heap.size wc).drew)
        have CM1 := Lib.hid cm1
        clear cm1
        go_upto_region 7 with fail
        go_cut [] (fun wx => ∃ (ar : Option Addr) (nr cr : Nat), EuS w wx w4.heap.size (.bool q) (.slice al m cl) (.bool (decide (qz2 < 0))) (.slice aq nq cq) (.bool (decide ((rz + (b.natAbs : Int)) < 0))) (.slice ar nr cr) ∧ FrZ wx (w.heap.size + 4) (.agg #[.bool (decide (qz2 < 0)), .slice aq nq cq]) qz2 ∧ FrZ wx (w.heap.size + 4) (.agg #[.bool (decide ((rz + (b.natAbs : Int)) < 0)), .slice ar nr cr]) (rz + (b.natAbs : Int)))
        case first =>
          go_region_with ((first
            | (go_at_call 104; (with_reducible refine CM1.out.mono ?_); rintro e w8 ⟨v8, rfl, hz8, hb8⟩; have hb78 : Below wc.heap.size wc w8 := ((Below.refl wc.heap.size wc).drew).trans hb8; have cm2 := Add05_any _ _ _ _ _ ((HFR.out.below hb78).rd HRB.out hS) (hz8.rd HBB.out.2 HBB.out.1); obtain ⟨m8, n8, f8, rfl, h8, d8⟩ := hz8; obtain ⟨a8, c8, rfl⟩ := h8.slice; have CM2 := Lib.hid cm2; clear cm2 h8 d8; have k2 := cell_stays hb78 k2; have k3 := cell_stays hb78 k3)
            | (go_at_call 58; (with_reducible refine CM2.out.mono ?_); rintro e w9 ⟨v9, rfl, ⟨m9, n9, f9, rfl, h9, d9⟩, hb9⟩; obtain ⟨a9, c9, rfl⟩ := h9.slice; have hb79 : Below wc.heap.size wc w9 := hb78.trans (hb9.mono hb78.size); have HE9 := Lib.hid (HEU.out.same hb79); obtain ⟨-, -, -, -, -, -, -, -, ⟨k2, k2'⟩, ⟨k3, k3'⟩, -, -, -⟩ := HE9.out)))
          all_goals
            have g1 := HE9.out.putr (.bool (decide ((rz + (b.natAbs : Int)) < 0))) (.slice a9 n9 c9)
            have hs7 := HEU.out.size
            have hQ7 := HEU.out.hQ
            have g2 : FrZ (stored2 w9 (w4.heap.size + 1) (.bool (decide ((rz + (b.natAbs : Int)) < 0))) (.slice a9 n9 c9)) (w4.heap.size + 2) (.agg #[.bool (decide ((rz + (b.natAbs : Int)) < 0)), .slice a9 n9 c9]) (rz + (b.natAbs : Int)) := FrZ.stored' ⟨_, n9, f9, rfl, h9.mono (by have := hb78.size; omega), d9⟩ (b := w4.heap.size + 1) (by omega) (.bool (decide ((rz + (b.natAbs : Int)) < 0))) (.slice a9 n9 c9)
            have g3 : FrZ (stored2 w9 (w4.heap.size + 1) (.bool (decide ((rz + (b.natAbs : Int)) < 0))) (.slice a9 n9 c9)) (w4.heap.size + 2) (.agg #[.bool (decide (qz2 < 0)), .slice aq nq cq]) qz2 := (HFQ.out.below hb79).stored' (by omega) _ _
            have G := Lib.hid (And.intro g1 (And.intro (g3.mono (show w.heap.size + 4 ≤ w4.heap.size + 2 by omega)) (g2.mono (show w.heap.size + 4 ≤ w4.heap.size + 2 by omega))))
            clear g1 g2 g3 h9 d9 hb8 hb9 hb78 hb79
            go_wp2_with fail
            go_meet
            exact ⟨a9, n9, c9, G.out⟩
        case rest =>
          clear HFQ HEU HFR p0 p1 k2 k2' k3 k3' CM1
          obtain ⟨ar, nr, cr, heu, hfq, hfr⟩ := hcut
          rw [hrr.out] at heu hfr
          have HFQ := Lib.hid hfq
          have HFR := Lib.hid hfr
          obtain ⟨-, -, ⟨t0, t0'⟩, ⟨t1, t1'⟩, ⟨z0, z0'⟩, ⟨z1, z1'⟩, ⟨k0, k0'⟩, ⟨k1, k1'⟩, ⟨k2, k2'⟩, ⟨k3, k3'⟩, hbw, hQw, hsQ⟩ := heu
          have hfin := eu_out HFQ.out HFR.out hbw
          have HFIN := Lib.hid hfin
          clear hfq hfr hfin
          go_wp2_with fail
          go_region
          all_goals
            go_wp2_with fail
            refine bodyPost_ret (v := .tuple #[.agg #[.bool (decide (qz2 < 0)), .slice aq nq cq], .agg #[.bool (decide (rr < 0)), .slice ar nr cr], .int .i64 0]) ?_ rfl ⟨_, _, qz2, rfl, HFIN.out.1, HFIN.out.2.1, HFIN.out.2.2⟩
            simp [results, Try.results76, go_sem, t0, t1, z0, z1]

end Go.Proofs.Ytdlpemmoobbgnaa
