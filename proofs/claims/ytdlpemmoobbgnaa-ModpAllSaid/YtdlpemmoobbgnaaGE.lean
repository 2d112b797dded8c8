/- The walks of trellisref05.Euclid, Mod. The walk of trellisref05.Mod. The walks of the law's sound, alike, alikeRows, alikeMats, same (where they answer yes), least, and trellisref01.Same. The law's two fixed calls. -/
import Derived.Test.YtdlpemmoobbgnaaGD
import Derived.Test.YtdlpemmoobbgnaaGB
import Derived.StillTailTactics
set_option linter.unusedVariables false
set_option linter.unusedSimpArgs false
namespace Go.Proofs.Ytdlpemmoobbgnaa
open Go.RowKit

/-- the state of Euclid: the divisor's box, two result boxes, quotient and rest in boxes Q and Q + 1 -/
structure EuS (w wr : World) (Q : Nat) (u0 u1 q0 q1 r0 r1 : Value) : Prop where
  p0 : wr.cell? ⟨w.heap.size + 1, 0, none⟩ = some u0
  p1 : wr.cell? ⟨w.heap.size + 1, 1, none⟩ = some u1
  t0 : wr.cell? ⟨w.heap.size + 1 + 1, 0, none⟩ = some (.bool false) ∧ wr.frozen? ⟨w.heap.size + 1 + 1, 0, none⟩ = false
  t1 : wr.cell? ⟨w.heap.size + 1 + 1, 1, none⟩ = some (.slice none 0 0) ∧ wr.frozen? ⟨w.heap.size + 1 + 1, 1, none⟩ = false
  z0 : wr.cell? ⟨w.heap.size + 1 + 1 + 1, 0, none⟩ = some (.bool false) ∧ wr.frozen? ⟨w.heap.size + 1 + 1 + 1, 0, none⟩ = false
  z1 : wr.cell? ⟨w.heap.size + 1 + 1 + 1, 1, none⟩ = some (.slice none 0 0) ∧ wr.frozen? ⟨w.heap.size + 1 + 1 + 1, 1, none⟩ = false
  q0 : wr.cell? ⟨Q, 0, none⟩ = some q0 ∧ wr.frozen? ⟨Q, 0, none⟩ = false
  q1 : wr.cell? ⟨Q, 1, none⟩ = some q1 ∧ wr.frozen? ⟨Q, 1, none⟩ = false
  r0 : wr.cell? ⟨Q + 1, 0, none⟩ = some r0 ∧ wr.frozen? ⟨Q + 1, 0, none⟩ = false
  r1 : wr.cell? ⟨Q + 1, 1, none⟩ = some r1 ∧ wr.frozen? ⟨Q + 1, 1, none⟩ = false
  below : Below w.heap.size w wr
  hQ : w.heap.size + 4 ≤ Q
  size : Q + 2 ≤ wr.heap.size

section
variable {w wr w' : World} {Q : Nat} {u0 u1 q0 q1 r0 r1 : Value}
theorem EuS.same (h : EuS w wr Q u0 u1 q0 q1 r0 r1) (hb : Below wr.heap.size wr w') : EuS w w' Q u0 u1 q0 q1 r0 r1 :=
  ⟨cell_stays hb h.p0, cell_stays hb h.p1, ⟨cell_stays hb h.t0.1, froz_stays hb h.t0.1 h.t0.2⟩, ⟨cell_stays hb h.t1.1, froz_stays hb h.t1.1 h.t1.2⟩, ⟨cell_stays hb h.z0.1, froz_stays hb h.z0.1 h.z0.2⟩, ⟨cell_stays hb h.z1.1, froz_stays hb h.z1.1 h.z1.2⟩,
    ⟨cell_stays hb h.q0.1, froz_stays hb h.q0.1 h.q0.2⟩, ⟨cell_stays hb h.q1.1, froz_stays hb h.q1.1 h.q1.2⟩, ⟨cell_stays hb h.r0.1, froz_stays hb h.r0.1 h.r0.2⟩, ⟨cell_stays hb h.r1.1, froz_stays hb h.r1.1 h.r1.2⟩,
    h.below.trans (hb.mono h.below.size), h.hQ, Nat.le_trans h.size hb.size⟩
theorem EuS.drew (h : EuS w wr Q u0 u1 q0 q1 r0 r1) : EuS w wr.drew Q u0 u1 q0 q1 r0 r1 := h.same ((Below.refl _ _).drew)

theorem two_froz (w : World) (a0 a1 c0 c1 : Value) (t : TypeId) : ((w.alloc (.cells #[a0, a1] t)).alloc (.cells #[c0, c1] t)).frozen? ⟨w.heap.size, 0, none⟩ = false ∧ ((w.alloc (.cells #[a0, a1] t)).alloc (.cells #[c0, c1] t)).frozen? ⟨w.heap.size, 1, none⟩ = false := by
  have k := cells2 w a0 a1 t
  have hb : Below (w.alloc (.cells #[a0, a1] t)).heap.size (w.alloc (.cells #[a0, a1] t)) ((w.alloc (.cells #[a0, a1] t)).alloc (.cells #[c0, c1] t)) := (Below.refl _ _).alloc (Nat.le_refl _) _
  exact ⟨froz_stays hb (k 0 _ rfl).1 (k 0 _ rfl).2, froz_stays hb (k 1 _ rfl).1 (k 1 _ rfl).2⟩

/-- a box other than b -/
theorem stored2_cell {w3 : World} {b : Nat} (u v : Value) {a : Addr} {y : Value} (h : w3.cell? a = some y) (ha : a.block ≠ b) : (stored2 w3 b u v).cell? a = some y := (stored2_gb w3 b u v).cell h (by intro e; injection e with e; exact ha e)
theorem stored2_froz {w3 : World} (b : Nat) (u v : Value) (a : Addr) : (stored2 w3 b u v).frozen? a = w3.frozen? a := by unfold stored2; rw [World.frozen?_setCell, World.frozen?_setCell]
theorem stored2_own {w3 : World} {b : Nat} (u v : Value) {y0 y1 : Value} (h0 : w3.cell? ⟨b, 0, none⟩ = some y0) (h1 : w3.cell? ⟨b, 1, none⟩ = some y1) : (stored2 w3 b u v).cell? ⟨b, 0, none⟩ = some u ∧ (stored2 w3 b u v).cell? ⟨b, 1, none⟩ = some v := by
  unfold stored2
  constructor
  · rw [World.cell?_setCell_other _ _ _ _ (by intro e; injection e with _ e _; omega)]
    exact World.cell?_setCell_same _ _ _ h0
  · refine World.cell?_setCell_same _ _ _ (u := y1) ?_
    rw [World.cell?_setCell_other _ _ _ _ (by intro e; injection e with _ e _; omega)]; exact h1

theorem EuS.putq (h : EuS w wr Q u0 u1 q0 q1 r0 r1) (u v : Value) : EuS w (stored2 wr Q u v) Q u0 u1 u v r0 r1 := by
  have hQ := h.hQ
  have c {a : Addr} {y : Value} (k : wr.cell? a = some y) (ha : a.block ≠ Q) := stored2_cell (b := Q) u v k ha
  have f {a : Addr} (k : wr.frozen? a = false) : (stored2 wr Q u v).frozen? a = false := by rw [stored2_froz]; exact k
  obtain ⟨o0, o1⟩ := stored2_own u v h.q0.1 h.q1.1
  exact ⟨c h.p0 (by simp; omega), c h.p1 (by simp; omega), ⟨c h.t0.1 (by simp; omega), f h.t0.2⟩, ⟨c h.t1.1 (by simp; omega), f h.t1.2⟩, ⟨c h.z0.1 (by simp; omega), f h.z0.2⟩, ⟨c h.z1.1 (by simp; omega), f h.z1.2⟩,
    ⟨o0, f h.q0.2⟩, ⟨o1, f h.q1.2⟩, ⟨c h.r0.1 (by simp), f h.r0.2⟩, ⟨c h.r1.1 (by simp), f h.r1.2⟩, stored2_below' h.below (by omega) u v, hQ, Nat.le_trans h.size (stored2_gb wr Q u v).size⟩
theorem EuS.putr (h : EuS w wr Q u0 u1 q0 q1 r0 r1) (u v : Value) : EuS w (stored2 wr (Q + 1) u v) Q u0 u1 q0 q1 u v := by
  have hQ := h.hQ
  have c {a : Addr} {y : Value} (k : wr.cell? a = some y) (ha : a.block ≠ Q + 1) := stored2_cell (b := Q + 1) u v k ha
  have f {a : Addr} (k : wr.frozen? a = false) : (stored2 wr (Q + 1) u v).frozen? a = false := by rw [stored2_froz]; exact k
  obtain ⟨o0, o1⟩ := stored2_own u v h.r0.1 h.r1.1
  exact ⟨c h.p0 (by simp; omega), c h.p1 (by simp; omega), ⟨c h.t0.1 (by simp; omega), f h.t0.2⟩, ⟨c h.t1.1 (by simp; omega), f h.t1.2⟩, ⟨c h.z0.1 (by simp; omega), f h.z0.2⟩, ⟨c h.z1.1 (by simp; omega), f h.z1.2⟩,
    ⟨c h.q0.1 (by simp), f h.q0.2⟩, ⟨c h.q1.1 (by simp), f h.q1.2⟩, ⟨o0, f h.r0.2⟩, ⟨o1, f h.r1.2⟩, stored2_below' h.below (by omega) u v, hQ, Nat.le_trans h.size (stored2_gb wr (Q + 1) u v).size⟩
end

theorem FrZ.stored' {w3 : World} {base : Nat} {v : Value} {z : Int} (h : FrZ w3 base v z) {b : Nat} (hb : b < base) (u v' : Value) : FrZ (stored2 w3 b u v') base v z := by
  obtain ⟨m, n, f, rfl, h1, h2⟩ := h
  exact ⟨m, n, f, rfl, stored2_fr' h1 hb u v', h2⟩

theorem emod_abs (x b : Int) : x % b = x % (b.natAbs : Int) := by
  rcases Int.natAbs_eq b with e | e
  · exact congrArg (x % ·) e
  · have h : x % b = x % (-(b.natAbs : Int)) := congrArg (x % ·) e
    rw [h, Int.emod_neg]
theorem tmod_abs (x b : Int) : x.tmod b = x.tmod (b.natAbs : Int) := by
  rcases Int.natAbs_eq b with e | e
  · exact congrArg (x.tmod ·) e
  · have h : x.tmod b = x.tmod (-(b.natAbs : Int)) := congrArg (x.tmod ·) e
    rw [h, Int.tmod_neg]
theorem tmod_emod (a b : Int) : a % b = a.tmod b % b := by
  have h1 := Int.mul_tdiv_add_tmod a b
  have : a = a.tmod b + b * a.tdiv b := by omega
  conv => lhs; rw [this, Int.add_mul_emod_self_left]
/-- what lies in another block stays -/
theorem eu_keep {w9 : World} {base b : Nat} {u : Bool} {a : Option Addr} {n c : Nat} {z : Int} (h : FrZ w9 base (.agg #[.bool u, .slice a n c]) z) (hb : ∀ k, (Value.slice a n c).ownBlock = some k → k < b) (x y : Value) : FrZ (stored2 w9 b x y) base (.agg #[.bool u, .slice a n c]) z := by
  obtain ⟨m, n', f, e, h1, h2⟩ := h
  simp only [Value.agg.injEq, Array.mk.injEq, List.cons.injEq, Value.bool.injEq, and_true] at e
  obtain ⟨rfl, rfl⟩ := e
  refine ⟨_, n', f, rfl, h1.grown (stored2_gb w9 b x y) ?_, h2⟩
  cases hv : (Value.slice a n c).ownBlock with
  | none => exact Or.inl rfl
  | some k => right; have := hb k hv; intro e; injection e with e; omega

/-- quotient and rest handed out -/
theorem eu_out {w w6 : World} {q0 r0 : Bool} {q1 r1 : Value} {qz rz : Int} (hq : FrZ w6 (w.heap.size + 4) (.agg #[.bool q0, q1]) qz) (hr : FrZ w6 (w.heap.size + 4) (.agg #[.bool r0, r1]) rz) (hb : Below w.heap.size w w6) :
    FrZ (stored2 (stored2 w6.drew (w.heap.size + 1 + 1) (.bool q0) q1) (w.heap.size + 1 + 1 + 1) (.bool r0) r1) w.heap.size (.agg #[.bool q0, q1]) qz ∧
    FrZ (stored2 (stored2 w6.drew (w.heap.size + 1 + 1) (.bool q0) q1) (w.heap.size + 1 + 1 + 1) (.bool r0) r1) w.heap.size (.agg #[.bool r0, r1]) rz ∧
    Below w.heap.size w (stored2 (stored2 w6.drew (w.heap.size + 1 + 1) (.bool q0) q1) (w.heap.size + 1 + 1 + 1) (.bool r0) r1) := by
  have hd := (Below.refl w6.heap.size w6).drew
  exact ⟨(((hq.below hd).stored' (by omega) _ _).stored' (by omega) _ _).mono (by omega), (((hr.below hd).stored' (by omega) _ _).stored' (by omega) _ _).mono (by omega),
    stored2_below' (stored2_below' hb.drew (by omega) _ _) (by omega) _ _⟩

/-- quotient and rest by the sign of the rest -/
theorem euclid_ge {a b : Int} (hb : b ≠ 0) (h : 0 ≤ a.tmod b) : a.tmod b = a % b := by
  have h2 := Int.tmod_lt_of_pos a (show 0 < (b.natAbs : Int) by omega)
  rw [← tmod_abs] at h2
  rw [tmod_emod, emod_abs]
  exact (Int.emod_eq_of_lt h h2).symm
theorem euclid_lt {a b : Int} (hb : b ≠ 0) (h : a.tmod b < 0) : a.tmod b + (b.natAbs : Int) = a % b := by
  have h2 := Int.tmod_lt_of_pos (-a) (show 0 < (b.natAbs : Int) by omega)
  rw [← tmod_abs, Int.neg_tmod] at h2
  rw [tmod_emod, emod_abs, ← Int.add_emod_right]
  exact (Int.emod_eq_of_lt (by omega) (by omega)).symm

theorem One_any (w : World) : Calls Try.prog 103 #[.int .i64 1] w fun e w' => ∃ a n c, e = .returned (.agg #[.bool false, .slice a n c]) ∧ RdZ w' (.agg #[.bool false, .slice a n c]) 1 ∧ Below w.heap.size w w' := by
  refine (Of05_any 1 (by omega) (by omega) w).mono ?_
  rintro e w' ⟨v, rfl, hz, hb⟩
  have hr := hz.rd (S := 1) (by unfold ZB; decide) (by omega)
  obtain ⟨m, n, f, rfl, h1, h2⟩ := hz
  obtain ⟨a, c, rfl⟩ := h1.slice
  exact ⟨a, n, c, rfl, hr, hb⟩

set_option maxHeartbeats 4000000 in
theorem Euclid_any (x y : Value) (a b : Int) (w : World) (hb0 : b ≠ 0) (hx : RdZ w x a) (hy : RdZ w y b) :
    Calls Try.prog 76 #[x, y] w fun e w' => ∃ v1 v2 z1, e = .returned (.tuple #[v1, v2, .int .i64 0]) ∧ FrZ w' w.heap.size v1 z1 ∧ FrZ w' w.heap.size v2 (a % b) ∧ Below w.heap.size w w' := by
  obtain ⟨S, hS, hzb⟩ := hx.zb
  obtain ⟨T, hT, hzT⟩ : ∃ T, T ≤ 274877906944 ∧ ZB T (b.natAbs : Int) := by
    obtain ⟨T, h1, h2⟩ := hy.zb
    exact ⟨T, h1, by unfold ZB at *; omega⟩
  obtain ⟨p, am, n, cm, f, rfl, -⟩ := hx.parts
  obtain ⟨q, al, m, cl, g, rfl, -⟩ := hy.parts
  obtain ⟨⟨x0, x1, y0, y1, t0, t1, t2, t3, z0, z1, z2, z3⟩, hb, hs4⟩ := boxes4f w (.bool p) (.slice am n cm) (.bool q) (.slice al m cl) (.bool false) (.slice none 0 0) (.bool false) (.slice none 0 0) 56
  have hrb : ZB S (a.tmod b) := by
    unfold ZB at *
    have : (a.tmod b).natAbs ≤ a.natAbs := by rw [Int.natAbs_tmod]; exact Nat.mod_le _ _
    omega
  have hqb : ZB S (a.tdiv b) := by
    unfold ZB at *
    have : (a.tdiv b).natAbs ≤ a.natAbs := by rw [Int.natAbs_tdiv]; exact Nat.div_le_self _ _
    omega
  have HTR := Lib.hid (Trunc_any _ _ a b _ hb0 (hx.below hb) (hy.below hb))
  have HYW := Lib.hid hy
  have HBB := Lib.hid (And.intro hT hzT)
  clear hT hzT
  have HB := Lib.hid hb
  have HS4 := Lib.hid hs4
  have HRB := Lib.hid hrb
  have HQB := Lib.hid hqb
  have HGE := Lib.hid (fun h => euclid_ge (a := a) hb0 h)
  have HLT := Lib.hid (fun h => euclid_lt (a := a) hb0 h)
  clear hx hy hb hs4 hrb hqb hzb
  generalize a % b = rr at *
  generalize a.tdiv b = qz at *
  generalize a.tmod b = rz at *
  go_enter Try.func76, Try.ntmps76
  go_wp2_with fail
  refine HTR.out.mono ?_
  rintro e w4 ⟨v1, v2, rfl, ⟨m1, n1, f1, rfl, h1, d1⟩, ⟨m2, n2, f2, rfl, h2, d2⟩, hb4⟩
  obtain ⟨a1, c1, rfl⟩ := h1.slice
  obtain ⟨a2, c2, rfl⟩ := h2.slice
  have hw5 := boxes2 w4 (.bool (decide (qz < 0))) (.slice a1 n1 c1) (.bool (decide (rz < 0))) (.slice a2 n2 c2) 56
  obtain ⟨⟨k0, k1, k2, k3, k4, k5⟩, hb5, hs5⟩ := hw5
  have hfq : FrZ w4 (w.heap.size + 4) (.agg #[.bool (decide (qz < 0)), .slice a1 n1 c1]) qz := ⟨_, n1, f1, rfl, h1.mono (by rw [HS4.out]; omega), d1⟩
  have hfr : FrZ w4 (w.heap.size + 4) (.agg #[.bool (decide (rz < 0)), .slice a2 n2 c2]) rz := ⟨_, n2, f2, rfl, h2.mono (by rw [HS4.out]; omega), d2⟩
  have hb45 := hb4.trans (hb5.mono hb4.size)
  have hsz4 := hb4.size
  rw [HS4.out] at hsz4
  have k6 := two_froz w4 (.bool (decide (qz < 0))) (.slice a1 n1 c1) (.bool (decide (rz < 0))) (.slice a2 n2 c2) 56
  have heu : EuS w ((w4.alloc (.cells #[.bool (decide (qz < 0)), .slice a1 n1 c1] 56)).alloc (.cells #[.bool (decide (rz < 0)), .slice a2 n2 c2] 56)) w4.heap.size (.bool q) (.slice al m cl) (.bool (decide (qz < 0))) (.slice a1 n1 c1) (.bool (decide (rz < 0))) (.slice a2 n2 c2) :=
    ⟨cell_stays hb45 y0, cell_stays hb45 y1, ⟨cell_stays hb45 t0, froz_stays hb45 t0 t2⟩, ⟨cell_stays hb45 t1, froz_stays hb45 t1 t3⟩, ⟨cell_stays hb45 z0, froz_stays hb45 z0 z2⟩, ⟨cell_stays hb45 z1, froz_stays hb45 z1 z3⟩,
      ⟨k0, k6.1⟩, ⟨k1, k6.2⟩, ⟨k2, k4⟩, ⟨k3, k5⟩, HB.out.trans (hb45.mono HB.out.size), hsz4, by rw [hs5]; omega⟩
  have HFQ := Lib.hid (hfq.below hb5)
  have HFR := Lib.hid (hfr.below hb5)
  have HR0 : Hid (∀ k, (Value.slice a2 n2 c2).ownBlock = some k → k < w4.heap.size) := fun k hk => (h2.lt hk).2
  have HEU := Lib.hid heu
  clear x0 x1 y0 y1 t0 t1 t2 t3 z0 z1 z2 z3 k0 k1 k2 k3 k4 k5 k6 hb5 hs5 hfq hfr hb45 heu hb4 HTR HB HS4 h1 h2 d1 d2 hsz4
  by_cases hge : 0 ≤ rz
  · have hsg := Sign_any _ _ _ (HFR.out.rd HRB.out hS)
    have hsn : Hid (0 ≤ sgn rz) := by show _ ≤ _; unfold sgn; split <;> (try split) <;> omega
    have hrr : Hid (rz = rr) := HGE.out hge
    generalize sgn rz = sg at hsg hsn
    have hsn' := hsn.out
    have HSG := Lib.hid hsg
    clear hsg HGE HLT hge
    go_wp2_with fail
    refine HSG.out.mono ?_
    rintro e w6 ⟨rfl, hb6⟩
    have heu := HEU.out.same hb6
    have HFQ := Lib.hid (HFQ.out.below hb6)
    have HFR := Lib.hid (HFR.out.below hb6)
    obtain ⟨p0, p1, ⟨t0, t0'⟩, ⟨t1, t1'⟩, ⟨z0, z0'⟩, ⟨z1, z1'⟩, ⟨k0, k0'⟩, ⟨k1, k1'⟩, ⟨k2, k2'⟩, ⟨k3, k3'⟩, hbw, hQw, hsQ⟩ := heu
    have hfin := eu_out HFQ.out HFR.out hbw
    have HFIN := Lib.hid hfin
    clear HSG HEU hb6
    go_wp2_with fail
    go_region
    all_goals
      go_wp2_with fail
      refine bodyPost_ret (v := .tuple #[.agg #[.bool (decide (qz < 0)), .slice a1 n1 c1], .agg #[.bool (decide (rz < 0)), .slice a2 n2 c2], .int .i64 0]) ?_ rfl ⟨_, _, qz, rfl, HFIN.out.1, by rw [← hrr.out]; exact HFIN.out.2.1, HFIN.out.2.2⟩
      simp [results, Try.results76, go_sem, t0, t1, z0, z1]
  · have hsg := Sign_any _ _ _ (HFR.out.rd HRB.out hS)
    have hsn : sgn rz < 0 := by unfold sgn; split <;> (try split) <;> omega
    have hrr : Hid (rz + (b.natAbs : Int) = rr) := HLT.out (by omega)
    have HSB := Lib.hid (fun (W : World) (h : RdZ W (.agg #[.bool q, .slice al m cl]) b) => Sign_any _ _ W h)
    generalize sgn rz = sg at hsg hsn
    have HSG := Lib.hid hsg
    clear hsg HGE HLT hge
    by_cases hbp : 0 < b
    · have hsb : 0 < sgn b := by unfold sgn; split <;> (try split) <;> omega
      generalize sgn b = sb at hsb HSB
      go_upto_region 5 with (go_at_call 102; first
        | ((with_reducible refine HSG.out.mono ?_); rintro e w6 ⟨rfl, hb6⟩; have HEU := Lib.hid (HEU.out.same hb6); have HFQ := Lib.hid (HFQ.out.below hb6); have HFR := Lib.hid (HFR.out.below hb6); have p0 := HEU.out.p0; have p1 := HEU.out.p1)
        | (refine (HSB.out _ (HYW.out.below HEU.out.below)).mono ?_; rintro e w7 ⟨rfl, hb7⟩; have HEU := Lib.hid (HEU.out.same hb7); have HFQ := Lib.hid (HFQ.out.below hb7); have HFR := Lib.hid (HFR.out.below hb7)))
      obtain ⟨-, -, -, -, -, -, ⟨k0, k0'⟩, ⟨k1, k1'⟩, -, -, -, -, -⟩ := HEU.out
      have cm1 := One_any w7.drew
      have CM1 := Lib.hid cm1
      clear cm1 p0 p1
      go_cut [] (fun wx => ∃ (qz2 : Int) (aq : Option Addr) (nq cq : Nat), EuS w wx w4.heap.size (.bool q) (.slice al m cl) (.bool (decide (qz2 < 0))) (.slice aq nq cq) (.bool (decide (rz < 0))) (.slice a2 n2 c2) ∧ FrZ wx (w4.heap.size + 2) (.agg #[.bool (decide (qz2 < 0)), .slice aq nq cq]) qz2 ∧ FrZ wx (w.heap.size + 4) (.agg #[.bool (decide (rz < 0)), .slice a2 n2 c2]) rz)
      case first =>
        go_region_with ((first
          | (go_at_call 103; (with_reducible refine CM1.out.mono ?_); rintro e w8 ⟨a8, n8, c8, rfl, hz8, hb8⟩; have hb78 : Below w7.heap.size w7 w8 := ((Below.refl w7.heap.size w7).drew).trans hb8; have cm2 := Sub05_any _ _ _ _ _ ((HFQ.out.below hb78).rd HQB.out hS) hz8; have CM2 := Lib.hid cm2; clear cm2 hz8; have k0 := cell_stays hb78 k0; have k1 := cell_stays hb78 k1)
          | (go_at_call 32; (with_reducible refine CM2.out.mono ?_); rintro e w9 ⟨v9, rfl, ⟨m9, n9, f9, rfl, h9, d9⟩, hb9⟩; obtain ⟨a9, c9, rfl⟩ := h9.slice; have hb79 : Below w7.heap.size w7 w9 := hb78.trans (hb9.mono hb78.size); have HE9 := Lib.hid (HEU.out.same hb79); obtain ⟨-, -, -, -, -, -, ⟨k0, k0'⟩, ⟨k1, k1'⟩, -, -, -, -, -⟩ := HE9.out)))
        all_goals
          have g1 := HE9.out.putq (.bool (decide (qz - 1 < 0))) (.slice a9 n9 c9)
          have hs7 := HEU.out.size
          have g2 : FrZ (stored2 w9 w4.heap.size (.bool (decide (qz - 1 < 0))) (.slice a9 n9 c9)) (w4.heap.size + 2) (.agg #[.bool (decide (qz - 1 < 0)), .slice a9 n9 c9]) (qz - 1) := FrZ.stored' ⟨_, n9, f9, rfl, h9.mono (by have := hb78.size; omega), d9⟩ (b := w4.heap.size) (by omega) (.bool (decide (qz - 1 < 0))) (.slice a9 n9 c9)
          have g3 : FrZ (stored2 w9 w4.heap.size (.bool (decide (qz - 1 < 0))) (.slice a9 n9 c9)) (w.heap.size + 4) (.agg #[.bool (decide (rz < 0)), .slice a2 n2 c2]) rz := eu_keep (HFR.out.below hb79) HR0.out _ _
          have G := Lib.hid (And.intro g1 (And.intro g2 g3))
          clear g1 g2 g3 h9 d9 hb8 hb9 hb78 hb79
          go_wp2_with fail
          go_meet
          exact ⟨qz - 1, a9, n9, c9, G.out⟩
      case rest =>
        clear HFQ HEU HFR k0 k0' k1 k1' CM1 HSG HSB
        obtain ⟨qz2, aq, nq, cq, heu, hfq, hfr⟩ := hcut
        have HEU := Lib.hid heu
        have HFQ := Lib.hid hfq
        have HFR := Lib.hid hfr
        obtain ⟨p0, p1, -, -, -, -, -, -, ⟨k2, k2'⟩, ⟨k3, k3'⟩, -, -, -⟩ := heu
        clear hfq hfr
        have cm1 := Abs05_any _ _ _ ((HYW.out.below HEU.out.below).below (Below.refl wc.heap.size wc).drew)
        have CM1 := Lib.hid cm1
        clear cm1
        go_upto_region 7 with fail
        go_cut [] (fun wx => ∃ (ar : Option Addr) (nr cr : Nat), EuS w wx w4.heap.size (.bool q) (.slice al m cl) (.bool (decide (qz2 < 0))) (.slice aq nq cq) (.bool (decide ((rz + (b.natAbs : Int)) < 0))) (.slice ar nr cr) ∧ FrZ wx (w.heap.size + 4) (.agg #[.bool (decide (qz2 < 0)), .slice aq nq cq]) qz2 ∧ FrZ wx (w.heap.size + 4) (.agg #[.bool (decide ((rz + (b.natAbs : Int)) < 0)), .slice ar nr cr]) (rz + (b.natAbs : Int)))
        case first =>
          go_region_with ((first
            | (go_at_call 104; (with_reducible refine CM1.out.mono ?_); rintro e w8 ⟨v8, rfl, hz8, hb8⟩; have hb78 : Below wc.heap.size wc w8 := ((Below.refl wc.heap.size wc).drew).trans hb8; have cm2 := Add05_any _ _ _ _ _ ((HFR.out.below hb78).rd HRB.out hS) (hz8.rd HBB.out.2 HBB.out.1); obtain ⟨m8, n8, f8, rfl, h8, d8⟩ := hz8; obtain ⟨a8, c8, rfl⟩ := h8.slice; have CM2 := Lib.hid cm2; clear cm2 h8 d8; have k2 := cell_stays hb78 k2; have k3 := cell_stays hb78 k3)
            | (go_at_call 58; (with_reducible refine CM2.out.mono ?_); rintro e w9 ⟨v9, rfl, ⟨m9, n9, f9, rfl, h9, d9⟩, hb9⟩; obtain ⟨a9, c9, rfl⟩ := h9.slice; have hb79 : Below wc.heap.size wc w9 := hb78.trans (hb9.mono hb78.size); have HE9 := Lib.hid (HEU.out.same hb79); obtain ⟨-, -, -, -, -, -, -, -, ⟨k2, k2'⟩, ⟨k3, k3'⟩, -, -, -⟩ := HE9.out)))
          all_goals
            have g1 := HE9.out.putr (.bool (decide ((rz + (b.natAbs : Int)) < 0))) (.slice a9 n9 c9)
            have hs7 := HEU.out.size
            have hQ7 := HEU.out.hQ
            have g2 : FrZ (stored2 w9 (w4.heap.size + 1) (.bool (decide ((rz + (b.natAbs : Int)) < 0))) (.slice a9 n9 c9)) (w4.heap.size + 2) (.agg #[.bool (decide ((rz + (b.natAbs : Int)) < 0)), .slice a9 n9 c9]) (rz + (b.natAbs : Int)) := FrZ.stored' ⟨_, n9, f9, rfl, h9.mono (by have := hb78.size; omega), d9⟩ (b := w4.heap.size + 1) (by omega) (.bool (decide ((rz + (b.natAbs : Int)) < 0))) (.slice a9 n9 c9)
            have g3 : FrZ (stored2 w9 (w4.heap.size + 1) (.bool (decide ((rz + (b.natAbs : Int)) < 0))) (.slice a9 n9 c9)) (w4.heap.size + 2) (.agg #[.bool (decide (qz2 < 0)), .slice aq nq cq]) qz2 := (HFQ.out.below hb79).stored' (by omega) _ _
            have G := Lib.hid (And.intro g1 (And.intro (g3.mono (show w.heap.size + 4 ≤ w4.heap.size + 2 by omega)) (g2.mono (show w.heap.size + 4 ≤ w4.heap.size + 2 by omega))))
            clear g1 g2 g3 h9 d9 hb8 hb9 hb78 hb79
            go_wp2_with fail
            go_meet
            exact ⟨a9, n9, c9, G.out⟩
        case rest =>
          clear HFQ HEU HFR p0 p1 k2 k2' k3 k3' CM1
          obtain ⟨ar, nr, cr, heu, hfq, hfr⟩ := hcut
          rw [hrr.out] at heu hfr
          have HFQ := Lib.hid hfq
          have HFR := Lib.hid hfr
          obtain ⟨-, -, ⟨t0, t0'⟩, ⟨t1, t1'⟩, ⟨z0, z0'⟩, ⟨z1, z1'⟩, ⟨k0, k0'⟩, ⟨k1, k1'⟩, ⟨k2, k2'⟩, ⟨k3, k3'⟩, hbw, hQw, hsQ⟩ := heu
          have hfin := eu_out HFQ.out HFR.out hbw
          have HFIN := Lib.hid hfin
          clear hfq hfr hfin
          go_wp2_with fail
          go_region
          all_goals
            go_wp2_with fail
            refine bodyPost_ret (v := .tuple #[.agg #[.bool (decide (qz2 < 0)), .slice aq nq cq], .agg #[.bool (decide (rr < 0)), .slice ar nr cr], .int .i64 0]) ?_ rfl ⟨_, _, qz2, rfl, HFIN.out.1, HFIN.out.2.1, HFIN.out.2.2⟩
            simp [results, Try.results76, go_sem, t0, t1, z0, z1]
    · have hsb : sgn b < 0 := by unfold sgn; split <;> (try split) <;> omega
      generalize sgn b = sb at hsb HSB
      go_upto_region 6 with (go_at_call 102; first
        | ((with_reducible refine HSG.out.mono ?_); rintro e w6 ⟨rfl, hb6⟩; have HEU := Lib.hid (HEU.out.same hb6); have HFQ := Lib.hid (HFQ.out.below hb6); have HFR := Lib.hid (HFR.out.below hb6); have p0 := HEU.out.p0; have p1 := HEU.out.p1)
        | (refine (HSB.out _ (HYW.out.below HEU.out.below)).mono ?_; rintro e w7 ⟨rfl, hb7⟩; have HEU := Lib.hid (HEU.out.same hb7); have HFQ := Lib.hid (HFQ.out.below hb7); have HFR := Lib.hid (HFR.out.below hb7)))
      obtain ⟨-, -, -, -, -, -, ⟨k0, k0'⟩, ⟨k1, k1'⟩, -, -, -, -, -⟩ := HEU.out
      have cm1 := One_any w7.drew
      have CM1 := Lib.hid cm1
      clear cm1 p0 p1
      go_cut [] (fun wx => ∃ (qz2 : Int) (aq : Option Addr) (nq cq : Nat), EuS w wx w4.heap.size (.bool q) (.slice al m cl) (.bool (decide (qz2 < 0))) (.slice aq nq cq) (.bool (decide (rz < 0))) (.slice a2 n2 c2) ∧ FrZ wx (w4.heap.size + 2) (.agg #[.bool (decide (qz2 < 0)), .slice aq nq cq]) qz2 ∧ FrZ wx (w.heap.size + 4) (.agg #[.bool (decide (rz < 0)), .slice a2 n2 c2]) rz)
      case first =>
        go_region_with ((first
          | (go_at_call 103; (with_reducible refine CM1.out.mono ?_); rintro e w8 ⟨a8, n8, c8, rfl, hz8, hb8⟩; have hb78 : Below w7.heap.size w7 w8 := ((Below.refl w7.heap.size w7).drew).trans hb8; have cm2 := Add05_any _ _ _ _ _ ((HFQ.out.below hb78).rd HQB.out hS) hz8; have CM2 := Lib.hid cm2; clear cm2 hz8; have k0 := cell_stays hb78 k0; have k1 := cell_stays hb78 k1)
          | (go_at_call 58; (with_reducible refine CM2.out.mono ?_); rintro e w9 ⟨v9, rfl, ⟨m9, n9, f9, rfl, h9, d9⟩, hb9⟩; obtain ⟨a9, c9, rfl⟩ := h9.slice; have hb79 : Below w7.heap.size w7 w9 := hb78.trans (hb9.mono hb78.size); have HE9 := Lib.hid (HEU.out.same hb79); obtain ⟨-, -, -, -, -, -, ⟨k0, k0'⟩, ⟨k1, k1'⟩, -, -, -, -, -⟩ := HE9.out)))
        all_goals
          have g1 := HE9.out.putq (.bool (decide (qz + 1 < 0))) (.slice a9 n9 c9)
          have hs7 := HEU.out.size
          have g2 : FrZ (stored2 w9 w4.heap.size (.bool (decide (qz + 1 < 0))) (.slice a9 n9 c9)) (w4.heap.size + 2) (.agg #[.bool (decide (qz + 1 < 0)), .slice a9 n9 c9]) (qz + 1) := FrZ.stored' ⟨_, n9, f9, rfl, h9.mono (by have := hb78.size; omega), d9⟩ (b := w4.heap.size) (by omega) (.bool (decide (qz + 1 < 0))) (.slice a9 n9 c9)
          have g3 : FrZ (stored2 w9 w4.heap.size (.bool (decide (qz + 1 < 0))) (.slice a9 n9 c9)) (w.heap.size + 4) (.agg #[.bool (decide (rz < 0)), .slice a2 n2 c2]) rz := eu_keep (HFR.out.below hb79) HR0.out _ _
          have G := Lib.hid (And.intro g1 (And.intro g2 g3))
          clear g1 g2 g3 h9 d9 hb8 hb9 hb78 hb79
          go_wp2_with fail
          go_meet
          exact ⟨qz + 1, a9, n9, c9, G.out⟩
      case rest =>
        clear HFQ HEU HFR k0 k0' k1 k1' CM1 HSG HSB
        obtain ⟨qz2, aq, nq, cq, heu, hfq, hfr⟩ := hcut
        have HEU := Lib.hid heu
        have HFQ := Lib.hid hfq
        have HFR := Lib.hid hfr
        obtain ⟨p0, p1, -, -, -, -, -, -, ⟨k2, k2'⟩, ⟨k3, k3'⟩, -, -, -⟩ := heu
        clear hfq hfr
        have cm1 := Abs05_any _ _ _ ((HYW.out.below HEU.out.below).below (Below.refl wc.heap.size wc).drew)
        have CM1 := Lib.hid cm1
        clear cm1
        go_upto_region 7 with fail
        go_cut [] (fun wx => ∃ (ar : Option Addr) (nr cr : Nat), EuS w wx w4.heap.size (.bool q) (.slice al m cl) (.bool (decide (qz2 < 0))) (.slice aq nq cq) (.bool (decide ((rz + (b.natAbs : Int)) < 0))) (.slice ar nr cr) ∧ FrZ wx (w.heap.size + 4) (.agg #[.bool (decide (qz2 < 0)), .slice aq nq cq]) qz2 ∧ FrZ wx (w.heap.size + 4) (.agg #[.bool (decide ((rz + (b.natAbs : Int)) < 0)), .slice ar nr cr]) (rz + (b.natAbs : Int)))
        case first =>
          go_region_with ((first
            | (go_at_call 104; (with_reducible refine CM1.out.mono ?_); rintro e w8 ⟨v8, rfl, hz8, hb8⟩; have hb78 : Below wc.heap.size wc w8 := ((Below.refl wc.heap.size wc).drew).trans hb8; have cm2 := Add05_any _ _ _ _ _ ((HFR.out.below hb78).rd HRB.out hS) (hz8.rd HBB.out.2 HBB.out.1); obtain ⟨m8, n8, f8, rfl, h8, d8⟩ := hz8; obtain ⟨a8, c8, rfl⟩ := h8.slice; have CM2 := Lib.hid cm2; clear cm2 h8 d8; have k2 := cell_stays hb78 k2; have k3 := cell_stays hb78 k3)
            | (go_at_call 58; (with_reducible refine CM2.out.mono ?_); rintro e w9 ⟨v9, rfl, ⟨m9, n9, f9, rfl, h9, d9⟩, hb9⟩; obtain ⟨a9, c9, rfl⟩ := h9.slice; have hb79 : Below wc.heap.size wc w9 := hb78.trans (hb9.mono hb78.size); have HE9 := Lib.hid (HEU.out.same hb79); obtain ⟨-, -, -, -, -, -, -, -, ⟨k2, k2'⟩, ⟨k3, k3'⟩, -, -, -⟩ := HE9.out)))
          all_goals
            have g1 := HE9.out.putr (.bool (decide ((rz + (b.natAbs : Int)) < 0))) (.slice a9 n9 c9)
            have hs7 := HEU.out.size
            have hQ7 := HEU.out.hQ
            have g2 : FrZ (stored2 w9 (w4.heap.size + 1) (.bool (decide ((rz + (b.natAbs : Int)) < 0))) (.slice a9 n9 c9)) (w4.heap.size + 2) (.agg #[.bool (decide ((rz + (b.natAbs : Int)) < 0)), .slice a9 n9 c9]) (rz + (b.natAbs : Int)) := FrZ.stored' ⟨_, n9, f9, rfl, h9.mono (by have := hb78.size; omega), d9⟩ (b := w4.heap.size + 1) (by omega) (.bool (decide ((rz + (b.natAbs : Int)) < 0))) (.slice a9 n9 c9)
            have g3 : FrZ (stored2 w9 (w4.heap.size + 1) (.bool (decide ((rz + (b.natAbs : Int)) < 0))) (.slice a9 n9 c9)) (w4.heap.size + 2) (.agg #[.bool (decide (qz2 < 0)), .slice aq nq cq]) qz2 := (HFQ.out.below hb79).stored' (by omega) _ _
            have G := Lib.hid (And.intro g1 (And.intro (g3.mono (show w.heap.size + 4 ≤ w4.heap.size + 2 by omega)) (g2.mono (show w.heap.size + 4 ≤ w4.heap.size + 2 by omega))))
            clear g1 g2 g3 h9 d9 hb8 hb9 hb78 hb79
            go_wp2_with fail
            go_meet
            exact ⟨a9, n9, c9, G.out⟩
        case rest =>
          clear HFQ HEU HFR p0 p1 k2 k2' k3 k3' CM1
          obtain ⟨ar, nr, cr, heu, hfq, hfr⟩ := hcut
          rw [hrr.out] at heu hfr
          have HFQ := Lib.hid hfq
          have HFR := Lib.hid hfr
          obtain ⟨-, -, ⟨t0, t0'⟩, ⟨t1, t1'⟩, ⟨z0, z0'⟩, ⟨z1, z1'⟩, ⟨k0, k0'⟩, ⟨k1, k1'⟩, ⟨k2, k2'⟩, ⟨k3, k3'⟩, hbw, hQw, hsQ⟩ := heu
          have hfin := eu_out HFQ.out HFR.out hbw
          have HFIN := Lib.hid hfin
          clear hfq hfr hfin
          go_wp2_with fail
          go_region
          all_goals
            go_wp2_with fail
            refine bodyPost_ret (v := .tuple #[.agg #[.bool (decide (qz2 < 0)), .slice aq nq cq], .agg #[.bool (decide (rr < 0)), .slice ar nr cr], .int .i64 0]) ?_ rfl ⟨_, _, qz2, rfl, HFIN.out.1, HFIN.out.2.1, HFIN.out.2.2⟩
            simp [results, Try.results76, go_sem, t0, t1, z0, z1]

end Go.Proofs.Ytdlpemmoobbgnaa

namespace Go.Proofs.Ytdlpemmoobbgnaa
open Go.RowKit

/-- a result box of two cells beside the parameters' -/
theorem boxes3f (w : World) (a0 a1 b0 b1 c0 c1 : Value) (t : TypeId) :
    let W := ((w.alloc (.cells #[a0, a1] t)).alloc (.cells #[b0, b1] t)).alloc (.cells #[c0, c1] t)
    (W.cell? ⟨w.heap.size, 0, none⟩ = some a0 ∧ W.cell? ⟨w.heap.size, 1, none⟩ = some a1 ∧ W.cell? ⟨w.heap.size + 1, 0, none⟩ = some b0 ∧ W.cell? ⟨w.heap.size + 1, 1, none⟩ = some b1 ∧
      W.cell? ⟨w.heap.size + 1 + 1, 0, none⟩ = some c0 ∧ W.cell? ⟨w.heap.size + 1 + 1, 1, none⟩ = some c1 ∧ W.frozen? ⟨w.heap.size + 1 + 1, 0, none⟩ = false ∧ W.frozen? ⟨w.heap.size + 1 + 1, 1, none⟩ = false) ∧
    Below w.heap.size w W ∧ W.heap.size = w.heap.size + 3 := boxes3 w a0 a1 b0 b1 c0 c1 t

set_option maxHeartbeats 1000000 in
theorem Mod_any (x y : Value) (a b : Int) (w : World) (hb0 : b ≠ 0) (hx : RdZ w x a) (hy : RdZ w y b) :
    Calls Try.prog 52 #[x, y] w fun e w' => ∃ v, e = .returned (.tuple #[v, .int .i64 0]) ∧ FrZ w' w.heap.size v (a % b) ∧ Below w.heap.size w w' := by
  obtain ⟨p, am, n, cm, f, rfl, -⟩ := hx.parts
  obtain ⟨q, al, m, cl, g, rfl, -⟩ := hy.parts
  obtain ⟨⟨x0, x1, y0, y1, z0, z1, z2, z3⟩, hb, hs3⟩ := boxes3 w (.bool p) (.slice am n cm) (.bool q) (.slice al m cl) (.bool false) (.slice none 0 0) 56
  have HEU := Lib.hid (Euclid_any _ _ a b _ hb0 (hx.below hb) (hy.below hb))
  have HB := Lib.hid hb
  have HS3 := Lib.hid hs3
  clear hx hy hb hs3 hb0
  generalize a % b = rr at *
  go_enter Try.func52, Try.ntmps52
  go_wp2_with fail
  refine HEU.out.mono ?_
  rintro e w4 ⟨v1, v2, qz, rfl, ⟨m1, n1, f1, rfl, h1, d1⟩, ⟨m2, n2, f2, rfl, h2, d2⟩, hb4⟩
  obtain ⟨a1, c1, rfl⟩ := h1.slice
  obtain ⟨a2, c2, rfl⟩ := h2.slice
  obtain ⟨⟨k0, k1, k2, k3, k4, k5⟩, hb5, hs5⟩ := boxes2 w4 (.bool (decide (qz < 0))) (.slice a1 n1 c1) (.bool (decide (rr < 0))) (.slice a2 n2 c2) 56
  have hb45 := hb4.trans (hb5.mono hb4.size)
  have z2 := froz_stays hb45 z0 z2
  have z3 := froz_stays hb45 z1 z3
  have z0 := cell_stays hb45 z0
  have z1 := cell_stays hb45 z1
  have hfr : FrZ _ (w.heap.size + 1 + 1 + 1) (.agg #[.bool (decide (rr < 0)), .slice a2 n2 c2]) rr := FrZ.below ⟨_, n2, f2, rfl, h2.mono (by rw [HS3.out]; omega), d2⟩ hb5
  have hbl := HB.out.trans (hb45.mono HB.out.size)
  have H1 := Lib.hid (hfr.stored' (b := w.heap.size + 1 + 1) (by omega) (.bool (decide (rr < 0))) (.slice a2 n2 c2))
  have H2 := Lib.hid (stored2_below' hbl (b := w.heap.size + 1 + 1) (by omega) (.bool (decide (rr < 0))) (.slice a2 n2 c2))
  clear h1 h2 d1 d2 hb4 hb5 hb45 hfr hbl hs5
  go_wp2_with fail
  refine bodyPost_ret (v := .tuple #[.agg #[.bool (decide (rr < 0)), .slice a2 n2 c2], .int .i64 0]) ?_ rfl ⟨_, rfl, H1.out.mono (by omega), H2.out⟩
  simp [results, Try.results52, go_sem, z0, z1]

end Go.Proofs.Ytdlpemmoobbgnaa

namespace Go.Proofs.Ytdlpemmoobbgnaa
open Go.RowKit

set_option maxHeartbeats 1000000 in
theorem sound_any (r c : Int) (a : Option Addr) (n cap : Nat) (hn : n ≤ 17592186044416) (w : World) :
    Calls Try.prog 15 #[.agg #[.int .i64 r, .int .i64 c, .slice a n cap]] w fun e w' => e = .returned (.bool (soundB r c n)) ∧ Below w.heap.size w w' := by
  by_cases h0 : 0 ≤ r
  · by_cases h1 : r ≤ 64
    · by_cases h2 : 0 ≤ c
      · by_cases h3 : c ≤ 64
        · obtain ⟨m0, m1⟩ := prod64 ⟨h0, h1⟩ ⟨h2, h3⟩
          by_cases he : (n : Int) = r * c
          · have hs : Hid (soundB r c n = true) := by show _ = _; unfold soundB sideB; simp [h0, h1, h2, h3, he]
            have heb : ((n : Int) == r * c) = true := beq_iff_eq.2 he
            clear he
            go_enter Try.func15, Try.ntmps15
            go_wp2_with fail
            go_ret
            exact ⟨ret_bool hs.out.symm, (Below.refl _ _).alloc (Nat.le_refl _) _⟩
          · have hs : Hid (soundB r c n = false) := by show _ = _; unfold soundB sideB; simp [h0, h1, h2, h3, he]
            have heb : ((n : Int) == r * c) = false := beq_eq_false_iff_ne.2 he
            clear he
            go_enter Try.func15, Try.ntmps15
            go_wp2_with fail
            go_ret
            exact ⟨ret_bool hs.out.symm, (Below.refl _ _).alloc (Nat.le_refl _) _⟩
        · have hs : Hid (soundB r c n = false) := by show _ = _; unfold soundB sideB; simp [h3]
          go_enter Try.func15, Try.ntmps15
          go_wp2_with fail
          go_ret
          exact ⟨ret_bool hs.out.symm, (Below.refl _ _).alloc (Nat.le_refl _) _⟩
      · have hs : Hid (soundB r c n = false) := by show _ = _; unfold soundB sideB; simp [h2]
        go_enter Try.func15, Try.ntmps15
        go_wp2_with fail
        go_ret
        exact ⟨ret_bool hs.out.symm, (Below.refl _ _).alloc (Nat.le_refl _) _⟩
    · have hs : Hid (soundB r c n = false) := by show _ = _; unfold soundB sideB; simp [h1]
      go_enter Try.func15, Try.ntmps15
      go_wp2_with fail
      go_ret
      exact ⟨ret_bool hs.out.symm, (Below.refl _ _).alloc (Nat.le_refl _) _⟩
  · have hs : Hid (soundB r c n = false) := by show _ = _; unfold soundB sideB; simp [h0]
    go_enter Try.func15, Try.ntmps15
    go_wp2_with fail
    go_ret
    exact ⟨ret_bool hs.out.symm, (Below.refl _ _).alloc (Nat.le_refl _) _⟩

set_option maxHeartbeats 1000000 in
set_option maxRecDepth 100000 in
theorem Same_yes (x y : Value) (n : Nat) (f g : Nat → Int) (w : World) (hx : RdA .u64 w x n f) (hy : RdA .u64 w y n g) (hfg : ∀ i, i < n → f i = g i) :
    Calls Try.prog 77 #[x, y] w fun e w' => e = .returned (.bool true) ∧ Below w.heap.size w w' := by
  obtain ⟨a, cap, rfl, h1, h2, h3⟩ := wd_get hx
  obtain ⟨b, cap', rfl, g1, g2, g3⟩ := wd_get hy
  have H3 := Lib.hid h3
  have G3 : Hid (∀ i, i < n → ∃ b' o, b = some ⟨b', o, none⟩ ∧ w.cell? ⟨b', o + i, none⟩ = some (.int .u64 (f i))) := fun i hi => by rw [hfg i hi]; exact g3 i hi
  clear h3 g3 hx hy hfg
  go_enter Try.func77, Try.ntmps77
  go_wp2_with fail
  go_loopw [5] (fun kv wr => ∃ k : Nat, k ≤ n ∧ kv = .int .i64 k ∧ Below w.heap.size w wr) (fun kv _ => n - (intOf kv).toNat)
  case atStart => exact ⟨0, Nat.zero_le _, rfl, Below.refl _ _⟩
  case round =>
    obtain ⟨k, k1, rfl, hb⟩ := hrel
    by_cases hk : k < n
    · obtain ⟨b1, o1, rfl, hc⟩ := H3.out k hk
      obtain ⟨b2, o2, rfl, hd⟩ := G3.out k hk
      have hc := cell_stays hb hc
      have hd := cell_stays hb hd
      generalize f k = u at hc hd
      go_wp2_with fail
      go_region
      all_goals
        go_wp2_with fail
        go_roundw
        case rel => exact ⟨k + 1, by omega, by go_num, hb.drew⟩
        case measure => simp [intOf]; omega
    · go_wp2_with fail
      go_ret
      exact ⟨rfl, hb⟩

/-- the same sign and the same words -/
def RawEq (r s : Raw) : Prop := r.neg = s.neg ∧ r.n = s.n ∧ ∀ i, i < r.n → r.f i = s.f i
theorem RawEq.refl (r : Raw) : RawEq r r := ⟨rfl, rfl, fun _ _ => rfl⟩

set_option maxHeartbeats 1000000 in
theorem alike_yes (x y : Value) (r s : Raw) (w : World) (hx : RdI w x r) (hy : RdI w y s) (h : RawEq r s) :
    Calls Try.prog 54 #[x, y] w fun e w' => e = .returned (.bool true) ∧ Below w.heap.size w w' := by
  obtain ⟨m, rfl, hr, -⟩ := hx
  obtain ⟨l, rfl, hs, -⟩ := hy
  obtain ⟨e1, e2, e3⟩ := h
  rw [← e1]
  rw [← e2] at hs
  have hb0 : Below w.heap.size w ((w.alloc (.cells #[.bool r.neg, m] 56)).alloc (.cells #[.bool r.neg, l] 56)) := ((Below.refl _ _).alloc (Nat.le_refl _) _).alloc (by simp) _
  have hsm := Same_yes _ _ _ _ _ _ (hr.below hb0) (hs.below hb0) e3
  obtain ⟨am, cm, rfl, -⟩ := hr
  obtain ⟨al, cl, rfl, -⟩ := hs
  obtain ⟨⟨x0, x1, y0, y1, -, -⟩, -, -⟩ := boxes2 w (.bool r.neg) (.slice am r.n cm) (.bool r.neg) (.slice al r.n cl) 56
  have HSM := Lib.hid hsm
  have HB0 := Lib.hid hb0
  clear hb0 hsm e1 e2 e3
  go_enter Try.func54, Try.ntmps54
  go_wp2_with fail
  refine HSM.out.mono ?_
  rintro e w4 ⟨rfl, hb4⟩
  have x0 := cell_stays hb4 x0
  have y0 := cell_stays hb4 y0
  have HB4 := Lib.hid (HB0.out.trans (hb4.mono HB0.out.size))
  clear hb4
  go_wp2_with fail
  go_ret
  exact ⟨by simp, HB4.out⟩

set_option maxHeartbeats 1000000 in
set_option maxRecDepth 100000 in
theorem alikeRows_yes (x y : Value) (n : Nat) (X Y : Nat → Raw) (w : World) (hx : RdL w x n X) (hy : RdL w y n Y) (h : ∀ i, i < n → RawEq (X i) (Y i)) :
    Calls Try.prog 49 #[x, y] w fun e w' => e = .returned (.bool true) ∧ Below w.heap.size w w' := by
  obtain ⟨a, cap, rfl, h1, h2, h3⟩ := hx
  obtain ⟨b, cap', rfl, g1, g2, g3⟩ := hy
  have H3 := Lib.hid h3
  have G3 := Lib.hid g3
  have HE := Lib.hid h
  clear h3 g3 h
  go_enter Try.func49, Try.ntmps49
  go_wp2_with fail
  go_loopw [5] (fun kv wr => ∃ k : Nat, k ≤ n ∧ kv = .int .i64 k ∧ Below w.heap.size w wr) (fun kv _ => n - (intOf kv).toNat)
  case atStart => exact ⟨0, Nat.zero_le _, rfl, Below.refl _ _⟩
  case round =>
    obtain ⟨k, k1, rfl, hb⟩ := hrel
    by_cases hk : k < n
    · obtain ⟨b1, o1, rfl, hc⟩ := H3.out (by omega)
      obtain ⟨b2, o2, rfl, hd⟩ := G3.out (by omega)
      obtain ⟨m1, c1, c2, c3⟩ := hc k hk
      obtain ⟨m2, d1, d2, d3⟩ := hd k hk
      have c1 := cell_stays hb c1
      have c2 := cell_stays hb c2
      have d1 := cell_stays hb d1
      have d2 := cell_stays hb d2
      have hal := alike_yes _ _ (X k) (Y k) wr.drew ⟨m1, rfl, (c3.below hb).below (Below.refl wr.heap.size wr).drew⟩ ⟨m2, rfl, (d3.below hb).below (Below.refl wr.heap.size wr).drew⟩ (HE.out k hk)
      have HAL := Lib.hid hal
      clear hal hc hd c3 d3
      go_wp2_with fail
      refine wp_region_still_tail 8 (by kernel_rfl) (by kernel_rfl) ?_
      simp only [List.take_succ_cons, List.take_zero, List.drop_succ_cons, List.drop_zero]
      repeat still_step
      refine wpStill_nil ?_
      change wpList _ _ _ _ _ wr.drew
      go_wp2_with (go_at_call 54; (with_reducible refine HAL.out.mono ?_); rintro e w5 ⟨rfl, hb5⟩)
      go_roundw
      case rel => exact ⟨k + 1, by omega, by go_num, hb.trans ((((Below.refl wr.heap.size wr).drew).trans hb5).mono hb.size)⟩
      case measure => simp [intOf]; omega
    · go_wp2_with fail
      go_ret
      exact ⟨rfl, hb⟩

theorem alikeMats_yes (x y : Value) (r c : Int) (n : Nat) (X Y : Nat → Raw) (w : World) (hx : RdL w x n X) (hy : RdL w y n Y) (h : ∀ i, i < n → RawEq (X i) (Y i)) :
    Calls Try.prog 21 #[.agg #[.int .i64 r, .int .i64 c, x], .agg #[.int .i64 r, .int .i64 c, y]] w fun e w' => e = .returned (.bool true) ∧ Below w.heap.size w w' := by
  obtain ⟨a, cap, rfl, -⟩ := hx.slice
  obtain ⟨b, cap', rfl, -⟩ := hy.slice
  have z1 := three_cells w (.int .i64 r) (.int .i64 c) (.slice a n cap) 34
  have hb1 : Below w.heap.size w (w.alloc (.cells #[.int .i64 r, .int .i64 c, .slice a n cap] 34)) := (Below.refl _ _).alloc (Nat.le_refl _) _
  have hs1 : (w.alloc (.cells #[.int .i64 r, .int .i64 c, .slice a n cap] 34)).heap.size = w.heap.size + 1 := by simp
  have z2 := three_cells (w.alloc (.cells #[.int .i64 r, .int .i64 c, .slice a n cap] 34)) (.int .i64 r) (.int .i64 c) (.slice b n cap') 34
  rw [hs1] at z2
  have hb2 : Below (w.heap.size + 1) (w.alloc (.cells #[.int .i64 r, .int .i64 c, .slice a n cap] 34)) ((w.alloc (.cells #[.int .i64 r, .int .i64 c, .slice a n cap] 34)).alloc (.cells #[.int .i64 r, .int .i64 c, .slice b n cap'] 34)) := (Below.refl _ _).alloc (by rw [hs1]; omega) _
  rw [← hs1] at hb2
  have hb := hb1.trans (hb2.mono (by omega))
  have hal := alikeRows_yes _ _ n X Y _ (hx.below hb) (hy.below hb) h
  have x0 := cell_stays hb2 (z1 0 _ rfl).1
  have x1 := cell_stays hb2 (z1 1 _ rfl).1
  have x2 := cell_stays hb2 (z1 2 _ rfl).1
  have y0 := (z2 0 _ rfl).1
  have y1 := (z2 1 _ rfl).1
  have y2 := (z2 2 _ rfl).1
  have HAL := Lib.hid hal
  have HB := Lib.hid hb
  clear hx hy h hal hb hb1 hb2 z1 z2 hs1
  go_enter Try.func21, Try.ntmps21
  go_wp2_with fail
  refine HAL.out.mono ?_
  rintro e w4 ⟨rfl, hb4⟩
  have x0 := cell_stays hb4 x0
  have x1 := cell_stays hb4 x1
  have y0 := cell_stays hb4 y0
  have y1 := cell_stays hb4 y1
  have HB4 := Lib.hid (HB.out.trans (hb4.mono HB.out.size))
  clear hb4
  go_wp2_with fail
  go_ret
  exact ⟨by simp, HB4.out⟩

end Go.Proofs.Ytdlpemmoobbgnaa

namespace Go.Proofs.Ytdlpemmoobbgnaa
open Go.RowKit

theorem of_any (n : Int) (w : World) :
    Calls Try.prog 37 #[.int .u64 n] w fun e w' => ∃ b, e = .returned (.agg #[.bool false, .slice (some ⟨b, 0, none⟩) 1 1]) ∧ w'.cell? ⟨b, 0, none⟩ = some (.int .u64 n) ∧ Below w.heap.size w w' := by
  go_enter Try.func37, Try.ntmps37
  go_wp2_with fail
  refine bodyPost_ret (v := .agg #[.bool false, .slice (some ⟨w.heap.size + 1, 0, none⟩) 1 1]) (by simp [results, Try.results37, go_sem]) rfl ⟨w.heap.size + 1, rfl, ?_, ?_⟩
  · go_simp
  · exact ((Below.refl _ _).alloc (Nat.le_refl _) _).alloc (by simp) _

theorem one_int (w2 : World) (b : Nat) (n : Int) (t : TypeId) (h0 : 0 ≤ n) (h1 : n ≤ 18446744073709551615) (hc : w2.cell? ⟨b, 0, none⟩ = some (.int .u64 n)) :
    RdL (w2.alloc (.cells #[.bool false, .slice (some ⟨b, 0, none⟩) 1 1] t)) (.slice (some ⟨w2.heap.size, 0, none⟩) 1 1) 1 (fun _ => ⟨false, 1, fun _ => n⟩) := by
  refine ⟨_, 1, rfl, Nat.le_refl _, by omega, fun _ => ⟨w2.heap.size, 0, rfl, fun i hi => ?_⟩⟩
  obtain rfl : i = 0 := by omega
  have hn := heap_alloc_new w2 (.cells #[.bool false, .slice (some ⟨b, 0, none⟩) 1 1] t)
  have hb : Below w2.heap.size w2 (w2.alloc (.cells #[.bool false, .slice (some ⟨b, 0, none⟩) 1 1] t)) := (Below.refl _ _).alloc (Nat.le_refl _) _
  refine ⟨.slice (some ⟨b, 0, none⟩) 1 1, ?_, ?_, ⟨_, 1, rfl, Nat.le_refl _, (by decide : (1 : Nat) ≤ 17592186044416), fun _ => ⟨b, 0, rfl, fun j hj => ?_⟩⟩, fun _ _ => ⟨h0, h1⟩⟩
  · rw [cell_of_row _ _ _ _ _ _ hn]; rfl
  · rw [cell_of_row _ _ _ _ _ _ hn]; rfl
  · have hj : j < 1 := hj
    obtain rfl : j = 0 := by omega
    exact cell_stays hb hc

def nine : Nat → Raw := fun _ => ⟨false, 1, fun _ => 9⟩

theorem wake1 : belowU 10 = 7 := by decide +kernel
theorem wake2 : belowE 10 = 0 := by decide +kernel
theorem wake3 : detE 1 1 1 7 = 0 := by decide +kernel
theorem wake4 : detV 1 1 1 nine 7 = 2 := by decide +kernel

set_option maxHeartbeats 400000 in
theorem wakes_any (w : World) : Calls Try.prog 11 #[] w fun e w' => e = .returned (.bool true) ∧ Below w.heap.size w w' := by
  go_enter Try.func11, Try.ntmps11
  go_wp2_with (first | (go_at_call 13; refine (Below_any 10 (by omega) _).mono ?_; rw [wake1, wake2]; rintro e w1 ⟨rfl, rfl⟩) | (go_at_call 37; refine (of_any 9 _).mono ?_; rintro e w2 ⟨b, rfl, hc2, hb2⟩))
  have hr := one_int w2 b 9 56 (by omega) (by omega) hc2
  refine (Det_any 1 1 7 (by omega) _ 1 nine _ hr).mono ?_
  rw [wake3, wake4]
  rintro e w3 ⟨rfl, hb3⟩
  go_wp2_with fail
  go_ret
  exact ⟨rfl, (hb2.trans ((Below.refl _ _).alloc hb2.size _)).trans (hb3.mono (by have := hb2.size; simp; omega))⟩
end Go.Proofs.Ytdlpemmoobbgnaa
