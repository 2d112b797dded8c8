/- The walk of the law BareissLeads. 'BareissLeads', where what it reads is of bulk at most 1,048,576: for every matrix m and k the law returns true and its arguments read as before. -/
import Derived.Test.YtncldpadakckjaaGI
import Derived.Test.YtncldpadakckjaaRows
import Derived.Test.YtncldpadakckjaaGH
import Derived.ProofKit
import Derived.OpenShut
import Derived.Carry
import Derived.JoinedCond
set_option linter.unusedVariables false
set_option linter.unusedSimpArgs false
namespace Go.Proofs.Ytncldpadakckjaa
open Go.RowKit

theorem leadD_zb {A : Nat → Int} {R S : Nat} (hA : ∀ q, q < R * R → ZB S (A q)) (hR : R ≤ 64) {k : Nat} (hk : k ≤ R) : ZB (64 * (S + 1) + 1) (leadD A R k) := by
  have h : ZB (k * (S + 1) + 1) (leadD A R k) := dtZ_zb k _ (by omega) fun i j hi hj => hA _ (idx_lt (show i < R by omega) (show j < R by omega) rfl).1
  exact h.mono (by have := Nat.mul_le_mul_right (S + 1) (show k ≤ 64 by omega); omega)
theorem leadD_all (A : Nat → Int) (R : Nat) : laZ.dt R (fun i j => A (i * R + j)) = leadD A R R := rfl
theorem zb_one : ZB 1 1 := by unfold ZB; decide
theorem cmpZ_self (a : Int) : cmpZ a a = 0 := by unfold cmpZ; rw [if_neg (by omega), if_neg (by omega)]

theorem zCmp_eq (x y : Value) (a : Int) (w : World) (hx : RdZ w x a) (hy : RdZ w y a) :
    Calls Try.prog 37 #[x, y] w fun e w' => e = .returned (.int .i64 0) ∧ Below w.heap.size w w' := by
  have h := zCmp_any x y a a w hx hy
  rw [cmpZ_self] at h
  exact h

set_option maxHeartbeats 4000000 in
set_option maxRecDepth 100000 in
theorem Leads_done (r c : Int) (s : Value) (k : Int) (w : World) (hd : ∀ u : World, Calls Try.prog 38 #[.agg #[.int .i64 r, .int .i64 c, s]] u fun e w' => e = .returned (.tuple #[.bool true, .bool true]) ∧ Below u.heap.size u w') :
    Calls Try.prog 8 #[.agg #[.int .i64 r, .int .i64 c, s], .int .i64 k] w fun e w' => e = .returned (.bool true) ∧ Below w.heap.size w w' := by
  obtain ⟨⟨c0, c1, c2⟩, hB, hsz⟩ := boxM w (.int .i64 r) (.int .i64 c) s
  have HD := Lib.hid hd
  have HB := Lib.hid hB
  clear hd hB hsz
  go_enter Try.func8, Try.ntmps8
  go_upto_region 1 with fail
  generalize w.alloc (.cells #[.int .i64 r, .int .i64 c, s] 24) = W at *
  go_wp2_with fail
  (refine (HD.out W).mono ?_)
  rintro e w1 ⟨rfl, hb1⟩
  have HB1 := Lib.hid (below_via HB.out hb1)
  clear hb1 HD HB c0 c1 c2
  go_wp2_with fail
  (refine (awake_any w1).mono ?_)
  rintro e w2 ⟨rfl, hb2⟩
  have HB2 := Lib.hid (below_via HB1.out hb2)
  clear hb2 HB1
  go_wp2_with fail
  (refine (awake_any w2).mono ?_)
  rintro e w3 ⟨rfl, hb3⟩
  have HB3 := Lib.hid (below_via HB2.out hb3)
  clear hb3 HB2
  go_wp2_with fail
  go_ret
  exact ⟨rfl, HB3.out⟩

set_option maxHeartbeats 8000000 in
set_option maxRecDepth 100000 in
theorem Leads_good (R : Nat) (k : Int) (sl : Value) (A : Nat → Int) (S : Nat) (w : World) (hR : R ≤ 64) (hS : S ≤ 268435456) (hr : RdE w sl (R * R) A) (hA : ∀ q, q < R * R → ZB S (A q)) :
    Calls Try.prog 8 #[.agg #[.int .i64 R, .int .i64 R, sl], .int .i64 k] w fun e w' => e = .returned (.bool true) ∧ Below w.heap.size w w' := by
  have hK4 : R * R ≤ 4096 := Nat.mul_le_mul hR hR
  have hS1 : 64 * (S + 1) + 1 ≤ 274877906944 := by omega
  obtain ⟨a, cap, rfl, hcap⟩ := hr.slice
  obtain ⟨⟨c0, c1, c2⟩, hB, hsz⟩ := boxM w (.int .i64 R) (.int .i64 R) (.slice a (R * R) cap)
  have hrf := fun (u : World) (hu : Below w.heap.size w u) => refused_good R S _ A u hR hS (hr.below hu) hA
  have hld := fun (u : World) (hu : Below w.heap.size w u) => Leading_good R S _ A u hR hS (hr.below hu) hA
  have hdt := fun (u : World) (hu : Below w.heap.size w u) => det13_good R S _ A u hR hS (hr.below hu) hA
  have hpk := fun (x : Nat) (rv cv : Value) (u : World) (hu : Below w.heap.size w u) (hx : x ≤ R) (h1 : RdI64 u rv x (fun i => i)) (h2 : RdI64 u cv x (fun i => i)) =>
    Pick_good R R x x (.slice a (R * R) cap) rv cv (fun i => i) (fun i => i) A u hR hR (by omega) (by omega) (fun i hi => by omega) (fun i hi => by omega) (hr.below hu) h1 h2
  have hdx := fun (x : Nat) (sl : Value) (u : World) (hx : x ≤ R) (h1 : RdE u sl (x * x) (firstE A R x)) => by
    have h := det13_good x S sl (firstE A R x) u (by omega) hS h1 (firstE_zb hA hx hx)
    rw [leadD_first] at h
    exact h
  have hzl := fun (x : Nat) (hx : x ≤ R) => leadD_zb hA hR hx
  simp only [leadD_all] at hdt
  generalize R * R = K at *
  have HRF := Lib.hid hrf
  have HLD := Lib.hid hld
  have HDT := Lib.hid hdt
  have HPK := Lib.hid hpk
  have HDX := Lib.hid hdx
  have HZL := Lib.hid hzl
  have HB := Lib.hid hB
  have HS1 := Lib.hid hS1
  clear hrf hld hdt hpk hdx hzl hB hA hr hsz hS1
  go_enter Try.func8, Try.ntmps8
  go_upto_region 1 with fail
  generalize w.alloc (.cells #[.int .i64 R, .int .i64 R, .slice a K cap] 24) = W at *
  go_wp2_with fail
  (refine (HRF.out W HB.out).mono ?_)
  rintro e w1 ⟨rfl, hb1⟩
  have HB1 := Lib.hid (below_via HB.out hb1)
  replace c0 := cell_stays hb1 c0
  replace c1 := cell_stays hb1 c1
  replace c2 := cell_stays hb1 c2
  clear hb1 HRF HB
  go_wp2_with fail
  (refine (awake_any w1).mono ?_)
  rintro e w2 ⟨rfl, hb2⟩
  have HB2 := Lib.hid (below_via HB1.out hb2)
  replace c0 := cell_stays hb2 c0
  replace c1 := cell_stays hb2 c1
  replace c2 := cell_stays hb2 c2
  clear hb2 HB1
  go_wp2_with fail
  (refine (HLD.out w2 HB2.out).mono ?_)
  rintro e w3 ⟨lv, rfl, ho3, hb3⟩
  have HB3 := Lib.hid (below_via HB2.out hb3)
  have hre := ho3.read (by omega) HS1.out (fun i hi => HZL.out i (by omega))
  obtain ⟨la, lc, rfl, hlc⟩ := hre.slice
  replace c0 := cell_stays hb3 c0
  replace c1 := cell_stays hb3 c1
  replace c2 := cell_stays hb3 c2
  have HRE := Lib.hid hre
  clear hb3 HLD HB2 ho3 hre
  go_wp2_with fail
  (refine (HDT.out w3 HB3.out).mono ?_)
  rintro e w4 ⟨dv, rfl, hf4, hb4⟩
  have hz4 := hf4.rd (HZL.out R (Nat.le_refl _)) HS1.out
  obtain ⟨am, an, ac, rfl, -⟩ := hf4.agg
  obtain ⟨sg, hsg⟩ : ∃ sg, sg = decide (leadD A R R < 0) := ⟨_, rfl⟩
  rw [← hsg] at hz4 ⊢
  have hba := bl_alloc w4 (.cells #[.bool sg, .slice am an ac] 42)
  have hb5 := below_via hb4 hba
  obtain ⟨d0, d1, d0', d1'⟩ := two_cells w4 (.bool sg) (.slice am an ac) 42
  have HZ5 := Lib.hid (hz4.below hba)
  have HRE5 := Lib.hid (HRE.out.below hb5)
  have HB5 := Lib.hid (below_via HB3.out hb5)
  replace c0 := cell_stays hb5 c0
  replace c1 := cell_stays hb5 c1
  replace c2 := cell_stays hb5 c2
  obtain ⟨lb, lo, s00, m00, rfl, -, -, -⟩ := HRE.out.get (show 0 < R + 1 by omega)
  have hw3 : w.heap.size ≤ w3.heap.size := HB3.out.size
  have hlb : w3.heap.size ≤ w4.heap.size := hb4.size
  have HL5 := Lib.hid hb5
  clear hb4 hba hb5 hf4 hz4 hsg HDT HB3
  go_upto_region 6 with fail
  generalize w4.heap.size = db at *
  generalize w4.alloc (.cells #[.bool sg, .slice am an ac] 42) = w5 at *
  obtain ⟨lb', lo', s0, m0, e', l0, l1, hz0⟩ := HRE5.out.get (show 0 < R + 1 by omega)
  simp only [Option.some.injEq, Addr.mk.injEq, and_true] at e'
  obtain ⟨rfl, rfl⟩ := e'
  obtain ⟨lb', lo', sR, mR, e', r0, r1, hzR⟩ := HRE5.out.get (show R < R + 1 by omega)
  simp only [Option.some.injEq, Addr.mk.injEq, and_true] at e'
  obtain ⟨rfl, rfl⟩ := e'
  obtain ⟨a0, n0, k0, rfl⟩ := hz0.agg
  obtain ⟨aR, nR, kR, rfl⟩ := hzR.agg
  rw [Nat.zero_mul, Nat.add_zero] at l0 l1
  have hx0 : ∀ u : World, Below w5.heap.size w5 u → Below w.heap.size w u := fun u hu => below_via HB5.out hu
  have HX := Lib.hid hx0
  have hR1 : (R : Int) < (R : Int) + 1 := by omega
  have hR2 : (R : Int) < ((R + 1 : Nat) : Int) := by omega
  have h01 : (0 : Int) < ((R + 1 : Nat) : Int) := by omega
  have HZ0 := Lib.hid hz0
  have HZR := Lib.hid hzR
  have T5 := Lib.hid (And.intro c0 (And.intro l0 (And.intro l1 (And.intro r0 (And.intro r1 (And.intro d0 d1))))))
  have U1 := Lib.hid (fun u (hu : Below w5.heap.size w5 u) => zOf_fr 1 (by omega) (by omega) u)
  clear hx0 hz0 hzR
  go_cut [56] (fun v wx => v = .bool false ∧ Below w5.heap.size w5 wx)
  case first =>
    go_region_held3 (fun w' => w'.cell? ⟨w.heap.size, 0, none⟩ = some (.int .i64 R) ∧ w'.cell? ⟨lb, lo, none⟩ = some (.bool s0) ∧ w'.cell? ⟨lb, lo + 1, none⟩ = some (.slice a0 n0 k0) ∧ w'.cell? ⟨lb, lo + R * 2, none⟩ = some (.bool sR) ∧ w'.cell? ⟨lb, lo + R * 2 + 1, none⟩ = some (.slice aR nR kR) ∧ w'.cell? ⟨db, 0, none⟩ = some (.bool sg) ∧ w'.cell? ⟨db, 1, none⟩ = some (.slice am an ac))
      (first
        | exact T5.out
        | exact T_w6.out
        | exact T_w7.out
        | exact T_w8.out
        | go_keep)
      (first
        | (go_at_call 40; (first | (with_reducible refine (U1.out _ (bl_refl _)).mono ?_) | (with_reducible refine (U1.out _ (bl_drew _)).mono ?_)); rintro e w6 ⟨v6, rfl, f6, bb_w6⟩
           have b_w6 : Below w5.heap.size w5 w6 := by first | (with_reducible exact below_via (bl_refl _) bb_w6) | (with_reducible exact below_via (bl_drew _) bb_w6)
           have T_w6 := Lib.hid (show w6.cell? ⟨w.heap.size, 0, none⟩ = some (.int .i64 R) ∧ w6.cell? ⟨lb, lo, none⟩ = some (.bool s0) ∧ w6.cell? ⟨lb, lo + 1, none⟩ = some (.slice a0 n0 k0) ∧ w6.cell? ⟨lb, lo + R * 2, none⟩ = some (.bool sR) ∧ w6.cell? ⟨lb, lo + R * 2 + 1, none⟩ = some (.slice aR nR kR) ∧ w6.cell? ⟨db, 0, none⟩ = some (.bool sg) ∧ w6.cell? ⟨db, 1, none⟩ = some (.slice am an ac) from ⟨cell_stays b_w6 (T5.out.1), cell_stays b_w6 (T5.out.2.1), cell_stays b_w6 (T5.out.2.2.1), cell_stays b_w6 (T5.out.2.2.2.1), cell_stays b_w6 (T5.out.2.2.2.2.1), cell_stays b_w6 (T5.out.2.2.2.2.2.1), cell_stays b_w6 (T5.out.2.2.2.2.2.2)⟩)
           have F6 := Lib.hid (f6.rd zb_one (by omega))
           have U2 := Lib.hid (fun u (hu : Below w6.heap.size w6 u) => zCmp_any _ v6 (leadD A R 0) 1 u (HZ0.out.below (below_via b_w6 hu)) (F6.out.below hu))
           clear bb_w6)
        | (go_at_call_of 37 (Value.agg #[.bool s0, .slice a0 n0 k0]); (first | (with_reducible refine (U2.out _ (bl_refl _)).mono ?_)); rintro e w7 ⟨rfl, bb_w7⟩
           have b_w7 : Below w6.heap.size w6 w7 := by first | (with_reducible exact below_via (bl_refl _) bb_w7)
           have T_w7 := Lib.hid (show w7.cell? ⟨w.heap.size, 0, none⟩ = some (.int .i64 R) ∧ w7.cell? ⟨lb, lo, none⟩ = some (.bool s0) ∧ w7.cell? ⟨lb, lo + 1, none⟩ = some (.slice a0 n0 k0) ∧ w7.cell? ⟨lb, lo + R * 2, none⟩ = some (.bool sR) ∧ w7.cell? ⟨lb, lo + R * 2 + 1, none⟩ = some (.slice aR nR kR) ∧ w7.cell? ⟨db, 0, none⟩ = some (.bool sg) ∧ w7.cell? ⟨db, 1, none⟩ = some (.slice am an ac) from ⟨cell_stays b_w7 (T_w6.out.1), cell_stays b_w7 (T_w6.out.2.1), cell_stays b_w7 (T_w6.out.2.2.1), cell_stays b_w7 (T_w6.out.2.2.2.1), cell_stays b_w7 (T_w6.out.2.2.2.2.1), cell_stays b_w7 (T_w6.out.2.2.2.2.2.1), cell_stays b_w7 (T_w6.out.2.2.2.2.2.2)⟩)
           have U3 := Lib.hid (fun u (hu : Below w7.heap.size w7 u) => zCmp_eq _ _ (leadD A R R) u (HZR.out.below (below_via b_w6 (below_via b_w7 hu))) (HZ5.out.below (below_via b_w6 (below_via b_w7 hu))))
           clear bb_w7)
        | (go_at_call 37; (first | (with_reducible refine (U3.out _ (bl_refl _)).mono ?_)); rintro e w8 ⟨rfl, bb_w8⟩
           have b_w8 : Below w7.heap.size w7 w8 := by first | (with_reducible exact below_via (bl_refl _) bb_w8)
           have T_w8 := Lib.hid (show w8.cell? ⟨w.heap.size, 0, none⟩ = some (.int .i64 R) ∧ w8.cell? ⟨lb, lo, none⟩ = some (.bool s0) ∧ w8.cell? ⟨lb, lo + 1, none⟩ = some (.slice a0 n0 k0) ∧ w8.cell? ⟨lb, lo + R * 2, none⟩ = some (.bool sR) ∧ w8.cell? ⟨lb, lo + R * 2 + 1, none⟩ = some (.slice aR nR kR) ∧ w8.cell? ⟨db, 0, none⟩ = some (.bool sg) ∧ w8.cell? ⟨db, 1, none⟩ = some (.slice am an ac) from ⟨cell_stays b_w8 (T_w7.out.1), cell_stays b_w8 (T_w7.out.2.1), cell_stays b_w8 (T_w7.out.2.2.1), cell_stays b_w8 (T_w7.out.2.2.2.1), cell_stays b_w8 (T_w7.out.2.2.2.2.1), cell_stays b_w8 (T_w7.out.2.2.2.2.2.1), cell_stays b_w8 (T_w7.out.2.2.2.2.2.2)⟩)
           clear bb_w8))
    all_goals
      go_wp2_with fail
      go_meet
      exact ⟨rfl, below_via (below_via b_w6 b_w7) b_w8⟩
  case rest =>
  obtain ⟨rfl, hb9⟩ := hcut
  obtain ⟨w9, hw9⟩ : ∃ x, x = wc := ⟨_, rfl⟩
  subst hw9
  have HB9 := Lib.hid (HX.out _ hb9)
  have HL9 := Lib.hid (below_via HL5.out hb9)
  replace d0' := froz_stays hb9 d0 d0'
  replace d1' := froz_stays hb9 d1 d1'
  replace d0 := cell_stays hb9 d0
  replace d1 := cell_stays hb9 d1
  replace c0 := cell_stays hb9 c0
  replace c1 := cell_stays hb9 c1
  replace c2 := cell_stays hb9 c2
  clear hb9 HX HL5 HB5 HRE5 HZ5 HZ0 HZR T5 U1 l0 l1 r0 r1 h01 hR1 hR2
  by_cases hk0 : k < 0
  · go_wp2_with fail
    go_ret
    exact ⟨rfl, HB9.out⟩
  by_cases hk1 : (R : Int) < k
  · go_wp2_with fail
    go_ret
    exact ⟨rfl, HB9.out⟩
  obtain ⟨x, rfl⟩ := Int.eq_ofNat_of_zero_le (show 0 ≤ k by omega)
  have hx : x ≤ R := by omega
  go_upto_region 10 with fail
  have hx0 : ∀ u : World, Below w9.heap.size w9 u → Below w.heap.size w u := fun u hu => below_via HB9.out hu
  have HX := Lib.hid hx0
  have hxC : x * x ≤ 1048576 := Nat.le_trans (Nat.mul_le_mul (show x ≤ 64 by omega) (show x ≤ 64 by omega)) (by decide)
  have T9 := Lib.hid (And.intro c0 (And.intro c1 c2))
  have hblk : w.heap.size < w9.heap.size := World.block_lt_of_cell? _ _ c0
  have U1 := Lib.hid (fun u (hu : Below w9.heap.size w9 u) => upto_any x (by omega) u)
  clear hx0
  go_cut [11] (fun v9 wx => ∃ q, v9 = .pointer (some ⟨q, 0, none⟩) ∧ BoxE w9 wx q x x (x * x) (firstE A R x))
  case first =>
    go_region_held3 (fun w' => w'.cell? ⟨w.heap.size, 0, none⟩ = some (.int .i64 R) ∧ w'.cell? ⟨w.heap.size, 1, none⟩ = some (.int .i64 R) ∧ w'.cell? ⟨w.heap.size, 2, none⟩ = some (.slice a K cap))
      (first
        | exact stay3 (bl_drew _) (T9.out)
        | exact stay3 (bl_drew_alloc _ _) (T9.out)
        | exact stay3 (bl_alloc _ _) (T9.out)
        | exact stay3 (bl_alloc_drew _ _) (T9.out)
        | exact stay3 b_w10 (T9.out)
        | exact stay3 (bl_alloc _ _) (stay3 b_w10 (T9.out))
        | exact stay3 (bl_alloc_drew _ _) (stay3 b_w10 (T9.out))
        | exact stay3 b_w11 (stay3 b_w10 (T9.out))
        | exact stay3 (bl_alloc _ _) (stay3 b_w11 (stay3 b_w10 (T9.out)))
        | exact stay3 (bl_alloc_drew _ _) (stay3 b_w11 (stay3 b_w10 (T9.out)))
        | exact stay3 b_w12 (stay3 b_w11 (stay3 b_w10 (T9.out)))
        | exact stay3 (bl_alloc _ _) (stay3 b_w12 (stay3 b_w11 (stay3 b_w10 (T9.out))))
        | exact stay3 (bl_alloc_drew _ _) (stay3 b_w12 (stay3 b_w11 (stay3 b_w10 (T9.out))))
        | exact far3 (by omega) (stay3 b_w12 (stay3 b_w11 (stay3 b_w10 (T9.out))))
        | go_keep)
      (first
        | (go_at_call 19; (first | (with_reducible refine (U1.out _ (bl_refl _)).mono ?_) | (with_reducible refine (U1.out _ (bl_alloc _ _)).mono ?_) | (with_reducible refine (U1.out _ (bl_drew _)).mono ?_) | (with_reducible refine (U1.out _ (bl_drew_alloc _ _)).mono ?_) | (with_reducible refine (U1.out _ (bl_alloc_drew _ _)).mono ?_)); rintro e w10 ⟨v10, rfl, f10, bb_w10⟩
           have b_w10 : Below w9.heap.size w9 w10 := by first | (with_reducible exact below_via (bl_refl _) bb_w10) | (with_reducible exact below_via (bl_alloc _ _) bb_w10) | (with_reducible exact below_via (bl_drew _) bb_w10) | (with_reducible exact below_via (bl_drew_alloc _ _) bb_w10) | (with_reducible exact below_via (bl_alloc_drew _ _) bb_w10)
           have s_w10 : w9.heap.size ≤ w10.heap.size := b_w10.size
           (first | (replace ZB := ZB; replace ZB := Lib.hid (box_on b_w10 ZB.out)) | (have ZB := Lib.hid (box_after_d bb_w10)) | (have ZB := Lib.hid (box_after_e bb_w10)) | (have ZB := Lib.hid (box_after bb_w10)) | skip)
           have F10 := Lib.hid (f10)
           have U2 := Lib.hid (fun u (hu : Below w10.heap.size w10 u) => upto_any x (by omega) u)
           clear bb_w10)
        | (go_at_call 19; (first | (with_reducible refine (U2.out _ (bl_refl _)).mono ?_) | (with_reducible refine (U2.out _ (bl_alloc _ _)).mono ?_)); rintro e w11 ⟨v11, rfl, f11, bb_w11⟩
           have b_w11 : Below w10.heap.size w10 w11 := by first | (with_reducible exact below_via (bl_refl _) bb_w11) | (with_reducible exact below_via (bl_alloc _ _) bb_w11)
           have s_w11 : w10.heap.size ≤ w11.heap.size := b_w11.size
           (first | (replace ZB := ZB; replace ZB := Lib.hid (box_on b_w11 ZB.out)) | (have ZB := Lib.hid (box_after_d bb_w11)) | (have ZB := Lib.hid (box_after_e bb_w11)) | (have ZB := Lib.hid (box_after bb_w11)) | skip)
           have F11 := Lib.hid (f11)
           have F10' := Lib.hid (F10.out.below b_w11)
           have U3 := Lib.hid (fun u (hu : Below w11.heap.size w11 u) => HPK.out x v10 v11 u (HX.out u (below_via b_w10 (below_via b_w11 hu))) hx (F10'.out.below hu) (F11.out.below hu))
           clear bb_w11)
        | (go_at_call 18; (first | (with_reducible refine (U3.out _ (bl_refl _)).mono ?_) | (with_reducible refine (U3.out _ (bl_alloc _ _)).mono ?_)); rintro e w12 ⟨l12, rfl, f_last, bb_w12⟩
           have b_w12 : Below w11.heap.size w11 w12 := by first | (with_reducible exact below_via (bl_refl _) bb_w12) | (with_reducible exact below_via (bl_alloc _ _) bb_w12)
           have s_w12 : w11.heap.size ≤ w12.heap.size := b_w12.size
           (first | (replace ZB := ZB; have ZL := Nat.lt_of_lt_of_le (ZB.out.2.2) f_last.own; replace ZB := Lib.hid (box_on b_w12 ZB.out)) | (have ZB := Lib.hid (box_after_d bb_w12); have ZL := Nat.lt_of_lt_of_le (alloc_lt _ _) f_last.own) | (have ZB := Lib.hid (box_after_e bb_w12); have ZL := Nat.lt_of_lt_of_le (alloc_lt _ _) f_last.own) | (have ZB := Lib.hid (box_after bb_w12); have ZL := Nat.lt_of_lt_of_le (alloc_lt _ _) f_last.own) | skip)
           (first | (obtain ⟨⟨z0, z1, z2⟩, ⟨y0, y1, y2⟩, zq⟩ := ZB.out) | skip)
           have F_last := Lib.hid (f_last)
           clear bb_w12))
    all_goals
      go_wp2_with fail
      go_meet
      first
        | exact ⟨_, rfl, boxE_new F_last.out hxC (below_via (below_via (b_w10) b_w11) b_w12) _ _⟩
        | exact ⟨_, rfl, boxE_old F_last.out hxC (below_via (below_via (b_w10) b_w11) b_w12) _ _ (by omega) ZL ZB.out⟩
  case rest =>
  obtain ⟨q, rfl, hbx⟩ := hcut
  obtain ⟨hb13, pb, ⟨e0, e1, e2⟩, hrd⟩ := hbx
  have HDP := Lib.hid (HDX.out x _ wc hx hrd)
  have HB13 := Lib.hid (HX.out _ hb13)
  have HL13 := Lib.hid (below_via HL9.out hb13)
  replace d0' := froz_stays hb13 d0 d0'
  replace d1' := froz_stays hb13 d1 d1'
  replace d0 := cell_stays hb13 d0
  replace d1 := cell_stays hb13 d1
  clear hb13 hrd HX T9 U1 c0 c1 c2 hblk HB9 HL9
  have hdb : db < wc.heap.size := World.block_lt_of_cell? _ _ d0
  go_wp2_with fail
  (refine HDP.out.mono ?_)
  rintro e w14 ⟨v14, rfl, hf14, hb14⟩
  replace d0' := froz_stays hb14 d0 d0'
  replace d1' := froz_stays hb14 d1 d1'
  replace d0 := cell_stays hb14 d0
  replace d1 := cell_stays hb14 d1
  obtain ⟨am', an', ac', rfl, hf15⟩ := (hf14.mono (show db + 1 ≤ wc.heap.size by omega)).stored
  have hz15 := hf15.rd (HZL.out x hx) HS1.out
  have hg15 := stored2_gb w14 db (.bool (decide (leadD A R x < 0))) (.slice am' an' ac')
  have hl15 := (below_via HL13.out hb14).grown hg15 (below_via HL13.out hb14).size (fun k hk => by injection hk with hk; omega)
  have hb15 := (below_via HB13.out hb14).grown hg15 (below_via HB13.out hb14).size (fun k hk => by injection hk with hk; omega)
  obtain ⟨y0, y1⟩ := two_own (x0 := .bool (decide (leadD A R x < 0))) (x1 := .slice am' an' ac') d0 d1
  obtain ⟨lb', lo', sx, mx, e', l0, l1, hzx⟩ := (HRE.out.below hl15).get (show x < R + 1 by omega)
  simp only [Option.some.injEq, Addr.mk.injEq, and_true] at e'
  obtain ⟨rfl, rfl⟩ := e'
  obtain ⟨ax, nx, kx, rfl⟩ := hzx.agg
  have HL15 := Lib.hid hb15
  have HZ15 := Lib.hid (hf15.rd (HZL.out x hx) HS1.out)
  have HZX := Lib.hid hzx
  obtain ⟨sx', hsx'⟩ : ∃ sx', sx' = decide (leadD A R x < 0) := ⟨_, rfl⟩
  rw [← hsx'] at HL15 HZ15 HZX y0 y1 l0 l1 ⊢
  clear hf14 hb14 hf15 hz15 hg15 hl15 hb15 hzx HDP HL13 HB13 hsx'
  have hx1 : (x : Int) < (R : Int) + 1 := by omega
  have hx2 : (x : Int) < ((R + 1 : Nat) : Int) := by omega
  go_upto_region 12 with fail
  unfold stored2 at HL15 HZ15 HZX y0 y1 l0 l1
  generalize (w14.setCell ⟨db, 0, none⟩ (.bool sx')).setCell ⟨db, 1, none⟩ (.slice am' an' ac') = w15 at *
  have T15 := Lib.hid (And.intro l0 (And.intro l1 (And.intro y0 y1)))
  have U1 := Lib.hid (fun u (hu : Below w15.heap.size w15 u) => zCmp_eq _ _ (leadD A R x) u (HZX.out.below hu) (HZ15.out.below hu))
  go_region_held3 (fun w' => w'.cell? ⟨lb, lo + x * 2, none⟩ = some (.bool sx) ∧ w'.cell? ⟨lb, lo + x * 2 + 1, none⟩ = some (.slice ax nx kx) ∧ w'.cell? ⟨db, 0, none⟩ = some (.bool sx') ∧ w'.cell? ⟨db, 1, none⟩ = some (.slice am' an' ac'))
    (first
      | exact T15.out
      | exact T_w16.out
      | go_keep)
    (first
      | (go_at_call 37; (first | (with_reducible refine (U1.out _ (bl_refl _)).mono ?_) | (with_reducible refine (U1.out _ (bl_drew _)).mono ?_)); rintro e w16 ⟨rfl, bb_w16⟩
         have b_w16 : Below w15.heap.size w15 w16 := by first | (with_reducible exact below_via (bl_refl _) bb_w16) | (with_reducible exact below_via (bl_drew _) bb_w16)
         have T_w16 := Lib.hid (show w16.cell? ⟨lb, lo + x * 2, none⟩ = some (.bool sx) ∧ w16.cell? ⟨lb, lo + x * 2 + 1, none⟩ = some (.slice ax nx kx) ∧ w16.cell? ⟨db, 0, none⟩ = some (.bool sx') ∧ w16.cell? ⟨db, 1, none⟩ = some (.slice am' an' ac') from ⟨cell_stays b_w16 (T15.out.1), cell_stays b_w16 (T15.out.2.1), cell_stays b_w16 (T15.out.2.2.1), cell_stays b_w16 (T15.out.2.2.2)⟩)
         clear bb_w16))
  all_goals
    go_wp2_with fail
    go_ret
    exact ⟨rfl, below_via HL15.out b_w16⟩

/-- the law, for any arguments -/
theorem Leads_law (r c k : Int) (s : Value) (n : Nat) (x : Nat → Raw) (w : World) (hr : RdL w s n x) (hx : ∀ i, i < n → (x i).n ≤ 1048576) :
    Calls Try.prog 8 #[.agg #[.int .i64 r, .int .i64 c, s], .int .i64 k] w fun e w' => e = .returned (.bool true) ∧ Below w.heap.size w w' := by
  obtain ⟨a, cap, rfl, hcap, hn, -⟩ := id hr
  rcases check_cases r c n with h | ⟨R, C, rfl, rfl, hR, hC, rfl⟩
  · exact Leads_done r c _ k w fun u => refused_bad r c a n cap (by omega) h u
  · by_cases e : R = C
    · subst e
      have hK4 : R * R ≤ 4096 := Nat.mul_le_mul hR hC
      exact Leads_good R k _ (fun i => (x i).val) 1048576 w hR (by omega) (hr.rde (by omega) (fun i hi => by have := hx i hi; omega)) (hr.zbs hx)
    · exact Leads_done R C _ k w fun u => refused_unfit R C a (R * C) cap (by omega) (checkE_ok hR hC rfl) (by omega) u
end Go.Proofs.Ytncldpadakckjaa

namespace Go.Proofs.Ytncldpadakckjaa.bareissLeads
open Go.ChangeShapes Go.WideShapes Go.ChangeAt Go.RowKit

theorem own : ownKnob Try.prog.godebug = none := by kernel_rfl

set_option maxRecDepth 100000 in
theorem contract (H : Type) (enc : TypeId × Value → H) (W : World) (base : Nat) (args : Array Value) (ds gs : List (DataW H)) (before : List MemPlace)
    (hval : ∀ (j : Nat) t v, Try.f8.params[j]? = some t → args[j]? = some v → Value.okWide Try.prog W .any base t v)
    (hW : DataW.Whole enc Try.prog Try.f8.params.toList Rows.bareissLeadsSpec.vars false W args.toList ds gs before) (hk : Rows.uptoSmall H (ds ++ gs) = true) :
    Calls Try.prog 8 args W fun e W' => ∃ v, e = .returned v ∧ Rows.bareissLeadsSpec.post enc Try.prog Try.f8 false true false false W args v W' := by
  have hW' := hW
  have hlt : ∀ x ∈ before, x.block < W.heap.size := fun x hx => hW.lt x hx
  obtain ⟨p, q, hA0, hV, rfl, hfz, hnd⟩ := hW
  have hA : DataW.TrodAll enc Try.prog W 0 (fun _ => true) true Try.f8.params.toList args.toList ds p := hA0
  rw [Try.params8] at hA hval
  obtain ⟨v0, vs0, d0, ds0, p0, q0, hargs, rfl, rfl, h0, r0⟩ := trodAll_cons hA
  obtain ⟨v1, vs1, d1, ds1, p1, q1, rfl, rfl, rfl, h1, r1⟩ := trodAll_cons r0
  obtain ⟨rfl, rfl, rfl⟩ := trodAll_nil r1
  obtain rfl : args = #[v0, v1] := by cases args; simp_all
  obtain ⟨rfl, rfl⟩ := trodVars_none hV
  have h0k := h0
  obtain ⟨k1, rfl, rfl, rfl, wk1⟩ := open_int Try.underlying3 (hval 1 3 v1 rfl rfl) h1
  clear hA0
  simp only [List.append_nil] at hW' hk hlt
  have hbk : Rows.uptoBulkAll [d0, DataW.lit (.int .i64 k1)] ≤ 1048576 := of_decide_eq_true hk
  simp only [Rows.uptoBulkAll] at hbk
  obtain ⟨R0, C0, s0, n0, x0, rfl, hr0, hn0, hx0, -, -⟩ := open_mat (B := 1048576) (hval 0 24 v0 rfl rfl) h0 (by omega) (by omega)
  have bk1 : -9223372036854775808 ≤ k1 ∧ k1 ≤ 9223372036854775807 := by simp [Lit.wf, IntKind.min, IntKind.max, IntKind.signed, IntKind.bits] at wk1; omega
  refine (Leads_law R0 C0 k1 s0 n0 x0 W hr0 hx0).mono fun e W' ⟨he, hg⟩ => ?_
  subst he
  refine ⟨_, rfl, post_of_below (pa := (p0 ++ ([] ++ []))) (pv := []) hW' (fun _ _ _ => (trodAll_cons_mk (shut_bool Try.underlying4 _) trodAll_mk0)) (fun sp hsp => (trodAll_cons_mk (WideElems.Trod_stays (P := Try.prog) (by kernel_rfl) (by kernel_rfl) (of_decide_eq_true (by kernel_rfl)) h0k (fun x hx => hg.same (hlt x (by simp [hx]))) (fun x hx => hsp x (by simp [hx]))) (trodAll_cons_mk (shut_int Try.underlying3 wk1) trodAll_mk0))) (fun _ _ => rfl) (by simp)
    hg (ok_one (by kernel_rfl) rfl (okWide_bool_mk Try.underlying4 _))⟩

set_option maxRecDepth 100000 in
theorem lifted (os : Os) (started : os.Started) (H : Type) (enc : TypeId × Value → H) (F : Stop.Interp) :
    ReturnsInHanded {} Try.checked os 8 .any ((Rows.OpenSpec.upto Rows.bareissLeadsSpec).pre6 enc Try.prog Try.f8 Rows.bareissLeadsUptoRow.domain false) (((Rows.OpenSpec.upto Rows.bareissLeadsSpec).at F).post enc Try.prog Try.f8 false true false false) := by
  refine returnsInHanded_of_cond (C := Try.checked) (s := Rows.OpenSpec.upto Rows.bareissLeadsSpec) (k := Rows.uptoSmall) rfl own started (by kernel_rfl) Try.func8
    (OpenSpec.witness (enc := enc) (C := Try.checked) (s := Rows.OpenSpec.upto Rows.bareissLeadsSpec) (k := Rows.uptoSmall) rfl false ⟨#[], #[.agg #[.int .i64 0, .int .i64 0, .slice none 0 0], .int .i64 0], []⟩ 8 (by kernel_rfl) (by kernel_rfl) (by kernel_rfl)
      (x := ([.agg [.lit (.int .i64 0), .lit (.int .i64 0), .nil], .lit (.int .i64 0)], [], [])) (by kernel_rfl) rfl (by kernel_rfl)) ?_
  intro W base args ds gs before hval hW _ hk _
  exact contract H enc W base args ds gs before hval hW hk

/-- the statement -/
theorem proved : Rows.BareissLeadsUptoSaid :=
  OpenClaim.holds_of_cond 8 Try.f8 rfl rfl rfl rfl rfl rfl rfl ⟨rfl, rfl, rfl, rfl, rfl⟩ rfl rfl rfl rfl rfl (by kernel_rfl) Try.func8 (by kernel_rfl)
    (of_decide_eq_true (by kernel_rfl)) (by unfold Func.isWrapper; first | (rw [if_pos (by decide +kernel)]; kernel_rfl) | (rw [if_neg (by decide +kernel)]; exact ⟨rfl, rfl⟩))
    (fun os started H enc _ F => lifted os started H enc F)
#print axioms proved
end Go.Proofs.Ytncldpadakckjaa.bareissLeads
