/- The walk of the law BareissSets. 'BareissSets', where what it reads is of bulk at most 1,048,576: for every matrix m and k the law returns true and its arguments read as before. -/
import Derived.Test.YtncldpadakckjaaGH
import Derived.Test.YtncldpadakckjaaRows
import Derived.ProofKit
import Derived.OpenShut
import Derived.Carry
import Derived.JoinedCond
set_option linter.unusedVariables false
set_option linter.unusedSimpArgs false
namespace Go.Proofs.Ytncldpadakckjaa
open Go.RowKit

theorem idx_dm {c i j : Nat} (hj : j < c) : (i * c + j) / c = i ∧ (i * c + j) % c = j := by
  have h1 : (i * c + j) % c = j := by rw [Nat.add_comm, Nat.add_mul_mod_self_right, Nat.mod_eq_of_lt hj]
  have h2 : (i * c + j) / c = i := by rw [Nat.add_comm, Nat.add_mul_div_right _ _ (by omega), Nat.div_eq_of_lt hj, Nat.zero_add]
  exact ⟨h2, h1⟩
theorem idx_at {r c q : Nat} (hq : q < r * c) : q / c < r ∧ q % c < c := by
  have hC : 0 < c := Nat.pos_of_ne_zero fun e => by rw [e, Nat.mul_zero] at hq; omega
  exact ⟨(Nat.div_lt_iff_lt_mul hC).2 hq, Nat.mod_lt _ hC⟩

/-- the first a rows and b columns, as Pick lays them -/
def firstE (A : Nat → Int) (C b q : Nat) : Int := A (q / b * C + q % b)
theorem firstE_at (A : Nat → Int) (C b i j : Nat) (hj : j < b) : firstE A C b (i * b + j) = A (i * C + j) := by
  obtain ⟨h1, h2⟩ := idx_dm (i := i) hj
  unfold firstE; rw [h1, h2]
theorem firstE_zb {A : Nat → Int} {R C S a b : Nat} (hA : ∀ q, q < R * C → ZB S (A q)) (ha : a ≤ R) (hb : b ≤ C) : ∀ q, q < a * b → ZB S (firstE A C b q) := fun q hq => by
  obtain ⟨h1, h2⟩ := idx_at hq
  exact hA _ (idx_lt (show q / b < R by omega) (show q % b < C by omega) rfl).1

set_option maxHeartbeats 4000000 in
set_option maxRecDepth 100000 in
theorem Sets_bad (r c k : Int) (a : Option Addr) (n cap : Nat) (hn : n ≤ 17592186044416) (hE : checkE r c n = 1) (w : World) :
    Calls Try.prog 3 #[.agg #[.int .i64 r, .int .i64 c, .slice a n cap], .int .i64 k] w fun e w' => e = .returned (.bool true) ∧ Below w.heap.size w w' := by
  obtain ⟨⟨c0, c1, c2⟩, hB, hsz⟩ := boxM w (.int .i64 r) (.int .i64 c) (.slice a n cap)
  have hck := fun (u : World) => Check_any r c a n cap hn u
  have hrs := fun (u : World) => RowSet_bad r c a n cap hn hE u
  have hpi := fun (u : World) => Pivots_bad r c a n cap hn hE u
  rw [hE] at hck
  have HCK := Lib.hid hck
  have HRS := Lib.hid hrs
  have HPI := Lib.hid hpi
  have HB := Lib.hid hB
  clear hck hrs hpi hB hE hsz
  go_enter Try.func3, Try.ntmps3
  go_upto_region 1 with fail
  generalize w.alloc (.cells #[.int .i64 r, .int .i64 c, .slice a n cap] 24) = W at *
  go_wp2_with fail
  (refine (HRS.out W).mono ?_)
  rintro e w1 ⟨rfl, hb1⟩
  have HB1 := Lib.hid (HB.out.trans (hb1.mono HB.out.size))
  replace c0 := cell_stays hb1 c0
  replace c1 := cell_stays hb1 c1
  replace c2 := cell_stays hb1 c2
  clear hb1 HRS HB
  go_wp2_with fail
  (refine (HPI.out w1).mono ?_)
  rintro e w2 ⟨rfl, hb2⟩
  have HB2 := Lib.hid (HB1.out.trans (hb2.mono HB1.out.size))
  replace c0 := cell_stays hb2 c0
  replace c1 := cell_stays hb2 c1
  replace c2 := cell_stays hb2 c2
  clear hb2 HPI HB1
  go_wp2_with fail
  (refine (awake_any w2).mono ?_)
  rintro e w3 ⟨rfl, hb3⟩
  have HB3 := Lib.hid (HB2.out.trans (hb3.mono HB2.out.size))
  replace c0 := cell_stays hb3 c0
  replace c1 := cell_stays hb3 c1
  replace c2 := cell_stays hb3 c2
  clear hb3 HB2
  go_wp2_with fail
  (refine (HCK.out w3).mono ?_)
  rintro e w4 ⟨rfl, hb4⟩
  have HB4 := Lib.hid (HB3.out.trans (hb4.mono HB3.out.size))
  clear hb4 HB3 HCK c0 c1 c2
  go_wp2_with fail
  go_ret
  exact ⟨rfl, HB4.out⟩

set_option maxHeartbeats 8000000 in
set_option maxRecDepth 100000 in
theorem Sets_good (R C : Nat) (k : Int) (sl : Value) (A : Nat → Int) (S : Nat) (w : World) (hR : R ≤ 64) (hC : C ≤ 64) (hS : S ≤ 268435456) (hr : RdE w sl (R * C) A) (hA : ∀ q, q < R * C → ZB S (A q)) :
    Calls Try.prog 3 #[.agg #[.int .i64 R, .int .i64 C, sl], .int .i64 k] w fun e w' => e = .returned (.bool true) ∧ Below w.heap.size w w' := by
  have hK4 : R * C ≤ 4096 := Nat.mul_le_mul hR hC
  obtain ⟨a, cap, rfl, hcap⟩ := hr.slice
  obtain ⟨⟨c0, c1, c2⟩, hB, hsz⟩ := boxM w (.int .i64 R) (.int .i64 C) (.slice a (R * C) cap)
  have hck := fun (u : World) => Check_any R C a (R * C) cap (by omega) u
  rw [checkE_ok hR hC rfl] at hck
  have hrs := fun (u : World) (hu : Below w.heap.size w u) => RowSet_good R C S _ A u hR hC hS (hr.below hu) hA
  have hpi := fun (u : World) (hu : Below w.heap.size w u) => Pivots_good R C S _ A u hR hC hS (hr.below hu) hA
  have hpk := fun (x y : Nat) (rv cv : Value) (u : World) (hu : Below w.heap.size w u) (hx : x ≤ R) (hy : y ≤ C) (h1 : RdI64 u rv x (fun i => i)) (h2 : RdI64 u cv y (fun i => i)) =>
    Pick_good R C x y (.slice a (R * C) cap) rv cv (fun i => i) (fun i => i) A u hR hC (by omega) (by omega) (fun i hi => by omega) (fun i hi => by omega) (hr.below hu) h1 h2
  have hrk := fun (x y : Nat) (sl : Value) (u : World) (hx : x ≤ R) (hy : y ≤ C) (h1 : RdE u sl (x * y) (firstE A C y)) => Rank_good x y S sl (firstE A C y) u (by omega) (by omega) hS h1 (firstE_zb hA hx hy)
  generalize R * C = K at *
  have HCK := Lib.hid hck
  have HRS := Lib.hid hrs
  have HPI := Lib.hid hpi
  have HPK := Lib.hid hpk
  have HRK := Lib.hid hrk
  have HB := Lib.hid hB
  clear hck hrs hpi hpk hrk hB hA hr hsz
  go_enter Try.func3, Try.ntmps3
  go_upto_region 1 with fail
  generalize w.alloc (.cells #[.int .i64 R, .int .i64 C, .slice a K cap] 24) = W at *
  go_wp2_with fail
  (refine (HRS.out W HB.out).mono ?_)
  rintro e w1 ⟨rr, Q, rv, rfl, hpQ, hfQ, hb1⟩
  obtain ⟨ra, rc, rfl⟩ := hfQ.slice
  have HB1 := Lib.hid (HB.out.trans (hb1.mono HB.out.size))
  have HPQ := Lib.hid hpQ
  have HFQ := Lib.hid hfQ.read
  replace c0 := cell_stays hb1 c0
  replace c1 := cell_stays hb1 c1
  replace c2 := cell_stays hb1 c2
  clear hb1 HRS HB hpQ hfQ
  go_wp2_with fail
  (refine (HPI.out w1 HB1.out).mono ?_)
  rintro e w2 ⟨cr, P, cv, rfl, hpP, hfP, hb2⟩
  obtain ⟨ca, cc, rfl⟩ := hfP.slice
  have HB2 := Lib.hid (HB1.out.trans (hb2.mono HB1.out.size))
  have HPP := Lib.hid hpP
  have HFP := Lib.hid hfP.read
  have HFQ2 := Lib.hid (HFQ.out.below hb2)
  replace c0 := cell_stays hb2 c0
  replace c1 := cell_stays hb2 c1
  replace c2 := cell_stays hb2 c2
  clear hb2 HPI HB1 hpP hfP HFQ
  go_wp2_with fail
  (refine (awake_any w2).mono ?_)
  rintro e w3 ⟨rfl, hb3⟩
  have HB3 := Lib.hid (HB2.out.trans (hb3.mono HB2.out.size))
  have HFP3 := Lib.hid (HFP.out.below hb3)
  have HFQ3 := Lib.hid (HFQ2.out.below hb3)
  replace c0 := cell_stays hb3 c0
  replace c1 := cell_stays hb3 c1
  replace c2 := cell_stays hb3 c2
  clear hb3 HB2 HFP HFQ2
  go_wp2_with fail
  (refine (HCK.out w3).mono ?_)
  rintro e w4 ⟨rfl, hb4⟩
  have HB4 := Lib.hid (HB3.out.trans (hb4.mono HB3.out.size))
  have HFP4 := Lib.hid (HFP3.out.below hb4)
  have HFQ4 := Lib.hid (HFQ3.out.below hb4)
  replace c0 := cell_stays hb4 c0
  replace c1 := cell_stays hb4 c1
  replace c2 := cell_stays hb4 c2
  clear hb4 HB3 HCK HFP3 HFQ3
  have hrrR : rr ≤ 64 := by have := HPQ.out.le; omega
  have hcrR : cr ≤ 64 := by have := HPP.out.le; omega
  go_upto_region 9 with (first
    | (go_at_call_of 17 (Value.int .i64 R); refine (rising_yes _ rr R Q _ hrrR hR HFQ4.out HPQ.out.mono HPQ.out.lt).mono ?_; rintro e w5 ⟨rfl, rfl⟩)
    | (go_at_call_of 17 (Value.int .i64 C); refine (rising_yes _ cr C P _ hcrR hC HFP4.out HPP.out.mono HPP.out.lt).mono ?_; rintro e w5 ⟨rfl, rfl⟩))
  go_cut [75] (fun v wx => v = .bool (decide (0 ≤ k ∧ k ≤ (R : Int))) ∧ wx = w4)
  case first =>
    by_cases h0 : 0 ≤ k
    · by_cases h1 : k ≤ R
      · go_wp2_with fail
        go_meet
        exact ⟨by rw [decide_eq_true (And.intro h0 h1)], rfl⟩
      · go_wp2_with fail
        go_meet
        exact ⟨by rw [decide_eq_false (by omega)], rfl⟩
    · go_wp2_with fail
      go_meet
      exact ⟨by rw [decide_eq_false (by omega)], rfl⟩
  case rest =>
  obtain ⟨rfl, hw⟩ := hcut
  obtain rfl := hw.symm
  have hx0 : ∀ u : World, Below w4.heap.size w4 u → Below w.heap.size w u := fun u hu => HB4.out.trans (hu.mono HB4.out.size)
  have HX := Lib.hid hx0
  clear hx0 hw
  go_upto_if 75 with fail
  go_cut [] (fun wx => Below w4.heap.size w4 wx)
  case first =>
    by_cases hk : 0 ≤ k ∧ k ≤ (R : Int)
    · obtain ⟨x, rfl⟩ := Int.eq_ofNat_of_zero_le hk.1
      have hx : x ≤ R := by omega
      have hd := decide_eq_true hk
      clear hk
      go_upto_region 10 with fail
      have hE := fun (r' : Nat) (P' : Nat → Nat) (h : PivQ x C r' P' (fun i j => A (i * C + j))) => HPQ.out.rows hx (A := fun i j => A (i * C + j)) h
      have HE := Lib.hid hE
      clear hE
      have hxC : x * C ≤ 1048576 := Nat.le_trans (Nat.mul_le_mul (show x ≤ 64 by omega) hC) (by decide)
      have T4 := Lib.hid (And.intro c0 (And.intro c1 c2))
      have hblk : w.heap.size < w4.heap.size := World.block_lt_of_cell? _ _ c0
      have U1 := Lib.hid (fun u (hu : Below w4.heap.size w4 u) => upto_any x (by omega) u)
      go_cut [9] (fun v9 wx => ∃ q, v9 = .pointer (some ⟨q, 0, none⟩) ∧ BoxE w4 wx q x C (x * C) (firstE A C C))
      case first =>
        go_region_held3 (fun w' => w'.cell? ⟨w.heap.size, 0, none⟩ = some (.int .i64 R) ∧ w'.cell? ⟨w.heap.size, 1, none⟩ = some (.int .i64 C) ∧ w'.cell? ⟨w.heap.size, 2, none⟩ = some (.slice a K cap))
          (first
            | exact stay3 (bl_drew _) (T4.out)
            | exact stay3 (bl_drew_alloc _ _) (T4.out)
            | exact stay3 (bl_alloc _ _) (T4.out)
            | exact stay3 (bl_alloc_drew _ _) (T4.out)
            | exact stay3 b_w5 (T4.out)
            | exact stay3 (bl_alloc _ _) (stay3 b_w5 (T4.out))
            | exact stay3 (bl_alloc_drew _ _) (stay3 b_w5 (T4.out))
            | exact stay3 b_w6 (stay3 b_w5 (T4.out))
            | exact stay3 (bl_alloc _ _) (stay3 b_w6 (stay3 b_w5 (T4.out)))
            | exact stay3 (bl_alloc_drew _ _) (stay3 b_w6 (stay3 b_w5 (T4.out)))
            | exact stay3 b_w7 (stay3 b_w6 (stay3 b_w5 (T4.out)))
            | exact stay3 (bl_alloc _ _) (stay3 b_w7 (stay3 b_w6 (stay3 b_w5 (T4.out))))
            | exact stay3 (bl_alloc_drew _ _) (stay3 b_w7 (stay3 b_w6 (stay3 b_w5 (T4.out))))
            | exact far3 (by omega) (stay3 b_w7 (stay3 b_w6 (stay3 b_w5 (T4.out))))
            | go_keep)
          (first
            | (go_at_call_of 19 (Value.int .i64 x); (first | (with_reducible refine (U1.out _ (bl_refl _)).mono ?_) | (with_reducible refine (U1.out _ (bl_alloc _ _)).mono ?_) | (with_reducible refine (U1.out _ (bl_drew _)).mono ?_) | (with_reducible refine (U1.out _ (bl_drew_alloc _ _)).mono ?_) | (with_reducible refine (U1.out _ (bl_alloc_drew _ _)).mono ?_)); rintro e w5 ⟨v5, rfl, f5, bb_w5⟩
               have b_w5 : Below w4.heap.size w4 w5 := by first | (with_reducible exact below_via (bl_refl _) bb_w5) | (with_reducible exact below_via (bl_alloc _ _) bb_w5) | (with_reducible exact below_via (bl_drew _) bb_w5) | (with_reducible exact below_via (bl_drew_alloc _ _) bb_w5) | (with_reducible exact below_via (bl_alloc_drew _ _) bb_w5)
               have s_w5 : w4.heap.size ≤ w5.heap.size := b_w5.size
               (first | (replace ZB := ZB; replace ZB := Lib.hid (box_on b_w5 ZB.out)) | (have ZB := Lib.hid (box_after_d bb_w5)) | (have ZB := Lib.hid (box_after_e bb_w5)) | (have ZB := Lib.hid (box_after bb_w5)) | skip)
               have F5 := Lib.hid (f5)
               have U2 := Lib.hid (fun u (hu : Below w5.heap.size w5 u) => upto_any C hC u)
               clear bb_w5)
            | (go_at_call 19; (first | (with_reducible refine (U2.out _ (bl_refl _)).mono ?_) | (with_reducible refine (U2.out _ (bl_alloc _ _)).mono ?_)); rintro e w6 ⟨v6, rfl, f6, bb_w6⟩
               have b_w6 : Below w5.heap.size w5 w6 := by first | (with_reducible exact below_via (bl_refl _) bb_w6) | (with_reducible exact below_via (bl_alloc _ _) bb_w6)
               have s_w6 : w5.heap.size ≤ w6.heap.size := b_w6.size
               (first | (replace ZB := ZB; replace ZB := Lib.hid (box_on b_w6 ZB.out)) | (have ZB := Lib.hid (box_after_d bb_w6)) | (have ZB := Lib.hid (box_after_e bb_w6)) | (have ZB := Lib.hid (box_after bb_w6)) | skip)
               have F6 := Lib.hid (f6)
               have F5' := Lib.hid (F5.out.below b_w6)
               have U3 := Lib.hid (fun u (hu : Below w6.heap.size w6 u) => HPK.out x C v5 v6 u (HX.out u (below_via b_w5 (below_via b_w6 hu))) hx (Nat.le_refl _) (F5'.out.below hu) (F6.out.below hu))
               clear bb_w6)
            | (go_at_call 18; (first | (with_reducible refine (U3.out _ (bl_refl _)).mono ?_) | (with_reducible refine (U3.out _ (bl_alloc _ _)).mono ?_)); rintro e w7 ⟨l7, rfl, f_last, bb_w7⟩
               have b_w7 : Below w6.heap.size w6 w7 := by first | (with_reducible exact below_via (bl_refl _) bb_w7) | (with_reducible exact below_via (bl_alloc _ _) bb_w7)
               have s_w7 : w6.heap.size ≤ w7.heap.size := b_w7.size
               (first | (replace ZB := ZB; have ZL := Nat.lt_of_lt_of_le (ZB.out.2.2) f_last.own; replace ZB := Lib.hid (box_on b_w7 ZB.out)) | (have ZB := Lib.hid (box_after_d bb_w7); have ZL := Nat.lt_of_lt_of_le (alloc_lt _ _) f_last.own) | (have ZB := Lib.hid (box_after_e bb_w7); have ZL := Nat.lt_of_lt_of_le (alloc_lt _ _) f_last.own) | (have ZB := Lib.hid (box_after bb_w7); have ZL := Nat.lt_of_lt_of_le (alloc_lt _ _) f_last.own) | skip)
               (first | (obtain ⟨⟨z0, z1, z2⟩, ⟨y0, y1, y2⟩, zq⟩ := ZB.out) | skip)
               have F_last := Lib.hid (f_last)
               clear bb_w7))
        all_goals
          go_wp2_with fail
          go_meet
          first
            | exact ⟨_, rfl, boxE_new F_last.out hxC (below_via (below_via (b_w5) b_w6) b_w7) _ _⟩
            | exact ⟨_, rfl, boxE_old F_last.out hxC (below_via (below_via (b_w5) b_w6) b_w7) _ _ (by omega) ZL ZB.out⟩
      case rest =>
      obtain ⟨q, rfl, hbx⟩ := hcut
      obtain ⟨hb8, lb, ⟨d0, d1, d2⟩, hrd⟩ := hbx
      have hrank := HRK.out x C _ wc hx (Nat.le_refl _) hrd
      have HRA := Lib.hid hrank
      have hbel := below_any (.slice ra rr rc) rr x Q
      have HB8 := Lib.hid hb8
      have HFQ8 := Lib.hid (HFQ4.out.below hb8)
      clear hrd hrank hb8 hbel T4 U1
      go_wp2_with fail
      (refine HRA.out.mono ?_)
      rintro e w9 ⟨r9, P9, rfl, hp9, hb9⟩
      have he := HE.out r9 P9 (hp9.congr fun i j _ hj => firstE_at A C C i j hj)
      subst he
      have HB9 := Lib.hid (below_via HB8.out hb9)
      have HFQ9 := Lib.hid (HFQ8.out.below hb9)
      have HBE := Lib.hid (below_any (.slice ra rr rc) rr x Q w9 hrrR HFQ9.out)
      clear hp9 hb9 HRA
      generalize cntB Q x rr = cnt at *
      go_wp2_with (go_at_call 21; refine HBE.out.mono ?_; rintro e w10 ⟨rfl, rfl⟩)
      go_meet
      exact HB9.out
    · have hd := decide_eq_false hk
      go_wp2_with fail
      go_meet
      exact Below.refl _ _
  case rest =>
  have HB5 := Lib.hid (HX.out _ hcut)
  have HFP5 := Lib.hid (HFP4.out.below hcut)
  replace c0 := cell_stays hcut c0
  replace c1 := cell_stays hcut c1
  replace c2 := cell_stays hcut c2
  clear hcut HFQ4 HFP4 HPQ HB4 HX
  obtain ⟨w4', hw4⟩ : ∃ x, x = w4 := ⟨_, rfl⟩
  clear hw4 w4'
  generalize wc = w4 at *
  have hx0 : ∀ u : World, Below w4.heap.size w4 u → Below w.heap.size w u := fun u hu => HB5.out.trans (hu.mono HB5.out.size)
  have HX := Lib.hid hx0
  clear hx0
  go_upto_region 14 with fail
  go_cut [107] (fun v wx => v = .bool (decide (0 ≤ k ∧ k ≤ (C : Int))) ∧ wx = w4)
  case first =>
    by_cases h0 : 0 ≤ k
    · by_cases h1 : k ≤ C
      · go_wp2_with fail
        go_meet
        exact ⟨by rw [decide_eq_true (And.intro h0 h1)], rfl⟩
      · go_wp2_with fail
        go_meet
        exact ⟨by rw [decide_eq_false (by omega)], rfl⟩
    · go_wp2_with fail
      go_meet
      exact ⟨by rw [decide_eq_false (by omega)], rfl⟩
  case rest =>
  obtain ⟨rfl, hw⟩ := hcut
  obtain rfl := hw.symm
  clear hw
  go_upto_if 107 with fail
  go_cut [] (fun wx => Below w4.heap.size w4 wx)
  case first =>
    by_cases hk : 0 ≤ k ∧ k ≤ (C : Int)
    · obtain ⟨x, rfl⟩ := Int.eq_ofNat_of_zero_le hk.1
      have hx : x ≤ C := by omega
      have hd := decide_eq_true hk
      clear hk
      go_upto_region 15 with fail
      have hE := fun (r' : Nat) (P' : Nat → Nat) (h : PivQ R x r' P' (fun i j => A (i * C + j))) => h.unique (HPP.out.cut hx)
      have HE := Lib.hid hE
      clear hE
      have hxC : R * x ≤ 1048576 := Nat.le_trans (Nat.mul_le_mul hR (show x ≤ 64 by omega)) (by decide)
      have T4 := Lib.hid (And.intro c0 (And.intro c1 c2))
      have hblk : w.heap.size < w4.heap.size := World.block_lt_of_cell? _ _ c0
      have U1 := Lib.hid (fun u (hu : Below w4.heap.size w4 u) => upto_any R hR u)
      go_cut [13] (fun v9 wx => ∃ q, v9 = .pointer (some ⟨q, 0, none⟩) ∧ BoxE w4 wx q R x (R * x) (firstE A C x))
      case first =>
        go_region_held3 (fun w' => w'.cell? ⟨w.heap.size, 0, none⟩ = some (.int .i64 R) ∧ w'.cell? ⟨w.heap.size, 1, none⟩ = some (.int .i64 C) ∧ w'.cell? ⟨w.heap.size, 2, none⟩ = some (.slice a K cap))
          (first
            | exact stay3 (bl_drew _) (T4.out)
            | exact stay3 (bl_drew_alloc _ _) (T4.out)
            | exact stay3 (bl_alloc _ _) (T4.out)
            | exact stay3 (bl_alloc_drew _ _) (T4.out)
            | exact stay3 b_w5 (T4.out)
            | exact stay3 (bl_alloc _ _) (stay3 b_w5 (T4.out))
            | exact stay3 (bl_alloc_drew _ _) (stay3 b_w5 (T4.out))
            | exact stay3 b_w6 (stay3 b_w5 (T4.out))
            | exact stay3 (bl_alloc _ _) (stay3 b_w6 (stay3 b_w5 (T4.out)))
            | exact stay3 (bl_alloc_drew _ _) (stay3 b_w6 (stay3 b_w5 (T4.out)))
            | exact stay3 b_w7 (stay3 b_w6 (stay3 b_w5 (T4.out)))
            | exact stay3 (bl_alloc _ _) (stay3 b_w7 (stay3 b_w6 (stay3 b_w5 (T4.out))))
            | exact stay3 (bl_alloc_drew _ _) (stay3 b_w7 (stay3 b_w6 (stay3 b_w5 (T4.out))))
            | exact far3 (by omega) (stay3 b_w7 (stay3 b_w6 (stay3 b_w5 (T4.out))))
            | go_keep)
          (first
            | (go_at_call_of 19 (Value.int .i64 R); (first | (with_reducible refine (U1.out _ (bl_refl _)).mono ?_) | (with_reducible refine (U1.out _ (bl_alloc _ _)).mono ?_) | (with_reducible refine (U1.out _ (bl_drew _)).mono ?_) | (with_reducible refine (U1.out _ (bl_drew_alloc _ _)).mono ?_) | (with_reducible refine (U1.out _ (bl_alloc_drew _ _)).mono ?_)); rintro e w5 ⟨v5, rfl, f5, bb_w5⟩
               have b_w5 : Below w4.heap.size w4 w5 := by first | (with_reducible exact below_via (bl_refl _) bb_w5) | (with_reducible exact below_via (bl_alloc _ _) bb_w5) | (with_reducible exact below_via (bl_drew _) bb_w5) | (with_reducible exact below_via (bl_drew_alloc _ _) bb_w5) | (with_reducible exact below_via (bl_alloc_drew _ _) bb_w5)
               have s_w5 : w4.heap.size ≤ w5.heap.size := b_w5.size
               (first | (replace ZB := ZB; replace ZB := Lib.hid (box_on b_w5 ZB.out)) | (have ZB := Lib.hid (box_after_d bb_w5)) | (have ZB := Lib.hid (box_after_e bb_w5)) | (have ZB := Lib.hid (box_after bb_w5)) | skip)
               have F5 := Lib.hid (f5)
               have U2 := Lib.hid (fun u (hu : Below w5.heap.size w5 u) => upto_any x (by omega) u)
               clear bb_w5)
            | (go_at_call 19; (first | (with_reducible refine (U2.out _ (bl_refl _)).mono ?_) | (with_reducible refine (U2.out _ (bl_alloc _ _)).mono ?_)); rintro e w6 ⟨v6, rfl, f6, bb_w6⟩
               have b_w6 : Below w5.heap.size w5 w6 := by first | (with_reducible exact below_via (bl_refl _) bb_w6) | (with_reducible exact below_via (bl_alloc _ _) bb_w6)
               have s_w6 : w5.heap.size ≤ w6.heap.size := b_w6.size
               (first | (replace ZB := ZB; replace ZB := Lib.hid (box_on b_w6 ZB.out)) | (have ZB := Lib.hid (box_after_d bb_w6)) | (have ZB := Lib.hid (box_after_e bb_w6)) | (have ZB := Lib.hid (box_after bb_w6)) | skip)
               have F6 := Lib.hid (f6)
               have F5' := Lib.hid (F5.out.below b_w6)
               have U3 := Lib.hid (fun u (hu : Below w6.heap.size w6 u) => HPK.out R x v5 v6 u (HX.out u (below_via b_w5 (below_via b_w6 hu))) (Nat.le_refl _) hx (F5'.out.below hu) (F6.out.below hu))
               clear bb_w6)
            | (go_at_call 18; (first | (with_reducible refine (U3.out _ (bl_refl _)).mono ?_) | (with_reducible refine (U3.out _ (bl_alloc _ _)).mono ?_)); rintro e w7 ⟨l7, rfl, f_last, bb_w7⟩
               have b_w7 : Below w6.heap.size w6 w7 := by first | (with_reducible exact below_via (bl_refl _) bb_w7) | (with_reducible exact below_via (bl_alloc _ _) bb_w7)
               have s_w7 : w6.heap.size ≤ w7.heap.size := b_w7.size
               (first | (replace ZB := ZB; have ZL := Nat.lt_of_lt_of_le (ZB.out.2.2) f_last.own; replace ZB := Lib.hid (box_on b_w7 ZB.out)) | (have ZB := Lib.hid (box_after_d bb_w7); have ZL := Nat.lt_of_lt_of_le (alloc_lt _ _) f_last.own) | (have ZB := Lib.hid (box_after_e bb_w7); have ZL := Nat.lt_of_lt_of_le (alloc_lt _ _) f_last.own) | (have ZB := Lib.hid (box_after bb_w7); have ZL := Nat.lt_of_lt_of_le (alloc_lt _ _) f_last.own) | skip)
               (first | (obtain ⟨⟨z0, z1, z2⟩, ⟨y0, y1, y2⟩, zq⟩ := ZB.out) | skip)
               have F_last := Lib.hid (f_last)
               clear bb_w7))
        all_goals
          go_wp2_with fail
          go_meet
          first
            | exact ⟨_, rfl, boxE_new F_last.out hxC (below_via (below_via (b_w5) b_w6) b_w7) _ _⟩
            | exact ⟨_, rfl, boxE_old F_last.out hxC (below_via (below_via (b_w5) b_w6) b_w7) _ _ (by omega) ZL ZB.out⟩
      case rest =>
      obtain ⟨q, rfl, hbx⟩ := hcut
      obtain ⟨hb8, lb, ⟨d0, d1, d2⟩, hrd⟩ := hbx
      have hrank := HRK.out R x _ wc (Nat.le_refl _) hx hrd
      have HRA := Lib.hid hrank
      have HB8 := Lib.hid hb8
      have HFQ8 := Lib.hid (HFP5.out.below hb8)
      clear hrd hrank hb8 T4 U1
      go_wp2_with fail
      (refine HRA.out.mono ?_)
      rintro e w9 ⟨r9, P9, rfl, hp9, hb9⟩
      have he := (HE.out r9 P9 (hp9.congr fun i j _ hj => firstE_at A C x i j hj)).1
      subst he
      have HB9 := Lib.hid (below_via HB8.out hb9)
      have HFQ9 := Lib.hid (HFQ8.out.below hb9)
      have HBE := Lib.hid (below_any (.slice ca cr cc) cr x P w9 hcrR HFQ9.out)
      clear hp9 hb9 HRA
      generalize cntB P x cr = cnt at *
      go_wp2_with (go_at_call 21; refine HBE.out.mono ?_; rintro e w10 ⟨rfl, rfl⟩)
      go_meet
      exact HB9.out
    · have hd := decide_eq_false hk
      go_wp2_with fail
      go_meet
      exact Below.refl _ _
  case rest =>
    have HBZ := Lib.hid (HX.out _ hcut)
    clear hcut
    go_wp2_with fail
    go_ret
    exact ⟨rfl, HBZ.out⟩

/-- the law, for any arguments -/
theorem Sets_law (r c k : Int) (s : Value) (n : Nat) (x : Nat → Raw) (w : World) (hr : RdL w s n x) (hx : ∀ i, i < n → (x i).n ≤ 1048576) :
    Calls Try.prog 3 #[.agg #[.int .i64 r, .int .i64 c, s], .int .i64 k] w fun e w' => e = .returned (.bool true) ∧ Below w.heap.size w w' := by
  obtain ⟨a, cap, rfl, hcap, hn, -⟩ := id hr
  rcases check_cases r c n with h | ⟨R, C, rfl, rfl, hR, hC, rfl⟩
  · exact Sets_bad r c k a n cap (by omega) h w
  · have hK4 : R * C ≤ 4096 := Nat.mul_le_mul hR hC
    exact Sets_good R C k _ (fun i => (x i).val) 1048576 w hR hC (by omega) (hr.rde (by omega) (fun i hi => by have := hx i hi; omega)) (hr.zbs hx)
end Go.Proofs.Ytncldpadakckjaa

namespace Go.Proofs.Ytncldpadakckjaa.bareissSets
open Go.ChangeShapes Go.WideShapes Go.ChangeAt Go.RowKit

theorem own : ownKnob Try.prog.godebug = none := by kernel_rfl

set_option maxRecDepth 100000 in
theorem contract (H : Type) (enc : TypeId × Value → H) (W : World) (base : Nat) (args : Array Value) (ds gs : List (DataW H)) (before : List MemPlace)
    (hval : ∀ (j : Nat) t v, Try.f3.params[j]? = some t → args[j]? = some v → Value.okWide Try.prog W .any base t v)
    (hW : DataW.Whole enc Try.prog Try.f3.params.toList Rows.bareissSetsSpec.vars false W args.toList ds gs before) (hk : Rows.uptoSmall H (ds ++ gs) = true) :
    Calls Try.prog 3 args W fun e W' => ∃ v, e = .returned v ∧ Rows.bareissSetsSpec.post enc Try.prog Try.f3 false true false false W args v W' := by
  have hW' := hW
  have hlt : ∀ x ∈ before, x.block < W.heap.size := fun x hx => hW.lt x hx
  obtain ⟨p, q, hA0, hV, rfl, hfz, hnd⟩ := hW
  have hA : DataW.TrodAll enc Try.prog W 0 (fun _ => true) true Try.f3.params.toList args.toList ds p := hA0
  rw [Try.params3] at hA hval
  obtain ⟨v0, vs0, d0, ds0, p0, q0, hargs, rfl, rfl, h0, r0⟩ := trodAll_cons hA
  obtain ⟨v1, vs1, d1, ds1, p1, q1, rfl, rfl, rfl, h1, r1⟩ := trodAll_cons r0
  obtain ⟨rfl, rfl, rfl⟩ := trodAll_nil r1
  obtain rfl : args = #[v0, v1] := by cases args; simp_all
  obtain ⟨rfl, rfl⟩ := trodVars_none hV
  have h0k := h0
  obtain ⟨k1, rfl, rfl, rfl, wk1⟩ := open_int Try.underlying3 (hval 1 3 v1 rfl rfl) h1
  clear hA0
  simp only [List.append_nil] at hW' hk hlt
  have hbk : Rows.uptoBulkAll [d0, DataW.lit (.int .i64 k1)] ≤ 1048576 := of_decide_eq_true hk
  simp only [Rows.uptoBulkAll] at hbk
  obtain ⟨R0, C0, s0, n0, x0, rfl, hr0, hn0, hx0, -, -⟩ := open_mat (B := 1048576) (hval 0 24 v0 rfl rfl) h0 (by omega) (by omega)
  have bk1 : -9223372036854775808 ≤ k1 ∧ k1 ≤ 9223372036854775807 := by simp [Lit.wf, IntKind.min, IntKind.max, IntKind.signed, IntKind.bits] at wk1; omega
  refine (Sets_law R0 C0 k1 s0 n0 x0 W hr0 hx0).mono fun e W' ⟨he, hg⟩ => ?_
  subst he
  refine ⟨_, rfl, post_of_below (pa := (p0 ++ ([] ++ []))) (pv := []) hW' (fun _ _ _ => (trodAll_cons_mk (shut_bool Try.underlying4 _) trodAll_mk0)) (fun sp hsp => (trodAll_cons_mk (WideElems.Trod_stays (P := Try.prog) (by kernel_rfl) (by kernel_rfl) (of_decide_eq_true (by kernel_rfl)) h0k (fun x hx => hg.same (hlt x (by simp [hx]))) (fun x hx => hsp x (by simp [hx]))) (trodAll_cons_mk (shut_int Try.underlying3 wk1) trodAll_mk0))) (fun _ _ => rfl) (by simp)
    hg (ok_one (by kernel_rfl) rfl (okWide_bool_mk Try.underlying4 _))⟩

set_option maxRecDepth 100000 in
theorem lifted (os : Os) (started : os.Started) (H : Type) (enc : TypeId × Value → H) (F : Stop.Interp) :
    ReturnsInHanded {} Try.checked os 3 .any ((Rows.OpenSpec.upto Rows.bareissSetsSpec).pre6 enc Try.prog Try.f3 Rows.bareissSetsUptoRow.domain false) (((Rows.OpenSpec.upto Rows.bareissSetsSpec).at F).post enc Try.prog Try.f3 false true false false) := by
  refine returnsInHanded_of_cond (C := Try.checked) (s := Rows.OpenSpec.upto Rows.bareissSetsSpec) (k := Rows.uptoSmall) rfl own started (by kernel_rfl) Try.func3
    (OpenSpec.witness (enc := enc) (C := Try.checked) (s := Rows.OpenSpec.upto Rows.bareissSetsSpec) (k := Rows.uptoSmall) rfl false ⟨#[], #[.agg #[.int .i64 0, .int .i64 0, .slice none 0 0], .int .i64 0], []⟩ 8 (by kernel_rfl) (by kernel_rfl) (by kernel_rfl)
      (x := ([.agg [.lit (.int .i64 0), .lit (.int .i64 0), .nil], .lit (.int .i64 0)], [], [])) (by kernel_rfl) rfl (by kernel_rfl)) ?_
  intro W base args ds gs before hval hW _ hk _
  exact contract H enc W base args ds gs before hval hW hk

/-- the statement -/
theorem proved : Rows.BareissSetsUptoSaid :=
  OpenClaim.holds_of_cond 3 Try.f3 rfl rfl rfl rfl rfl rfl rfl ⟨rfl, rfl, rfl, rfl, rfl⟩ rfl rfl rfl rfl rfl (by kernel_rfl) Try.func3 (by kernel_rfl)
    (of_decide_eq_true (by kernel_rfl)) (by unfold Func.isWrapper; first | (rw [if_pos (by decide +kernel)]; kernel_rfl) | (rw [if_neg (by decide +kernel)]; exact ⟨rfl, rfl⟩))
    (fun os started H enc _ F => lifted os started H enc F)
#print axioms proved
end Go.Proofs.Ytncldpadakckjaa.bareissSets
