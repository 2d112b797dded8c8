/- What the law BareissExpands sums up; its walk where the matrix is refused. The walk of the law BareissExpands. 'BareissExpands', where what it reads is of bulk at most 1,048,576: for every matrix m and row the law returns true and its arguments read as before. -/
import Derived.Test.YtncldpadakckjaaGK
import Derived.Test.YtncldpadakckjaaGF
import Derived.StillTailTactics
import Derived.Test.YtncldpadakckjaaRows
import Derived.Test.YtncldpadakckjaaGH
import Derived.ProofKit
import Derived.OpenShut
import Derived.Carry
import Derived.JoinedCond
set_option linter.unusedVariables false
set_option linter.unusedSimpArgs false
namespace Go.Proofs.Ytncldpadakckjaa
open Go.RowKit

/-- the entries without the row i and the column j -/
def dropE (A : Nat → Int) (R i j q : Nat) : Int := A (laZ.sk i (q / (R - 1)) * R + laZ.sk j (q % (R - 1)))
def dropD (A : Nat → Int) (R i j : Nat) : Int := laZ.dt (R - 1) (fun r c => A (laZ.sk i r * R + laZ.sk j c))
def sgE (i j : Nat) : Int := if (i + j) % 2 = 1 then -1 else 1
/-- the sum over the first k columns -/
def expS (A : Nat → Int) (R i k : Nat) : Int := laZ.sm k (fun j => A (i * R + j) * (sgE i j * dropD A R i j))
theorem dropE_det (A : Nat → Int) (R i j : Nat) : laZ.dt (R - 1) (fun r c => dropE A R i j (r * (R - 1) + c)) = dropD A R i j := laZ.dt_congr fun r c _ hc => by
  obtain ⟨h1, h2⟩ := idx_dm (i := r) hc
  unfold dropE; rw [h1, h2]
theorem sk_ltR {R i k : Nat} (hR : 0 < R) (hk : k < R - 1) : laZ.sk i k < R := by have := laZ.sk_lt (i := i) hk; omega
theorem dropE_zb {A : Nat → Int} {R S : Nat} (hA : ∀ q, q < R * R → ZB S (A q)) (i j : Nat) : ∀ q, q < (R - 1) * (R - 1) → ZB S (dropE A R i j q) := fun q hq => by
  obtain ⟨h1, h2⟩ := idx_at hq
  exact hA _ (idx_lt (sk_ltR (by omega) h1) (sk_ltR (by omega) h2) rfl).1
theorem dropD_zb {A : Nat → Int} {R S : Nat} (hR : R ≤ 64) (hA : ∀ q, q < R * R → ZB S (A q)) (i j : Nat) : ZB (64 * (S + 1) + 1) (dropD A R i j) := by
  have h : ZB ((R - 1) * (S + 1) + 1) (dropD A R i j) := dtZ_zb (R - 1) _ (by omega) fun r c hr hc => hA _ (idx_lt (sk_ltR (by omega) hr) (sk_ltR (by omega) hc) rfl).1
  exact h.mono (by have := Nat.mul_le_mul_right (S + 1) (show R - 1 ≤ 64 by omega); omega)
theorem sgE_zb {T : Nat} {z : Int} (i j : Nat) (h : ZB T z) : ZB T (sgE i j * z) := by
  unfold sgE
  split
  · rw [show (-1 : Int) * z = -z by omega]; exact h.neg
  · rw [Int.one_mul]; exact h
theorem expS_zb {A : Nat → Int} {R S i : Nat} (hR : R ≤ 64) (hi : i < R) (hA : ∀ q, q < R * R → ZB S (A q)) {k : Nat} (hk : k ≤ R) : ZB (S + (64 * (S + 1) + 1) + 1) (expS A R i k) := by
  have h := smZ_abs (B := 18446744073709551616 ^ (S + (64 * (S + 1) + 1)) - 1) k (fun j => A (i * R + j) * (sgE i j * dropD A R i j)) (fun j hj => by
    have h1 := (hA _ (idx_lt hi (show j < R by omega) rfl).1).mul (sgE_zb i j (dropD_zb hR hA i j))
    unfold ZB at h1; omega)
  unfold ZB expS
  rw [Int.pow_succ]
  have hp := pow_pos' (show (0 : Int) < 18446744073709551616 by omega) (S + (64 * (S + 1) + 1))
  generalize (18446744073709551616 : Int) ^ (S + (64 * (S + 1) + 1)) = X at *
  have h5 : (k : Int) * (X - 1) ≤ 64 * (X - 1) := Int.mul_le_mul_of_nonneg_right (by omega) (by omega)
  omega
theorem expS_succ (A : Nat → Int) (R i k : Nat) : expS A R i (k + 1) = A (i * R + k) * (sgE i k * dropD A R i k) + expS A R i k := Int.add_comm _ _
theorem expS_all {A : Nat → Int} {R i : Nat} (hi : i < R) : expS A R i R = leadD A R R := by
  obtain ⟨n, rfl⟩ : ∃ n, R = n + 1 := ⟨R - 1, by omega⟩
  show _ = laZ.dt (n + 1) (fun r c => A (r * (n + 1) + c))
  rw [dtZ_row _ hi, show laQ.sk = laZ.sk from rfl]
  refine laZ.sm_congr fun j hj => ?_
  unfold sgE dropD
  rw [show n + 1 - 1 = n from rfl]
  generalize laZ.dt n (fun r c => A (laZ.sk i r * (n + 1) + laZ.sk j c)) = d
  generalize A (i * (n + 1) + j) = x
  split <;> grind
theorem leadD_zero (A : Nat → Int) (C : Nat) : leadD A C 0 = 1 := rfl
theorem zb_one : ZB 1 1 := by unfold ZB; decide

theorem without_R (R k : Nat) (hR : R ≤ 64) (hk : k < R) (w : World) : Calls Try.prog 41 #[.int .i64 R, .int .i64 k] w fun e w' => ∃ v, e = .returned v ∧ RdI64 w' v (R - 1) (laZ.sk k) ∧ Below w.heap.size w w' := by
  obtain ⟨n, rfl⟩ : ∃ n, R = n + 1 := ⟨R - 1, by omega⟩
  exact without_any n k (by omega) (by omega) w

set_option maxHeartbeats 4000000 in
set_option maxRecDepth 100000 in
theorem Expands_done (r c : Int) (s : Value) (k : Int) (w : World) (hd : ∀ u : World, Calls Try.prog 38 #[.agg #[.int .i64 r, .int .i64 c, s]] u fun e w' => e = .returned (.tuple #[.bool true, .bool true]) ∧ Below u.heap.size u w') :
    Calls Try.prog 9 #[.agg #[.int .i64 r, .int .i64 c, s], .int .i64 k] w fun e w' => e = .returned (.bool true) ∧ Below w.heap.size w w' := by
  obtain ⟨⟨c0, c1, c2⟩, hB, hsz⟩ := boxM w (.int .i64 r) (.int .i64 c) s
  have HD := Lib.hid hd
  have HB := Lib.hid hB
  clear hd hB hsz
  go_enter Try.func9, Try.ntmps9
  go_upto_region 1 with fail
  generalize w.alloc (.cells #[.int .i64 r, .int .i64 c, s] 24) = W at *
  go_wp2_with fail
  (refine (HD.out W).mono ?_)
  rintro e w1 ⟨rfl, hb1⟩
  have HB1 := Lib.hid (below_via HB.out hb1)
  clear hb1 HD HB c0 c1 c2
  go_wp2_with fail
  (refine (awake_any w1).mono ?_)
  rintro e w2 ⟨rfl, hb2⟩
  have HB2 := Lib.hid (below_via HB1.out hb2)
  clear hb2 HB1
  go_wp2_with fail
  (refine (awake_any w2).mono ?_)
  rintro e w3 ⟨rfl, hb3⟩
  have HB3 := Lib.hid (below_via HB2.out hb3)
  clear hb3 HB2
  go_wp2_with fail
  go_ret
  exact ⟨rfl, HB3.out⟩
end Go.Proofs.Ytncldpadakckjaa

namespace Go.Proofs.Ytncldpadakckjaa
open Go.RowKit

set_option maxHeartbeats 8000000 in
set_option maxRecDepth 100000 in
theorem Expands_good (R : Nat) (row : Int) (sl : Value) (A : Nat → Int) (S : Nat) (w : World) (hR : R ≤ 64) (hS : S ≤ 100000000) (hr : RdE w sl (R * R) A) (hA : ∀ q, q < R * R → ZB S (A q)) :
    Calls Try.prog 9 #[.agg #[.int .i64 R, .int .i64 R, sl], .int .i64 row] w fun e w' => e = .returned (.bool true) ∧ Below w.heap.size w w' := by
  have hK4 : R * R ≤ 4096 := Nat.mul_le_mul hR hR
  have hS1 : S + (64 * (S + 1) + 1) + 1 ≤ 274877906944 := by omega
  obtain ⟨a, cap, rfl, hcap⟩ := hr.slice
  obtain ⟨⟨c0, c1, c2⟩, hB, hsz⟩ := boxM w (.int .i64 R) (.int .i64 R) (.slice a (R * R) cap)
  have hrf := fun (u : World) (hu : Below w.heap.size w u) => refused_good R S _ A u hR (by omega) (hr.below hu) hA
  have hdt := fun (u : World) (hu : Below w.heap.size w u) => det13_good R S _ A u hR (by omega) (hr.below hu) hA
  have hpk : ∀ (i j : Nat) (rv cv : Value) (u : World), Below w.heap.size w u → 0 < R → RdI64 u rv (R - 1) (laZ.sk i) → RdI64 u cv (R - 1) (laZ.sk j) →
      Calls Try.prog 18 #[.agg #[.int .i64 R, .int .i64 R, .slice a (R * R) cap], rv, cv] u fun e w' => ∃ lb, e = .returned (.tuple #[.agg #[.int .i64 (R - 1 : Nat), .int .i64 (R - 1 : Nat), .slice (some ⟨lb, 0, none⟩) ((R - 1) * (R - 1)) ((R - 1) * (R - 1))], .int .i64 0]) ∧
        FrE w' u.heap.size (fun b => b ≤ lb) lb ((R - 1) * (R - 1)) (dropE A R i j) ∧ Below u.heap.size u w' := fun i j rv cv u hu hR0 h1 h2 =>
    Pick_good R R (R - 1) (R - 1) (.slice a (R * R) cap) rv cv (laZ.sk j) (laZ.sk i) A u hR hR (by omega) (by omega) (fun k hk => sk_ltR hR0 hk) (fun k hk => sk_ltR hR0 hk) (hr.below hu) h1 h2
  have hdx := fun (i j : Nat) (sl : Value) (u : World) (h1 : RdE u sl ((R - 1) * (R - 1)) (dropE A R i j)) => by
    have h := det13_good (R - 1) S sl (dropE A R i j) u (by omega) (by omega) h1 (dropE_zb hA i j)
    rw [dropE_det] at h
    exact h
  obtain ⟨n1, hn1⟩ : ∃ n1, n1 = R - 1 := ⟨_, rfl⟩
  have hwo := fun (k : Nat) (hk : k < R) (u : World) => without_R R k hR hk u
  simp only [← hn1] at hpk hdx hwo
  have hn64 : n1 ≤ 64 := by omega
  have hzl := leadD_zb hA hR (Nat.le_refl R)
  have hzc := fun (i j : Nat) => dropD_zb hR hA i j
  have hzs := fun (i k : Nat) (hi : i < R) (hk : k ≤ R) => expS_zb hR hi hA hk
  have hget := fun (u : World) (p : Nat) (hp : p < R * R) (hu : Below w.heap.size w u) => (hr.below hu).get hp
  simp only [leadD_all] at hdt
  generalize hKK : R * R = K at *
  have HRF := Lib.hid hrf
  have HDT := Lib.hid hdt
  have HPK := Lib.hid hpk
  have HDX := Lib.hid hdx
  have HWO := Lib.hid hwo
  have HZL := Lib.hid hzl
  have HZC := Lib.hid hzc
  have HZS := Lib.hid hzs
  have HGET := Lib.hid hget
  have HB := Lib.hid hB
  have HA := Lib.hid hA
  have HS1 := Lib.hid hS1
  have HKK := Lib.hid hKK
  clear hrf hdt hpk hdx hwo hn1 hzl hzc hzs hget hB hA hr hsz hS1 hKK
  go_enter Try.func9, Try.ntmps9
  go_upto_region 1 with fail
  generalize w.alloc (.cells #[.int .i64 R, .int .i64 R, .slice a K cap] 24) = W at *
  go_wp2_with fail
  (refine (HRF.out W HB.out).mono ?_)
  rintro e w1 ⟨rfl, hb_w1⟩
  replace c0 := cell_stays hb_w1 c0
  replace c1 := cell_stays hb_w1 c1
  replace c2 := cell_stays hb_w1 c2
  replace HB := Lib.hid (below_via HB.out hb_w1)
  clear hb_w1 HRF
  go_wp2_with fail
  (refine (awake_any w1).mono ?_)
  rintro e w2 ⟨rfl, hb_w2⟩
  replace c0 := cell_stays hb_w2 c0
  replace c1 := cell_stays hb_w2 c1
  replace c2 := cell_stays hb_w2 c2
  replace HB := Lib.hid (below_via HB.out hb_w2)
  clear hb_w2
  go_wp2_with fail
  (refine (HDT.out w2 HB.out).mono ?_)
  rintro e w3 ⟨dv, rfl, hf3, hb_w3⟩
  have hz3 := hf3.rd HZL.out (by have := HS1.out; omega)
  obtain ⟨am, an, ac, rfl, -⟩ := hf3.agg
  obtain ⟨sg, hsg⟩ : ∃ sg, sg = decide (leadD A R R < 0) := ⟨_, rfl⟩
  rw [← hsg] at hz3 ⊢
  clear hsg
  have ba_w3 := bl_alloc w3 (.cells #[.bool sg, .slice am an ac] 42)
  replace hb_w3 := below_via hb_w3 ba_w3
  obtain ⟨x0, x1, -, -⟩ := two_cells w3 (.bool sg) (.slice am an ac) 42
  have RD := Lib.hid (hz3.below ba_w3)
  replace c0 := cell_stays hb_w3 c0
  replace c1 := cell_stays hb_w3 c1
  replace c2 := cell_stays hb_w3 c2
  replace HB := Lib.hid (below_via HB.out hb_w3)
  clear hb_w3 ba_w3 hf3 hz3 HDT
  go_upto_region 6 with fail
  generalize hq_w3 : w3.heap.size = q_w3 at *
  generalize w3.alloc (.cells #[.bool sg, .slice am an ac] 42) = v_w3 at *
  clear hq_w3
  by_cases hR0 : R = 0
  · subst hR0
    have U1 := Lib.hid (fun u (hu : Below v_w3.heap.size v_w3 u) => zOf_fr 1 (by omega) (by omega) u)
    have T3 := Lib.hid (And.intro x0 x1)
    have RD1 := Lib.hid (show RdZ v_w3 (.agg #[.bool sg, .slice am an ac]) 1 from RD.out)
    go_wp2_with fail
    go_region_held3 (fun w' => w'.cell? ⟨q_w3, 0, none⟩ = some (.bool sg) ∧ w'.cell? ⟨q_w3, 1, none⟩ = some (.slice am an ac))
      (first
        | exact T3.out
        | exact T_w4.out
        | exact T_w5.out
        | go_keep)
      (first
        | (go_at_call 40; (first | (with_reducible refine (U1.out _ (bl_refl _)).mono ?_) | (with_reducible refine (U1.out _ (bl_drew _)).mono ?_)); rintro e w4 ⟨v4, rfl, f4, bb_w4⟩
           have b_w4 : Below v_w3.heap.size v_w3 w4 := by first | (with_reducible exact below_via (bl_refl _) bb_w4) | (with_reducible exact below_via (bl_drew _) bb_w4)
           have T_w4 := Lib.hid (show w4.cell? ⟨q_w3, 0, none⟩ = some (.bool sg) ∧ w4.cell? ⟨q_w3, 1, none⟩ = some (.slice am an ac) from ⟨cell_stays b_w4 (T3.out.1), cell_stays b_w4 (T3.out.2)⟩)
           have F4 := Lib.hid (f4.rd zb_one (by omega))
           have U2 := Lib.hid (fun u (hu : Below w4.heap.size w4 u) => zCmp_eq _ v4 1 u (RD1.out.below (below_via b_w4 hu)) (F4.out.below hu))
           clear bb_w4)
        | (go_at_call 37; (first | (with_reducible refine (U2.out _ (bl_refl _)).mono ?_)); rintro e w5 ⟨rfl, bb_w5⟩
           have b_w5 : Below w4.heap.size w4 w5 := by first | (with_reducible exact below_via (bl_refl _) bb_w5)
           have T_w5 := Lib.hid (show w5.cell? ⟨q_w3, 0, none⟩ = some (.bool sg) ∧ w5.cell? ⟨q_w3, 1, none⟩ = some (.slice am an ac) from ⟨cell_stays b_w5 (T_w4.out.1), cell_stays b_w5 (T_w4.out.2)⟩)
           clear bb_w5))
    all_goals
      go_wp2_with fail
      go_ret
      exact ⟨rfl, below_via HB.out (below_via b_w4 b_w5)⟩
  have hRp : 0 < R := by omega
  have hR0' : ((R : Int) == 0) = false := by rw [beq_eq_false_iff_ne]; omega
  clear hR0
  go_upto_region 8 with fail
  go_cut [53] (fun v wx => ∃ bq : Bool, v = .bool bq ∧ (bq = false → 0 ≤ row ∧ row < (R : Int)) ∧ wx = v_w3)
  case first =>
    by_cases h0 : row < 0
    · go_wp2_with fail
      go_meet
      exact ⟨_, rfl, (fun h => by simp at h), rfl⟩
    · by_cases h1 : (R : Int) ≤ row
      · go_wp2_with fail
        go_meet
        exact ⟨_, rfl, (fun h => by simp at h), rfl⟩
      · go_wp2_with fail
        go_meet
        exact ⟨_, rfl, (fun _ => by omega), rfl⟩
  case rest =>
  obtain ⟨bq, rfl, hbq, hw⟩ := hcut
  obtain rfl := hw.symm
  have HBQ := Lib.hid hbq
  clear hw hbq
  go_upto_if 53 with fail
  go_cut [1] (fun v wx => (∃ i : Nat, i < R ∧ v = .int .i64 i) ∧ wx = v_w3)
  case first =>
    cases bq
    · obtain ⟨h0, h1⟩ := HBQ.out rfl
      obtain ⟨i, rfl⟩ := Int.eq_ofNat_of_zero_le h0
      have hi : i < R := by omega
      clear h0 h1 HBQ
      go_wp2_with fail
      go_meet
      exact ⟨⟨i, hi, rfl⟩, rfl⟩
    · clear HBQ
      go_wp2_with fail
      go_meet
      exact ⟨⟨0, hRp, by go_num⟩, rfl⟩
  case rest =>
  obtain ⟨⟨i, hi, rfl⟩, hw⟩ := hcut
  obtain rfl := hw.symm
  clear hw
  have hi' : (i : Int) < R := by omega
  have hblk3 : w.heap.size < v_w3.heap.size := World.block_lt_of_cell? _ _ c0
  have hq3 : q_w3 < v_w3.heap.size := World.block_lt_of_cell? _ _ x0
  have RD3 := Lib.hid RD.out
  go_wp2_with fail
  (refine (zOf_fr 0 (by omega) (by omega) v_w3).mono ?_)
  rintro e w4 ⟨v4, rfl, hf4, hb_w4⟩
  have hv4 : v_w3.heap.size ≤ w4.heap.size := hb_w4.size
  obtain ⟨am4, an4, ac4, rfl, -⟩ := hf4.agg
  rw [show decide ((0 : Int) < 0) = false from rfl] at hf4 ⊢
  have hbx4 := two_cells w4 (.bool false) (.slice am4 an4 ac4) 42
  have ba_w4 := bl_alloc w4 (.cells #[.bool false, .slice am4 an4 ac4] 42)
  replace hb_w4 := below_via hb_w4 ba_w4
  obtain ⟨s0, s1, -, -⟩ := two_cells w4 (.bool false) (.slice am4 an4 ac4) 42
  have HF4 := Lib.hid (hf4.below ba_w4)
  have HN4 := Lib.hid hbx4
  have HB34 := Lib.hid hb_w4
  have HQ4 := Lib.hid (show w4.heap.size + 1 ≤ (w4.alloc (.cells #[.bool false, .slice am4 an4 ac4] 42)).heap.size by simp)
  replace c0 := cell_stays hb_w4 c0
  replace c1 := cell_stays hb_w4 c1
  replace c2 := cell_stays hb_w4 c2
  replace x0 := cell_stays hb_w4 x0
  replace x1 := cell_stays hb_w4 x1
  replace RD := Lib.hid (RD.out.below hb_w4)
  replace HB := Lib.hid (below_via HB.out hb_w4)
  clear hb_w4 ba_w4 hf4 hbx4
  go_wp2_with fail
  generalize hq_w4 : w4.heap.size = q_w4 at *
  generalize w4.alloc (.cells #[.bool false, .slice am4 an4 ac4] 42) = v_w4 at *
  clear hq_w4
  go_loopw [11] (fun kv wr => ∃ (j : Nat) (am an : _) (ac : Nat), j ≤ R ∧ kv = .int .i64 j ∧ Below q_w4 v_w4 wr ∧
    (wr.cell? ⟨q_w4, 0, none⟩ = some (.bool (decide (expS A R i j < 0))) ∧ wr.cell? ⟨q_w4, 1, none⟩ = some (.slice am an ac) ∧ wr.frozen? ⟨q_w4, 0, none⟩ = false ∧ wr.frozen? ⟨q_w4, 1, none⟩ = false) ∧
    FrZ wr v_w3.heap.size (.agg #[.bool (decide (expS A R i j < 0)), .slice am an ac]) (expS A R i j) ∧ q_w4 + 1 ≤ wr.heap.size) (fun kv _ => R - (intOf kv).toNat)
  case atStart => exact ⟨0, am4, an4, ac4, Nat.zero_le _, rfl, Below.refl _ _, HN4.out, HF4.out, HQ4.out⟩
  case round =>
    obtain ⟨j, ams, ans, acs, hjR, rfl, hbl, ⟨s0', s1', s2', s3'⟩, hfs, hsz⟩ := hrel
    clear s0 s1 HN4 HF4 HQ4
    have hb3 := HB34.out.trans (hbl.mono hv4)
    have hbw := HB.out.trans (hbl.mono (by omega))
    have hbw0 : ∀ u : World, Below wr.heap.size wr u → Below w.heap.size w u := fun u hu => below_via hbw hu
    replace c0 := below_keep hbl (by omega) c0
    replace c1 := below_keep hbl (by omega) c1
    replace c2 := below_keep hbl (by omega) c2
    replace x0 := below_keep hbl (by omega) x0
    replace x1 := below_keep hbl (by omega) x1
    have HX := Lib.hid hbw0
    have HBL := Lib.hid hbl
    have HB3 := Lib.hid hb3
    have HFS := Lib.hid hfs
    clear hbl hb3 hbw hbw0 hfs
    by_cases hj : j < R
    · have hj' : (j : Int) < R := by omega
      have hnn : n1 * n1 ≤ 1048576 := Nat.le_trans (Nat.mul_le_mul hn64 hn64) (by decide)
      have TM := Lib.hid (And.intro c0 (And.intro c1 c2))
      have hblk : w.heap.size < wr.heap.size := World.block_lt_of_cell? _ _ c0
      have U1 := Lib.hid (fun u (hu : Below wr.heap.size wr u) => HWO.out i hi u)
      go_upto_region 14 with fail
      go_cut [12] (fun v9 wx => ∃ q, v9 = .pointer (some ⟨q, 0, none⟩) ∧ BoxE wr wx q n1 n1 (n1 * n1) (dropE A R i j))
      case first =>
        go_region_held3 (fun w' => w'.cell? ⟨w.heap.size, 0, none⟩ = some (.int .i64 R) ∧ w'.cell? ⟨w.heap.size, 1, none⟩ = some (.int .i64 R) ∧ w'.cell? ⟨w.heap.size, 2, none⟩ = some (.slice a K cap))
          (first
            | exact stay3 (bl_drew _) (TM.out)
            | exact stay3 (bl_drew_alloc _ _) (TM.out)
            | exact stay3 (bl_alloc _ _) (TM.out)
            | exact stay3 (bl_alloc_drew _ _) (TM.out)
            | exact stay3 b_w10 (TM.out)
            | exact stay3 (bl_alloc _ _) (stay3 b_w10 (TM.out))
            | exact stay3 (bl_alloc_drew _ _) (stay3 b_w10 (TM.out))
            | exact stay3 b_w11 (stay3 b_w10 (TM.out))
            | exact stay3 (bl_alloc _ _) (stay3 b_w11 (stay3 b_w10 (TM.out)))
            | exact stay3 (bl_alloc_drew _ _) (stay3 b_w11 (stay3 b_w10 (TM.out)))
            | exact stay3 b_w12 (stay3 b_w11 (stay3 b_w10 (TM.out)))
            | exact stay3 (bl_alloc _ _) (stay3 b_w12 (stay3 b_w11 (stay3 b_w10 (TM.out))))
            | exact stay3 (bl_alloc_drew _ _) (stay3 b_w12 (stay3 b_w11 (stay3 b_w10 (TM.out))))
            | exact far3 (by omega) (stay3 b_w12 (stay3 b_w11 (stay3 b_w10 (TM.out))))
            | go_keep)
          (first
            | (go_at_call 41; (first | (with_reducible refine (U1.out _ (bl_refl _)).mono ?_) | (with_reducible refine (U1.out _ (bl_alloc _ _)).mono ?_) | (with_reducible refine (U1.out _ (bl_drew _)).mono ?_) | (with_reducible refine (U1.out _ (bl_drew_alloc _ _)).mono ?_) | (with_reducible refine (U1.out _ (bl_alloc_drew _ _)).mono ?_)); rintro e w10 ⟨v10, rfl, f10, bb_w10⟩
               have b_w10 : Below wr.heap.size wr w10 := by first | (with_reducible exact below_via (bl_refl _) bb_w10) | (with_reducible exact below_via (bl_alloc _ _) bb_w10) | (with_reducible exact below_via (bl_drew _) bb_w10) | (with_reducible exact below_via (bl_drew_alloc _ _) bb_w10) | (with_reducible exact below_via (bl_alloc_drew _ _) bb_w10)
               have s_w10 : wr.heap.size ≤ w10.heap.size := b_w10.size
               (first | (replace ZB := ZB; replace ZB := Lib.hid (box_on b_w10 ZB.out)) | (have ZB := Lib.hid (box_after_d bb_w10)) | (have ZB := Lib.hid (box_after_e bb_w10)) | (have ZB := Lib.hid (box_after bb_w10)) | skip)
               have F10 := Lib.hid (f10)
               have U2 := Lib.hid (fun u (hu : Below w10.heap.size w10 u) => HWO.out j hj u)
               clear bb_w10)
            | (go_at_call 41; (first | (with_reducible refine (U2.out _ (bl_refl _)).mono ?_) | (with_reducible refine (U2.out _ (bl_alloc _ _)).mono ?_)); rintro e w11 ⟨v11, rfl, f11, bb_w11⟩
               have b_w11 : Below w10.heap.size w10 w11 := by first | (with_reducible exact below_via (bl_refl _) bb_w11) | (with_reducible exact below_via (bl_alloc _ _) bb_w11)
               have s_w11 : w10.heap.size ≤ w11.heap.size := b_w11.size
               (first | (replace ZB := ZB; replace ZB := Lib.hid (box_on b_w11 ZB.out)) | (have ZB := Lib.hid (box_after_d bb_w11)) | (have ZB := Lib.hid (box_after_e bb_w11)) | (have ZB := Lib.hid (box_after bb_w11)) | skip)
               have F11 := Lib.hid (f11)
               have F10' := Lib.hid (F10.out.below b_w11)
               have U3 := Lib.hid (fun u (hu : Below w11.heap.size w11 u) => HPK.out i j v10 v11 u (HX.out u (below_via b_w10 (below_via b_w11 hu))) hRp (F10'.out.below hu) (F11.out.below hu))
               clear bb_w11)
            | (go_at_call 18; (first | (with_reducible refine (U3.out _ (bl_refl _)).mono ?_) | (with_reducible refine (U3.out _ (bl_alloc _ _)).mono ?_)); rintro e w12 ⟨l12, rfl, f_last, bb_w12⟩
               have b_w12 : Below w11.heap.size w11 w12 := by first | (with_reducible exact below_via (bl_refl _) bb_w12) | (with_reducible exact below_via (bl_alloc _ _) bb_w12)
               have s_w12 : w11.heap.size ≤ w12.heap.size := b_w12.size
               (first | (replace ZB := ZB; have ZL := Nat.lt_of_lt_of_le (ZB.out.2.2) f_last.own; replace ZB := Lib.hid (box_on b_w12 ZB.out)) | (have ZB := Lib.hid (box_after_d bb_w12); have ZL := Nat.lt_of_lt_of_le (alloc_lt _ _) f_last.own) | (have ZB := Lib.hid (box_after_e bb_w12); have ZL := Nat.lt_of_lt_of_le (alloc_lt _ _) f_last.own) | (have ZB := Lib.hid (box_after bb_w12); have ZL := Nat.lt_of_lt_of_le (alloc_lt _ _) f_last.own) | skip)
               (first | (obtain ⟨⟨z0, z1, z2⟩, ⟨y0, y1, y2⟩, zq⟩ := ZB.out) | skip)
               have F_last := Lib.hid (f_last)
               clear bb_w12))
        all_goals
          go_wp2_with fail
          go_meet
          first
            | exact ⟨_, rfl, boxE_new F_last.out hnn (below_via (below_via (b_w10) b_w11) b_w12) _ _⟩
            | exact ⟨_, rfl, boxE_old F_last.out hnn (below_via (below_via (b_w10) b_w11) b_w12) _ _ (by omega) ZL ZB.out⟩
      case rest =>
      obtain ⟨pq, rfl, hbx⟩ := hcut
      obtain ⟨wP, hwP⟩ : ∃ x, x = wc := ⟨_, rfl⟩
      subst hwP
      obtain ⟨hbP, pb, ⟨e0, e1, e2⟩, hrd⟩ := hbx
      have HDP := Lib.hid (HDX.out i j _ wP hrd)
      have hzP := HFS.out.below hbP
      have hzP' := hzP.rd (HZS.out i j hi hjR) HS1.out
      have RS := Lib.hid hzP'
      have HBP := Lib.hid hbP
      have hqP : q_w4 < wP.heap.size := Nat.lt_of_lt_of_le (by omega) hbP.size
      replace s2' := froz_stays hbP s0' s2'
      replace s3' := froz_stays hbP s1' s3'
      replace s0' := cell_stays hbP s0'
      replace s1' := cell_stays hbP s1'
      replace c0 := cell_stays hbP c0
      replace c1 := cell_stays hbP c1
      replace c2 := cell_stays hbP c2
      clear hrd hzP hzP' hbP TM U1 x0 x1
      go_wp2_with fail
      (refine HDP.out.mono ?_)
      rintro e w15 ⟨v15, rfl, hf15, hb15⟩
      have hz15 := hf15.rd (HZC.out i j) (by have := HS1.out; omega)
      obtain ⟨am15, an15, ac15, rfl, -⟩ := hf15.agg
      obtain ⟨sg15, hsg15⟩ : ∃ sg15, sg15 = decide (dropD A R i j < 0) := ⟨_, rfl⟩
      rw [← hsg15] at hz15 ⊢
      clear hsg15 hf15
      obtain ⟨y0, y1, y2, y3⟩ := two_cells w15 (.bool sg15) (.slice am15 an15 ac15) 42
      have hba := bl_alloc w15 (.cells #[.bool sg15, .slice am15 an15 ac15] 42)
      have RD15 := Lib.hid (hz15.below hba)
      have hs15 : wP.heap.size ≤ w15.heap.size := hb15.size
      replace hb15 := below_via hb15 hba
      have hbe : Below wr.heap.size wr _ := below_via HBP.out hb15
      have HBE := Lib.hid hbe
      have HBPV := Lib.hid hb15
      replace s2' := froz_stays hb15 s0' s2'
      replace s3' := froz_stays hb15 s1' s3'
      replace s0' := cell_stays hb15 s0'
      replace s1' := cell_stays hb15 s1'
      replace c0 := cell_stays hb15 c0
      replace c1 := cell_stays hb15 c1
      replace c2 := cell_stays hb15 c2
      have hse : w15.heap.size < (w15.alloc (.cells #[.bool sg15, .slice am15 an15 ac15] 42)).heap.size := alloc_lt _ _
      have HSE := Lib.hid hse
      clear hz15 hba hb15 hbe HBP HDP e0 e1 e2 hse
      go_upto_region 18 with fail
      generalize heb : w15.heap.size = eb at *
      generalize w15.alloc (.cells #[.bool sg15, .slice am15 an15 ac15] 42) = v15 at *
      clear heb
      go_cut [82] (fun v wx => (∃ bp : Bool, v = .bool bp ∧ bp = decide ((i + j) % 2 = 1)) ∧ wx = v15)
      case first =>
        go_wp2_with fail
        go_meet
        refine ⟨⟨_, rfl, ?_⟩, rfl⟩
        by_cases hpar : (i + j) % 2 = 1
        · rw [decide_eq_true hpar, beq_iff_eq]; omega
        · rw [decide_eq_false hpar, beq_eq_false_iff_ne]; omega
      case rest =>
      obtain ⟨⟨bp, rfl, hbp⟩, hw⟩ := hcut
      obtain rfl := hw.symm
      have HBP := Lib.hid hbp
      clear hw hbp
      go_upto_if 82 with fail
      go_cut [] (fun wx => ∃ sd ad nd cd, (wx.cell? ⟨eb, 0, none⟩ = some (.bool sd) ∧ wx.cell? ⟨eb, 1, none⟩ = some (.slice ad nd cd)) ∧ RdZ wx (.agg #[.bool sd, .slice ad nd cd]) (sgE i j * dropD A R i j) ∧ Below eb v15 wx)
      case first =>
        cases bp
        case true =>
          have hpar : (i + j) % 2 = 1 := of_decide_eq_true HBP.out.symm
          have hsg : sgE i j * dropD A R i j = -dropD A R i j := by unfold sgE; rw [if_pos hpar]; omega
          have HSG := Lib.hid hsg
          have HNG := Lib.hid (zNeg_any _ (dropD A R i j) v15 RD15.out)
          clear hpar hsg
          go_wp2_with fail
          (refine HNG.out.mono ?_)
          rintro e w16 ⟨v16, rfl, hf16, hb16⟩
          have hz16 := hf16.rd (HZC.out i j).neg (by have := HS1.out; omega)
          have hse' := HSE.out
          obtain ⟨am16, an16, ac16, rfl, hf17⟩ := (hf16.mono (show eb + 1 ≤ v15.heap.size from hse')).stored
          have hz17 := hf17.rd (HZC.out i j).neg (by have := HS1.out; omega)
          replace y2 := froz_stays hb16 y0 y2
          replace y3 := froz_stays hb16 y1 y3
          replace y0 := cell_stays hb16 y0
          replace y1 := cell_stays hb16 y1
          obtain ⟨sg16, hsg16⟩ : ∃ b, b = decide (-dropD A R i j < 0) := ⟨_, rfl⟩
          rw [← hsg16] at hz17 ⊢
          have hg := stored2_gb w16 eb (.bool sg16) (.slice am16 an16 ac16)
          have HB17 := Lib.hid ((hb16.mono (Nat.le_of_lt hse')).grown hg (by have := hb16.size; omega) (fun k hk => by injection hk with hk; omega))
          obtain ⟨n0, n1'⟩ := two_own (x0 := .bool sg16) (x1 := .slice am16 an16 ac16) y0 y1
          have HN17 := Lib.hid (And.intro n0 n1')
          have HZ17 := Lib.hid hz17
          clear hf16 hb16 hz16 hf17 hz17 hg n0 n1' HNG hsg16
          go_wp2_with fail
          go_meet
          exact ⟨_, _, _, _, HN17.out, by rw [HSG.out]; exact HZ17.out, HB17.out⟩
        case false =>
          have hpar : ¬ (i + j) % 2 = 1 := of_decide_eq_false HBP.out.symm
          have hsg : sgE i j * dropD A R i j = dropD A R i j := by unfold sgE; rw [if_neg hpar, Int.one_mul]
          have HSG := Lib.hid hsg
          clear hpar hsg
          go_wp2_with fail
          go_meet
          exact ⟨_, _, _, _, ⟨y0, y1⟩, by rw [HSG.out]; exact RD15.out, Below.refl _ _⟩
      case rest =>
      obtain ⟨sd, ad, nd, cd, ⟨g0, g1⟩, hzd, hbd⟩ := hcut
      obtain ⟨w20, hw20⟩ : ∃ x, x = wc := ⟨_, rfl⟩
      subst hw20
      have hse' := HSE.out
      have hqe : q_w4 < eb := by omega
      have hPw : Below wP.heap.size wP w20 := HBPV.out.trans (hbd.mono (by omega))
      have hww : Below w.heap.size w w20 := (HX.out _ HBE.out).trans (hbd.mono (by omega))
      have hqw : Below q_w4 v_w4 w20 := (HBL.out.trans (HBE.out.mono (by omega))).trans (hbd.mono (by omega))
      replace s2' := (hbd.frozen (p := ⟨q_w4, 0, none⟩) hqe).trans s2'
      replace s3' := (hbd.frozen (p := ⟨q_w4, 1, none⟩) hqe).trans s3'
      replace s0' := below_keep hbd hqe s0'
      replace s1' := below_keep hbd hqe s1'
      replace c0 := below_keep hbd (by omega) c0
      replace c1 := below_keep hbd (by omega) c1
      replace c2 := below_keep hbd (by omega) c2
      have hsz20 : q_w4 + 1 ≤ w20.heap.size := by have h : eb < w20.heap.size := World.block_lt_of_cell? _ _ g0; omega
      have hv20 : v_w3.heap.size ≤ w20.heap.size := by omega
      obtain ⟨p, hp⟩ : ∃ p, p = i * R + j := ⟨_, rfl⟩
      obtain ⟨hpK, hpe⟩ := idx_lt hi hj hp
      rw [HKK.out] at hpK
      obtain ⟨ba, oa, sa, ma, rfl, a0, a1, hza⟩ := HGET.out w20 p hpK hww
      obtain ⟨ama, ana, aca, rfl⟩ := hza.agg
      have hzs := RS.out.below hPw
      have hab := (HA.out p hpK).mul (sgE_zb i j (HZC.out i j))
      obtain ⟨z, hzz⟩ : ∃ z, z = expS A R i j := ⟨_, rfl⟩
      have hz' : expS A R i (j + 1) = A p * (sgE i j * dropD A R i j) + z := by rw [expS_succ, ← hp, ← hzz]
      rw [← hzz] at hzs s0'
      obtain ⟨sgz, hsgz⟩ : ∃ b, b = decide (z < 0) := ⟨_, rfl⟩
      rw [← hsgz] at hzs s0'
      have m0 : 0 ≤ (i : Int) * R := Int.mul_nonneg (by omega) (by omega)
      have m1 : (i : Int) * R ≤ 4096 := by omega
      have hpI : (p : Int) < (K : Int) := by exact_mod_cast hpK
      have wi1 : IntKind.i64.wrap ((i : Int) * R) = (i : Int) * R := IntWalk.i64_in _ (by omega)
      have wi2 : IntKind.i64.wrap ((i : Int) * R + j) = (p : Int) := by rw [hpe]; exact IntWalk.i64_in _ (by omega)
      have hma := zMulAdd_any _ _ _ (A p) (sgE i j * dropD A R i j) z (S + (64 * (S + 1) + 1)) w20.drew (by have := HS1.out; omega) hab (hza.below (bl_drew _)) (hzd.below (bl_drew _)) (hzs.below (bl_drew _))
      rw [← hz'] at hma
      obtain ⟨z1, hz1⟩ : ∃ z1, z1 = expS A R i (j + 1) := ⟨_, rfl⟩
      rw [← hz1] at hma
      have HMA := Lib.hid hma
      have HZ1 := Lib.hid hz1
      have HQW := Lib.hid hqw
      clear hab hz' hma hza hzs hzd hbd hPw hww hqw hsgz hzz hp hpe hz1 RS RD15 HBPV HBE HFS y0 y1 y2 y3 HBP
      go_wp2_with fail
      refine wp_region_still_tail 11 (by kernel_rfl) (by kernel_rfl) ?_
      simp only [List.take_succ_cons, List.take_zero, List.drop_succ_cons, List.drop_zero]
      repeat still_step
      refine wpStill_nil ?_
      change wpList _ _ _ _ _ w20.drew
      replace s0' := cell_stays (bl_drew w20) s0'
      replace s1' := cell_stays (bl_drew w20) s1'
      have u0 : w20.drew.frozen? ⟨q_w4, 0, none⟩ = false := s2'
      have u1 : w20.drew.frozen? ⟨q_w4, 1, none⟩ = false := s3'
      have hs2 : q_w4 + 1 ≤ w20.drew.heap.size := hsz20
      have hv2 : v_w3.heap.size ≤ w20.drew.heap.size := hv20
      have HQ2 := Lib.hid HQW.out.drew
      clear a0 a1 c0 c1 c2 g0 g1 s2' s3' HQW wi1 wi2
      generalize w20.drew = w21 at *
      go_wp2_with fail
      (refine HMA.out.mono ?_)
      rintro e w22 ⟨v22, rfl, hf22, hb22⟩
      replace u0 := froz_stays hb22 s0' u0
      replace u1 := froz_stays hb22 s1' u1
      replace s0' := cell_stays hb22 s0'
      replace s1' := cell_stays hb22 s1'
      obtain ⟨am5, an5, ac5, rfl, -⟩ := (hf22.mono hs2).stored
      have hg5 := stored2_gb w22 q_w4 (.bool (decide (z1 < 0))) (.slice am5 an5 ac5)
      have HF6 := Lib.hid ((hf22.mono (Nat.le_refl _)).far hg5 (by omega))
      have hs5 := hb22.size
      have HB6 := Lib.hid ((HQ2.out.trans (hb22.mono (by omega))).grown hg5 (by omega) (fun k hk => by injection hk with hk; omega))
      have HS6 := Lib.hid (show q_w4 + 1 ≤ (stored2 w22 q_w4 (.bool (decide (z1 < 0))) (.slice am5 an5 ac5)).heap.size from Nat.le_trans (by omega) hg5.size)
      obtain ⟨n0, n1'⟩ := two_own (x0 := .bool (decide (z1 < 0))) (x1 := .slice am5 an5 ac5) s0' s1'
      have n2 : (stored2 w22 q_w4 (.bool (decide (z1 < 0))) (.slice am5 an5 ac5)).frozen? ⟨q_w4, 0, none⟩ = false := by unfold stored2; rw [World.frozen?_setCell, World.frozen?_setCell]; exact u0
      have n3 : (stored2 w22 q_w4 (.bool (decide (z1 < 0))) (.slice am5 an5 ac5)).frozen? ⟨q_w4, 1, none⟩ = false := by unfold stored2; rw [World.frozen?_setCell, World.frozen?_setCell]; exact u1
      have HN := Lib.hid (And.intro n0 (And.intro n1' (And.intro n2 n3)))
      have HF7 := Lib.hid (HF6.out.mono hv2)
      clear hf22 hb22 hg5 hs5 n0 n1' n2 n3 HMA HQ2 HF6
      go_wp2_with fail
      go_roundw
      case rel => exact ⟨j + 1, am5, an5, ac5, by omega, by go_num, HB6.out, by rw [← HZ1.out]; exact HN.out, by rw [← HZ1.out]; exact HF7.out, HS6.out⟩
      case measure => simp [intOf]; omega
    · obtain rfl : j = R := by omega
      have hzs := HFS.out.rd (HZS.out i j hi (Nat.le_refl _)) HS1.out
      have hrd3 := RD3.out.below HB3.out
      rw [expS_all hi] at hzs s0'
      obtain ⟨sgz, hsgz⟩ : ∃ b, b = decide (leadD A j j < 0) := ⟨_, rfl⟩
      rw [← hsgz] at hzs s0'
      have HCM := Lib.hid (zCmp_eq _ _ (leadD A j j) wr hzs hrd3)
      have HWW := Lib.hid (HX.out wr (Below.refl _ _))
      clear hzs hrd3 hsgz HFS RD3 HB3 c0 c1 c2
      go_wp2_with fail
      (refine HCM.out.mono ?_)
      rintro e w23 ⟨rfl, hb23⟩
      have HW23 := Lib.hid (below_via HWW.out hb23)
      clear hb23 HCM
      go_wp2_with fail
      go_ret
      exact ⟨rfl, HW23.out⟩

/-- the law, for any arguments -/
theorem Expands_law (r c k : Int) (s : Value) (n : Nat) (x : Nat → Raw) (w : World) (hr : RdL w s n x) (hx : ∀ i, i < n → (x i).n ≤ 1048576) :
    Calls Try.prog 9 #[.agg #[.int .i64 r, .int .i64 c, s], .int .i64 k] w fun e w' => e = .returned (.bool true) ∧ Below w.heap.size w w' := by
  obtain ⟨a, cap, rfl, hcap, hn, -⟩ := id hr
  rcases check_cases r c n with h | ⟨R, C, rfl, rfl, hR, hC, rfl⟩
  · exact Expands_done r c _ k w fun u => refused_bad r c a n cap (by omega) h u
  · by_cases e : R = C
    · subst e
      have hK4 : R * R ≤ 4096 := Nat.mul_le_mul hR hC
      exact Expands_good R k _ (fun i => (x i).val) 1048576 w hR (by omega) (hr.rde (by omega) (fun i hi => by have := hx i hi; omega)) (hr.zbs hx)
    · exact Expands_done R C _ k w fun u => refused_unfit R C a (R * C) cap (by omega) (checkE_ok hR hC rfl) (by omega) u
end Go.Proofs.Ytncldpadakckjaa

namespace Go.Proofs.Ytncldpadakckjaa.bareissExpands
open Go.ChangeShapes Go.WideShapes Go.ChangeAt Go.RowKit

theorem own : ownKnob Try.prog.godebug = none := by kernel_rfl

set_option maxRecDepth 100000 in
theorem contract (H : Type) (enc : TypeId × Value → H) (W : World) (base : Nat) (args : Array Value) (ds gs : List (DataW H)) (before : List MemPlace)
    (hval : ∀ (j : Nat) t v, Try.f9.params[j]? = some t → args[j]? = some v → Value.okWide Try.prog W .any base t v)
    (hW : DataW.Whole enc Try.prog Try.f9.params.toList Rows.bareissExpandsSpec.vars false W args.toList ds gs before) (hk : Rows.uptoSmall H (ds ++ gs) = true) :
    Calls Try.prog 9 args W fun e W' => ∃ v, e = .returned v ∧ Rows.bareissExpandsSpec.post enc Try.prog Try.f9 false true false false W args v W' := by
  have hW' := hW
  have hlt : ∀ x ∈ before, x.block < W.heap.size := fun x hx => hW.lt x hx
  obtain ⟨p, q, hA0, hV, rfl, hfz, hnd⟩ := hW
  have hA : DataW.TrodAll enc Try.prog W 0 (fun _ => true) true Try.f9.params.toList args.toList ds p := hA0
  rw [Try.params9] at hA hval
  obtain ⟨v0, vs0, d0, ds0, p0, q0, hargs, rfl, rfl, h0, r0⟩ := trodAll_cons hA
  obtain ⟨v1, vs1, d1, ds1, p1, q1, rfl, rfl, rfl, h1, r1⟩ := trodAll_cons r0
  obtain ⟨rfl, rfl, rfl⟩ := trodAll_nil r1
  obtain rfl : args = #[v0, v1] := by cases args; simp_all
  obtain ⟨rfl, rfl⟩ := trodVars_none hV
  have h0k := h0
  obtain ⟨k1, rfl, rfl, rfl, wk1⟩ := open_int Try.underlying3 (hval 1 3 v1 rfl rfl) h1
  clear hA0
  simp only [List.append_nil] at hW' hk hlt
  have hbk : Rows.uptoBulkAll [d0, DataW.lit (.int .i64 k1)] ≤ 1048576 := of_decide_eq_true hk
  simp only [Rows.uptoBulkAll] at hbk
  obtain ⟨R0, C0, s0, n0, x0, rfl, hr0, hn0, hx0, -, -⟩ := open_mat (B := 1048576) (hval 0 24 v0 rfl rfl) h0 (by omega) (by omega)
  have bk1 : -9223372036854775808 ≤ k1 ∧ k1 ≤ 9223372036854775807 := by simp [Lit.wf, IntKind.min, IntKind.max, IntKind.signed, IntKind.bits] at wk1; omega
  refine (Expands_law R0 C0 k1 s0 n0 x0 W hr0 hx0).mono fun e W' ⟨he, hg⟩ => ?_
  subst he
  refine ⟨_, rfl, post_of_below (pa := (p0 ++ ([] ++ []))) (pv := []) hW' (fun _ _ _ => (trodAll_cons_mk (shut_bool Try.underlying4 _) trodAll_mk0)) (fun sp hsp => (trodAll_cons_mk (WideElems.Trod_stays (P := Try.prog) (by kernel_rfl) (by kernel_rfl) (of_decide_eq_true (by kernel_rfl)) h0k (fun x hx => hg.same (hlt x (by simp [hx]))) (fun x hx => hsp x (by simp [hx]))) (trodAll_cons_mk (shut_int Try.underlying3 wk1) trodAll_mk0))) (fun _ _ => rfl) (by simp)
    hg (ok_one (by kernel_rfl) rfl (okWide_bool_mk Try.underlying4 _))⟩

set_option maxRecDepth 100000 in
theorem lifted (os : Os) (started : os.Started) (H : Type) (enc : TypeId × Value → H) (F : Stop.Interp) :
    ReturnsInHanded {} Try.checked os 9 .any ((Rows.OpenSpec.upto Rows.bareissExpandsSpec).pre6 enc Try.prog Try.f9 Rows.bareissExpandsUptoRow.domain false) (((Rows.OpenSpec.upto Rows.bareissExpandsSpec).at F).post enc Try.prog Try.f9 false true false false) := by
  refine returnsInHanded_of_cond (C := Try.checked) (s := Rows.OpenSpec.upto Rows.bareissExpandsSpec) (k := Rows.uptoSmall) rfl own started (by kernel_rfl) Try.func9
    (OpenSpec.witness (enc := enc) (C := Try.checked) (s := Rows.OpenSpec.upto Rows.bareissExpandsSpec) (k := Rows.uptoSmall) rfl false ⟨#[], #[.agg #[.int .i64 0, .int .i64 0, .slice none 0 0], .int .i64 0], []⟩ 8 (by kernel_rfl) (by kernel_rfl) (by kernel_rfl)
      (x := ([.agg [.lit (.int .i64 0), .lit (.int .i64 0), .nil], .lit (.int .i64 0)], [], [])) (by kernel_rfl) rfl (by kernel_rfl)) ?_
  intro W base args ds gs before hval hW _ hk _
  exact contract H enc W base args ds gs before hval hW hk

/-- the statement -/
theorem proved : Rows.BareissExpandsUptoSaid :=
  OpenClaim.holds_of_cond 9 Try.f9 rfl rfl rfl rfl rfl rfl rfl ⟨rfl, rfl, rfl, rfl, rfl⟩ rfl rfl rfl rfl rfl (by kernel_rfl) Try.func9 (by kernel_rfl)
    (of_decide_eq_true (by kernel_rfl)) (by unfold Func.isWrapper; first | (rw [if_pos (by decide +kernel)]; kernel_rfl) | (rw [if_neg (by decide +kernel)]; exact ⟨rfl, rfl⟩))
    (fun os started H enc _ F => lifted os started H enc F)
#print axioms proved
end Go.Proofs.Ytncldpadakckjaa.bareissExpands
