/- The walk of the law BareissProducts. The walk of the law BareissProducts: the second matrix not square. The walk of the law BareissProducts: both square. The walk of the law BareissProducts: for any arguments. 'BareissProducts', where what it reads is of bulk at most 1,048,576: for all matrices a and b the law returns true and its arguments read as before. -/
import Derived.Test.YtncldpadakckjaaGJ
import Derived.Test.YtncldpadakckjaaRows
import Derived.Test.YtncldpadakckjaaGH
import Derived.ProofKit
import Derived.OpenShut
import Derived.Carry
import Derived.JoinedCond
set_option linter.unusedVariables false
set_option linter.unusedSimpArgs false
namespace Go.Proofs.Ytncldpadakckjaa
open Go.RowKit

theorem boxes2M (w : World) (a0 a1 a2 b0 b1 b2 : Value) :
    let W := (w.alloc (.cells #[a0, a1, a2] 24)).alloc (.cells #[b0, b1, b2] 24)
    (W.cell? ⟨w.heap.size, 0, none⟩ = some a0 ∧ W.cell? ⟨w.heap.size, 1, none⟩ = some a1 ∧ W.cell? ⟨w.heap.size, 2, none⟩ = some a2) ∧
    (W.cell? ⟨w.heap.size + 1, 0, none⟩ = some b0 ∧ W.cell? ⟨w.heap.size + 1, 1, none⟩ = some b1 ∧ W.cell? ⟨w.heap.size + 1, 2, none⟩ = some b2) ∧ Below w.heap.size w W := by
  intro W
  obtain ⟨w1, h1⟩ : ∃ w1, w1 = w.alloc (.cells #[a0, a1, a2] 24) := ⟨_, rfl⟩
  have hW : W = w1.alloc (.cells #[b0, b1, b2] 24) := by rw [h1]
  have s1 : w1.heap.size = w.heap.size + 1 := by rw [h1]; simp
  have b1' : Below w.heap.size w w1 := by rw [h1]; exact bl_alloc _ _
  have b2' : Below w1.heap.size w1 W := by rw [hW]; exact bl_alloc _ _
  have k1 := three_cells w a0 a1 a2 24
  have k2 := three_cells w1 b0 b1 b2 24
  rw [← h1] at k1
  rw [← hW, s1] at k2
  clear_value W
  exact ⟨⟨cell_stays b2' (k1 0 _ rfl).1, cell_stays b2' (k1 1 _ rfl).1, cell_stays b2' (k1 2 _ rfl).1⟩, ⟨(k2 0 _ rfl).1, (k2 1 _ rfl).1, (k2 2 _ rfl).1⟩, below_via b1' b2'⟩

theorem leadD_zb {A : Nat → Int} {R S : Nat} (hA : ∀ q, q < R * R → ZB S (A q)) (hR : R ≤ 64) {k : Nat} (hk : k ≤ R) : ZB (64 * (S + 1) + 1) (leadD A R k) := by
  have h : ZB (k * (S + 1) + 1) (leadD A R k) := dtZ_zb k _ (by omega) fun i j hi hj => hA _ (idx_lt (show i < R by omega) (show j < R by omega) rfl).1
  exact h.mono (by have := Nat.mul_le_mul_right (S + 1) (show k ≤ 64 by omega); omega)
theorem leadD_all (A : Nat → Int) (R : Nat) : laZ.dt R (fun i j => A (i * R + j)) = leadD A R R := rfl
theorem cmpZ_self (a : Int) : cmpZ a a = 0 := by unfold cmpZ; rw [if_neg (by omega), if_neg (by omega)]
theorem zCmp_eq (x y : Value) (a : Int) (w : World) (hx : RdZ w x a) (hy : RdZ w y a) :
    Calls Try.prog 37 #[x, y] w fun e w' => e = .returned (.int .i64 0) ∧ Below w.heap.size w w' := by
  have h := zCmp_any x y a a w hx hy
  rw [cmpZ_self] at h
  exact h

/-- the transpose's entries -/
def turnE (A : Nat → Int) (R C q : Nat) : Int := A (q % R * C + q / R)
theorem turnE_det (A : Nat → Int) (R : Nat) : leadD (turnE A R R) R R = leadD A R R := by
  show laZ.dt R (fun i j => turnE A R R (i * R + j)) = laZ.dt R (fun i j => A (i * R + j))
  rw [← dtZ_turn R (fun i j => A (i * R + j))]
  exact laZ.dt_congr fun i j _ hj => turn_idx A hj
theorem turnE_zb {A : Nat → Int} {R S : Nat} (hA : ∀ q, q < R * R → ZB S (A q)) : ∀ q, q < R * R → ZB S (turnE A R R q) := fun q hq => by
  obtain ⟨h1, h2⟩ := idx_at hq
  exact hA _ (idx_lt h2 h1 rfl).1
theorem mulE_det (A B : Nat → Int) (R : Nat) : leadD (mulE A B R R) R R = leadD A R R * leadD B R R := by
  show laZ.dt R (fun i j => mulE A B R R (i * R + j)) = laZ.dt R (fun i j => A (i * R + j)) * laZ.dt R (fun i j => B (i * R + j))
  rw [← dtZ_mul]
  refine laZ.dt_congr fun i j _ hj => ?_
  obtain ⟨h1, h2⟩ := idx_dm (i := i) hj
  show psum A B R R ((i * R + j) / R) ((i * R + j) % R) R = _
  rw [h1, h2]; rfl
theorem mulE_zb {A B : Nat → Int} {R K C S T : Nat} (hK : K ≤ 64) (hA : ∀ q, q < R * K → ZB S (A q)) (hB : ∀ q, q < K * C → ZB T (B q)) : ∀ q, q < R * C → ZB (S + T + 1) (mulE A B K C q) := fun q hq => by
  obtain ⟨h1, h2⟩ := idx_at hq
  exact psum_zb hK h1 h2 hA hB (Nat.le_refl _)

set_option maxHeartbeats 4000000 in
set_option maxRecDepth 100000 in
theorem Products_done (r c : Int) (s : Value) (r' c' : Int) (s' : Value) (w : World) (hd : ∀ u : World, Calls Try.prog 38 #[.agg #[.int .i64 r, .int .i64 c, s]] u fun e w' => e = .returned (.tuple #[.bool true, .bool true]) ∧ Below u.heap.size u w') :
    Calls Try.prog 10 #[.agg #[.int .i64 r, .int .i64 c, s], .agg #[.int .i64 r', .int .i64 c', s']] w fun e w' => e = .returned (.bool true) ∧ Below w.heap.size w w' := by
  obtain ⟨⟨c0, c1, c2⟩, ⟨d0, d1, d2⟩, hB⟩ := boxes2M w (.int .i64 r) (.int .i64 c) s (.int .i64 r') (.int .i64 c') s'
  have HD := Lib.hid hd
  have HB := Lib.hid hB
  clear hd hB d0 d1 d2
  go_enter Try.func10, Try.ntmps10
  go_upto_region 1 with fail
  generalize (w.alloc (.cells #[.int .i64 r, .int .i64 c, s] 24)).alloc (.cells #[.int .i64 r', .int .i64 c', s'] 24) = W at *
  go_wp2_with fail
  (refine (HD.out W).mono ?_)
  rintro e w1 ⟨rfl, hb1⟩
  have HB1 := Lib.hid (below_via HB.out hb1)
  clear hb1 HD HB c0 c1 c2
  go_wp2_with fail
  (refine (awake_any w1).mono ?_)
  rintro e w2 ⟨rfl, hb2⟩
  have HB2 := Lib.hid (below_via HB1.out hb2)
  clear hb2 HB1
  go_wp2_with fail
  (refine (awake_any w2).mono ?_)
  rintro e w3 ⟨rfl, hb3⟩
  have HB3 := Lib.hid (below_via HB2.out hb3)
  clear hb3 HB2
  go_wp2_with fail
  go_ret
  exact ⟨rfl, HB3.out⟩

set_option maxHeartbeats 8000000 in
set_option maxRecDepth 100000 in
theorem Products_not (R S : Nat) (sl : Value) (A : Nat → Int) (r' c' : Int) (b : Option Addr) (n' cap' : Nat) (hn' : n' ≤ 17592186044416) (hne : checkE r' c' n' = 1 ∨ (checkE r' c' n' = 0 ∧ (R : Int) ≠ r')) (w : World) (hR : R ≤ 64) (hS : S ≤ 100000000) (hr : RdE w sl (R * R) A) (hA : ∀ q, q < R * R → ZB S (A q)) :
    Calls Try.prog 10 #[.agg #[.int .i64 R, .int .i64 R, sl], .agg #[.int .i64 r', .int .i64 c', .slice b n' cap']] w fun e w' => e = .returned (.bool true) ∧ Below w.heap.size w w' := by
  have hK4 : R * R ≤ 4096 := Nat.mul_le_mul hR hR
  have hS1 : 64 * (S + 1) + 1 ≤ 274877906944 := by omega
  obtain ⟨a, cap, rfl, hcap⟩ := hr.slice
  obtain ⟨⟨c0, c1, c2⟩, ⟨d0, d1, d2⟩, hB⟩ := boxes2M w (.int .i64 R) (.int .i64 R) (.slice a (R * R) cap) (.int .i64 r') (.int .i64 c') (.slice b n' cap')
  have hrf := fun (u : World) (hu : Below w.heap.size w u) => refused_good R S _ A u hR (by omega) (hr.below hu) hA
  have hdt := fun (u : World) (hu : Below w.heap.size w u) => det13_good R S _ A u hR (by omega) (hr.below hu) hA
  have htu := fun (u : World) (hu : Below w.heap.size w u) => Turn_good R R _ A u hR hR (hr.below hu)
  have hdx := fun (E : Nat → Int) (T : Nat) (sl : Value) (u : World) (hT : T ≤ 268435456) (h1 : RdE u sl (R * R) E) (hE : ∀ q, q < R * R → ZB T (E q)) => det13_good R T sl E u hR hT h1 hE
  have htz := turnE_zb hA
  have hzl := leadD_zb hA hR (Nat.le_refl R)
  simp only [leadD_all] at hdt hdx
  obtain ⟨D, hD⟩ : ∃ D, D = leadD A R R := ⟨_, rfl⟩
  have htd := turnE_det A R
  rw [← hD] at htd hzl
  simp only [← hD] at hdt
  have hex : ∃ E, (E = 1 ∨ E = 2) ∧ ∀ u : World, Calls Try.prog 25 #[.agg #[.int .i64 R, .int .i64 R, .slice a (R * R) cap], .agg #[.int .i64 r', .int .i64 c', .slice b n' cap']] u fun e w' => e = .returned (.tuple #[.agg #[.int .i64 0, .int .i64 0, .slice none 0 0], .int .i64 E]) ∧ Below u.heap.size u w' := by
    have h0 := checkE_ok hR hR (rfl : R * R = R * R)
    rcases hne with h | ⟨h, h'⟩
    · exact ⟨1, Or.inl rfl, fun u => Mul_not R R r' c' a b (R * R) n' cap cap' (by omega) hn' 1 (Or.inl ⟨by rw [h0, h]; rfl, rfl⟩) u⟩
    · exact ⟨2, Or.inr rfl, fun u => Mul_not R R r' c' a b (R * R) n' cap cap' (by omega) hn' 2 (Or.inr ⟨by rw [h0, h]; rfl, h', rfl⟩) u⟩
  obtain ⟨E, hE, hmu⟩ := hex
  generalize hKK : R * R = K at *
  have HRF := Lib.hid hrf
  have HDT := Lib.hid hdt
  have HTU := Lib.hid htu
  have HDX := Lib.hid hdx
  have HTZ := Lib.hid htz
  have HZL := Lib.hid hzl
  have HTD := Lib.hid htd
  have HD := Lib.hid hD
  have HB := Lib.hid hB
  have HS1 := Lib.hid hS1
  have HKK := Lib.hid hKK
  have HE := Lib.hid hE
  have HMU := Lib.hid hmu
  clear hE hmu hne
  clear hrf hdt htu hdx htz hzl htd hB hA hr hS1 hD hKK
  go_enter Try.func10, Try.ntmps10
  go_upto_region 1 with fail
  generalize (w.alloc (.cells #[.int .i64 R, .int .i64 R, .slice a K cap] 24)).alloc (.cells #[.int .i64 r', .int .i64 c', .slice b n' cap'] 24) = W at *
  go_wp2_with fail
  (refine (HRF.out W HB.out).mono ?_)
  rintro e w1 ⟨rfl, hb_w1⟩
  replace c0 := cell_stays hb_w1 c0
  replace c1 := cell_stays hb_w1 c1
  replace c2 := cell_stays hb_w1 c2
  replace d0 := cell_stays hb_w1 d0
  replace d1 := cell_stays hb_w1 d1
  replace d2 := cell_stays hb_w1 d2
  replace HB := Lib.hid (below_via HB.out hb_w1)
  clear hb_w1 HRF
  go_wp2_with fail
  (refine (awake_any w1).mono ?_)
  rintro e w2 ⟨rfl, hb_w2⟩
  replace c0 := cell_stays hb_w2 c0
  replace c1 := cell_stays hb_w2 c1
  replace c2 := cell_stays hb_w2 c2
  replace d0 := cell_stays hb_w2 d0
  replace d1 := cell_stays hb_w2 d1
  replace d2 := cell_stays hb_w2 d2
  replace HB := Lib.hid (below_via HB.out hb_w2)
  clear hb_w2
  go_wp2_with fail
  (refine (HDT.out w2 HB.out).mono ?_)
  rintro e w3 ⟨dv, rfl, hf3, hb_w3⟩
  have hz3 := hf3.rd HZL.out HS1.out
  obtain ⟨am, an, ac, rfl, -⟩ := hf3.agg
  obtain ⟨sg, hsg⟩ : ∃ sg, sg = decide (D < 0) := ⟨_, rfl⟩
  rw [← hsg] at hz3 ⊢
  have ba_w3 := bl_alloc w3 (.cells #[.bool sg, .slice am an ac] 42)
  replace hb_w3 := below_via hb_w3 ba_w3
  obtain ⟨x0, x1, -, -⟩ := two_cells w3 (.bool sg) (.slice am an ac) 42
  have RD := Lib.hid (hz3.below ba_w3)
  replace c0 := cell_stays hb_w3 c0
  replace c1 := cell_stays hb_w3 c1
  replace c2 := cell_stays hb_w3 c2
  replace d0 := cell_stays hb_w3 d0
  replace d1 := cell_stays hb_w3 d1
  replace d2 := cell_stays hb_w3 d2
  replace HB := Lib.hid (below_via HB.out hb_w3)
  clear hb_w3 ba_w3 hf3 hz3 HDT hsg
  go_wp2_with fail
  generalize hq_w3 : w3.heap.size = q_w3 at *
  generalize w3.alloc (.cells #[.bool sg, .slice am an ac] 42) = v_w3 at *
  clear hq_w3
  (refine (HTU.out v_w3 HB.out).mono ?_)
  rintro e w4 ⟨lt, rfl, hf4, hb_w4⟩
  have ba_w4 := bl_alloc w4 (.cells #[.int .i64 R, .int .i64 R, .slice (some ⟨lt, 0, none⟩) K K] 24)
  replace hb_w4 := below_via hb_w4 ba_w4
  have bk_w4 := three_cells w4 (.int .i64 R) (.int .i64 R) (.slice (some ⟨lt, 0, none⟩) K K) 24
  have t0 := (bk_w4 0 _ rfl).1
  have t1 := (bk_w4 1 _ rfl).1
  have t2 := (bk_w4 2 _ rfl).1
  have RT := Lib.hid ((hf4.rd (Nat.le_refl _) (by omega)).below ba_w4)
  replace c0 := cell_stays hb_w4 c0
  replace c1 := cell_stays hb_w4 c1
  replace c2 := cell_stays hb_w4 c2
  replace d0 := cell_stays hb_w4 d0
  replace d1 := cell_stays hb_w4 d1
  replace d2 := cell_stays hb_w4 d2
  replace x0 := cell_stays hb_w4 x0
  replace x1 := cell_stays hb_w4 x1
  replace RD := Lib.hid (RD.out.below hb_w4)
  replace HB := Lib.hid (below_via HB.out hb_w4)
  clear hb_w4 ba_w4 bk_w4 hf4 HTU
  go_wp2_with fail
  generalize hq_w4 : w4.heap.size = q_w4 at *
  generalize w4.alloc (.cells #[.int .i64 R, .int .i64 R, .slice (some ⟨lt, 0, none⟩) K K] 24) = v_w4 at *
  clear hq_w4
  have hdt4 := HDX.out (turnE A R R) S _ v_w4 (by omega) RT.out HTZ.out
  rw [HTD.out] at hdt4
  have HDT4 := Lib.hid hdt4
  clear hdt4
  (refine (HDT4.out).mono ?_)
  rintro e w5 ⟨dv5, rfl, hf5, hb_w5⟩
  have hz5 := hf5.rd HZL.out HS1.out
  obtain ⟨am5, an5, ac5, rfl, -⟩ := hf5.agg
  obtain ⟨sg5, hsg5⟩ : ∃ sg5, sg5 = decide (D < 0) := ⟨_, rfl⟩
  rw [← hsg5] at hz5 ⊢
  clear hsg5
  have ba_w5 := bl_alloc w5 (.cells #[.bool sg5, .slice am5 an5 ac5] 42)
  replace hb_w5 := below_via hb_w5 ba_w5
  obtain ⟨y0, y1, -, -⟩ := two_cells w5 (.bool sg5) (.slice am5 an5 ac5) 42
  have RD5 := Lib.hid (hz5.below ba_w5)
  replace c0 := cell_stays hb_w5 c0
  replace c1 := cell_stays hb_w5 c1
  replace c2 := cell_stays hb_w5 c2
  replace d0 := cell_stays hb_w5 d0
  replace d1 := cell_stays hb_w5 d1
  replace d2 := cell_stays hb_w5 d2
  replace x0 := cell_stays hb_w5 x0
  replace x1 := cell_stays hb_w5 x1
  replace RD := Lib.hid (RD.out.below hb_w5)
  replace HB := Lib.hid (below_via HB.out hb_w5)
  clear hb_w5 ba_w5 hf5 hz5 HDT4 HTZ HTD
  clear RT t0 t1 t2
  go_wp2_with fail
  generalize hq_w5 : w5.heap.size = q_w5 at *
  generalize w5.alloc (.cells #[.bool sg5, .slice am5 an5 ac5] 42) = v_w5 at *
  clear hq_w5
  (refine (zCmp_eq _ _ D v_w5 RD.out RD5.out).mono ?_)
  rintro e w6 ⟨rfl, hb_w6⟩
  replace c0 := cell_stays hb_w6 c0
  replace c1 := cell_stays hb_w6 c1
  replace c2 := cell_stays hb_w6 c2
  replace d0 := cell_stays hb_w6 d0
  replace d1 := cell_stays hb_w6 d1
  replace d2 := cell_stays hb_w6 d2
  replace x0 := cell_stays hb_w6 x0
  replace x1 := cell_stays hb_w6 x1
  replace RD := Lib.hid (RD.out.below hb_w6)
  replace HB := Lib.hid (below_via HB.out hb_w6)
  clear hb_w6
  clear RD5 y0 y1
  go_wp2_with fail
  (refine (HMU.out w6).mono ?_)
  rintro e w7 ⟨rfl, hb_w7⟩
  replace c0 := cell_stays hb_w7 c0
  replace c1 := cell_stays hb_w7 c1
  replace c2 := cell_stays hb_w7 c2
  replace d0 := cell_stays hb_w7 d0
  replace d1 := cell_stays hb_w7 d1
  replace d2 := cell_stays hb_w7 d2
  replace HB := Lib.hid (below_via HB.out hb_w7)
  clear hb_w7 HMU
  clear x0 x1 RD
  rcases HE.out with rfl | rfl
  · go_wp2_with fail
    go_ret
    exact ⟨rfl, below_via HB.out (bl_alloc _ _)⟩
  · go_wp2_with fail
    go_ret
    exact ⟨rfl, below_via HB.out (bl_alloc _ _)⟩
end Go.Proofs.Ytncldpadakckjaa

namespace Go.Proofs.Ytncldpadakckjaa
open Go.RowKit

set_option maxHeartbeats 8000000 in
set_option maxRecDepth 100000 in
theorem Products_wide (w : World) (R S : Nat) (sl : Value) (A : Nat → Int) (C' T : Nat) (sb : Value) (B : Nat → Int) (hC' : C' ≤ 64) (hT : T ≤ 100000000) (hr' : RdE w sb (R * C') B) (hB' : ∀ q, q < R * C' → ZB T (B q)) (hne : R ≠ C') (hR : R ≤ 64) (hS : S ≤ 100000000) (hr : RdE w sl (R * R) A) (hA : ∀ q, q < R * R → ZB S (A q)) :
    Calls Try.prog 10 #[.agg #[.int .i64 R, .int .i64 R, sl], .agg #[.int .i64 R, .int .i64 C', sb]] w fun e w' => e = .returned (.bool true) ∧ Below w.heap.size w w' := by
  have hK4 : R * R ≤ 4096 := Nat.mul_le_mul hR hR
  have hS1 : 64 * (S + 1) + 1 ≤ 274877906944 := by omega
  obtain ⟨a, cap, rfl, hcap⟩ := hr.slice
  obtain ⟨b, cap', rfl, hcap'⟩ := hr'.slice
  obtain ⟨⟨c0, c1, c2⟩, ⟨d0, d1, d2⟩, hB⟩ := boxes2M w (.int .i64 R) (.int .i64 R) (.slice a (R * R) cap) (.int .i64 R) (.int .i64 C') (.slice b (R * C') cap')
  have hrf := fun (u : World) (hu : Below w.heap.size w u) => refused_good R S _ A u hR (by omega) (hr.below hu) hA
  have hdt := fun (u : World) (hu : Below w.heap.size w u) => det13_good R S _ A u hR (by omega) (hr.below hu) hA
  have htu := fun (u : World) (hu : Below w.heap.size w u) => Turn_good R R _ A u hR hR (hr.below hu)
  have hdx := fun (E : Nat → Int) (T : Nat) (sl : Value) (u : World) (hT : T ≤ 268435456) (h1 : RdE u sl (R * R) E) (hE : ∀ q, q < R * R → ZB T (E q)) => det13_good R T sl E u hR hT h1 hE
  have htz := turnE_zb hA
  have hzl := leadD_zb hA hR (Nat.le_refl R)
  simp only [leadD_all] at hdt hdx
  obtain ⟨D, hD⟩ : ∃ D, D = leadD A R R := ⟨_, rfl⟩
  have htd := turnE_det A R
  rw [← hD] at htd hzl
  simp only [← hD] at hdt
  have hmu := fun (u : World) (hu : Below w.heap.size w u) => Mul_good R R C' S T _ _ A B u hR hR hC' (by omega) (hr.below hu) (hr'.below hu) hA hB'
  generalize hKC : R * C' = KC at *
  have hrc : ((R : Int) != C') = true := by rw [bne_iff_ne]; omega
  generalize hKK : R * R = K at *
  have HRF := Lib.hid hrf
  have HDT := Lib.hid hdt
  have HTU := Lib.hid htu
  have HDX := Lib.hid hdx
  have HTZ := Lib.hid htz
  have HZL := Lib.hid hzl
  have HTD := Lib.hid htd
  have HD := Lib.hid hD
  have HB := Lib.hid hB
  have HS1 := Lib.hid hS1
  have HKK := Lib.hid hKK
  have HMU := Lib.hid hmu
  clear hmu hr' hB' hne hKC
  clear hrf hdt htu hdx htz hzl htd hB hA hr hS1 hD hKK
  go_enter Try.func10, Try.ntmps10
  go_upto_region 1 with fail
  generalize (w.alloc (.cells #[.int .i64 R, .int .i64 R, .slice a K cap] 24)).alloc (.cells #[.int .i64 R, .int .i64 C', .slice b KC cap'] 24) = W at *
  go_wp2_with fail
  (refine (HRF.out W HB.out).mono ?_)
  rintro e w1 ⟨rfl, hb_w1⟩
  replace c0 := cell_stays hb_w1 c0
  replace c1 := cell_stays hb_w1 c1
  replace c2 := cell_stays hb_w1 c2
  replace d0 := cell_stays hb_w1 d0
  replace d1 := cell_stays hb_w1 d1
  replace d2 := cell_stays hb_w1 d2
  replace HB := Lib.hid (below_via HB.out hb_w1)
  clear hb_w1 HRF
  go_wp2_with fail
  (refine (awake_any w1).mono ?_)
  rintro e w2 ⟨rfl, hb_w2⟩
  replace c0 := cell_stays hb_w2 c0
  replace c1 := cell_stays hb_w2 c1
  replace c2 := cell_stays hb_w2 c2
  replace d0 := cell_stays hb_w2 d0
  replace d1 := cell_stays hb_w2 d1
  replace d2 := cell_stays hb_w2 d2
  replace HB := Lib.hid (below_via HB.out hb_w2)
  clear hb_w2
  go_wp2_with fail
  (refine (HDT.out w2 HB.out).mono ?_)
  rintro e w3 ⟨dv, rfl, hf3, hb_w3⟩
  have hz3 := hf3.rd HZL.out HS1.out
  obtain ⟨am, an, ac, rfl, -⟩ := hf3.agg
  obtain ⟨sg, hsg⟩ : ∃ sg, sg = decide (D < 0) := ⟨_, rfl⟩
  rw [← hsg] at hz3 ⊢
  have ba_w3 := bl_alloc w3 (.cells #[.bool sg, .slice am an ac] 42)
  replace hb_w3 := below_via hb_w3 ba_w3
  obtain ⟨x0, x1, -, -⟩ := two_cells w3 (.bool sg) (.slice am an ac) 42
  have RD := Lib.hid (hz3.below ba_w3)
  replace c0 := cell_stays hb_w3 c0
  replace c1 := cell_stays hb_w3 c1
  replace c2 := cell_stays hb_w3 c2
  replace d0 := cell_stays hb_w3 d0
  replace d1 := cell_stays hb_w3 d1
  replace d2 := cell_stays hb_w3 d2
  replace HB := Lib.hid (below_via HB.out hb_w3)
  clear hb_w3 ba_w3 hf3 hz3 HDT hsg
  go_wp2_with fail
  generalize hq_w3 : w3.heap.size = q_w3 at *
  generalize w3.alloc (.cells #[.bool sg, .slice am an ac] 42) = v_w3 at *
  clear hq_w3
  (refine (HTU.out v_w3 HB.out).mono ?_)
  rintro e w4 ⟨lt, rfl, hf4, hb_w4⟩
  have ba_w4 := bl_alloc w4 (.cells #[.int .i64 R, .int .i64 R, .slice (some ⟨lt, 0, none⟩) K K] 24)
  replace hb_w4 := below_via hb_w4 ba_w4
  have bk_w4 := three_cells w4 (.int .i64 R) (.int .i64 R) (.slice (some ⟨lt, 0, none⟩) K K) 24
  have t0 := (bk_w4 0 _ rfl).1
  have t1 := (bk_w4 1 _ rfl).1
  have t2 := (bk_w4 2 _ rfl).1
  have RT := Lib.hid ((hf4.rd (Nat.le_refl _) (by omega)).below ba_w4)
  replace c0 := cell_stays hb_w4 c0
  replace c1 := cell_stays hb_w4 c1
  replace c2 := cell_stays hb_w4 c2
  replace d0 := cell_stays hb_w4 d0
  replace d1 := cell_stays hb_w4 d1
  replace d2 := cell_stays hb_w4 d2
  replace x0 := cell_stays hb_w4 x0
  replace x1 := cell_stays hb_w4 x1
  replace RD := Lib.hid (RD.out.below hb_w4)
  replace HB := Lib.hid (below_via HB.out hb_w4)
  clear hb_w4 ba_w4 bk_w4 hf4 HTU
  go_wp2_with fail
  generalize hq_w4 : w4.heap.size = q_w4 at *
  generalize w4.alloc (.cells #[.int .i64 R, .int .i64 R, .slice (some ⟨lt, 0, none⟩) K K] 24) = v_w4 at *
  clear hq_w4
  have hdt4 := HDX.out (turnE A R R) S _ v_w4 (by omega) RT.out HTZ.out
  rw [HTD.out] at hdt4
  have HDT4 := Lib.hid hdt4
  clear hdt4
  (refine (HDT4.out).mono ?_)
  rintro e w5 ⟨dv5, rfl, hf5, hb_w5⟩
  have hz5 := hf5.rd HZL.out HS1.out
  obtain ⟨am5, an5, ac5, rfl, -⟩ := hf5.agg
  obtain ⟨sg5, hsg5⟩ : ∃ sg5, sg5 = decide (D < 0) := ⟨_, rfl⟩
  rw [← hsg5] at hz5 ⊢
  clear hsg5
  have ba_w5 := bl_alloc w5 (.cells #[.bool sg5, .slice am5 an5 ac5] 42)
  replace hb_w5 := below_via hb_w5 ba_w5
  obtain ⟨y0, y1, -, -⟩ := two_cells w5 (.bool sg5) (.slice am5 an5 ac5) 42
  have RD5 := Lib.hid (hz5.below ba_w5)
  replace c0 := cell_stays hb_w5 c0
  replace c1 := cell_stays hb_w5 c1
  replace c2 := cell_stays hb_w5 c2
  replace d0 := cell_stays hb_w5 d0
  replace d1 := cell_stays hb_w5 d1
  replace d2 := cell_stays hb_w5 d2
  replace x0 := cell_stays hb_w5 x0
  replace x1 := cell_stays hb_w5 x1
  replace RD := Lib.hid (RD.out.below hb_w5)
  replace HB := Lib.hid (below_via HB.out hb_w5)
  clear hb_w5 ba_w5 hf5 hz5 HDT4 HTZ HTD
  clear RT t0 t1 t2
  go_wp2_with fail
  generalize hq_w5 : w5.heap.size = q_w5 at *
  generalize w5.alloc (.cells #[.bool sg5, .slice am5 an5 ac5] 42) = v_w5 at *
  clear hq_w5
  (refine (zCmp_eq _ _ D v_w5 RD.out RD5.out).mono ?_)
  rintro e w6 ⟨rfl, hb_w6⟩
  replace c0 := cell_stays hb_w6 c0
  replace c1 := cell_stays hb_w6 c1
  replace c2 := cell_stays hb_w6 c2
  replace d0 := cell_stays hb_w6 d0
  replace d1 := cell_stays hb_w6 d1
  replace d2 := cell_stays hb_w6 d2
  replace x0 := cell_stays hb_w6 x0
  replace x1 := cell_stays hb_w6 x1
  replace RD := Lib.hid (RD.out.below hb_w6)
  replace HB := Lib.hid (below_via HB.out hb_w6)
  clear hb_w6
  clear RD5 y0 y1
  go_wp2_with fail
  (refine (HMU.out w6 HB.out).mono ?_)
  rintro e w7 ⟨lp, rfl, hf7, hb_w7⟩
  have ba_w7 := bl_alloc w7 (.cells #[.int .i64 R, .int .i64 C', .slice (some ⟨lp, 0, none⟩) KC KC] 24)
  replace hb_w7 := below_via hb_w7 ba_w7
  have bk_w7 := three_cells w7 (.int .i64 R) (.int .i64 C') (.slice (some ⟨lp, 0, none⟩) KC KC) 24
  have p0 := (bk_w7 0 _ rfl).1
  have p1 := (bk_w7 1 _ rfl).1
  have p2 := (bk_w7 2 _ rfl).1
  replace c0 := cell_stays hb_w7 c0
  replace c1 := cell_stays hb_w7 c1
  replace c2 := cell_stays hb_w7 c2
  replace d0 := cell_stays hb_w7 d0
  replace d1 := cell_stays hb_w7 d1
  replace d2 := cell_stays hb_w7 d2
  replace HB := Lib.hid (below_via HB.out hb_w7)
  clear hb_w7 ba_w7 bk_w7 HMU hf7
  clear x0 x1 RD
  go_wp2_with fail
  generalize hq_w7 : w7.heap.size = q_w7 at *
  generalize w7.alloc (.cells #[.int .i64 R, .int .i64 C', .slice (some ⟨lp, 0, none⟩) KC KC] 24) = v_w7 at *
  clear hq_w7
  go_wp2_with fail
  go_ret
  exact ⟨rfl, HB.out⟩
end Go.Proofs.Ytncldpadakckjaa

namespace Go.Proofs.Ytncldpadakckjaa
open Go.RowKit

set_option maxHeartbeats 8000000 in
set_option maxRecDepth 100000 in
theorem Products_all (w : World) (R S : Nat) (sl : Value) (A : Nat → Int) (T : Nat) (sb : Value) (B : Nat → Int) (hT : T ≤ 100000000) (hr' : RdE w sb (R * R) B) (hB' : ∀ q, q < R * R → ZB T (B q)) (hR : R ≤ 64) (hS : S ≤ 100000000) (hr : RdE w sl (R * R) A) (hA : ∀ q, q < R * R → ZB S (A q)) :
    Calls Try.prog 10 #[.agg #[.int .i64 R, .int .i64 R, sl], .agg #[.int .i64 R, .int .i64 R, sb]] w fun e w' => e = .returned (.bool true) ∧ Below w.heap.size w w' := by
  have hK4 : R * R ≤ 4096 := Nat.mul_le_mul hR hR
  have hS1 : 64 * (S + 1) + 1 ≤ 274877906944 := by omega
  obtain ⟨a, cap, rfl, hcap⟩ := hr.slice
  obtain ⟨b, cap', rfl, hcap'⟩ := hr'.slice
  obtain ⟨⟨c0, c1, c2⟩, ⟨d0, d1, d2⟩, hB⟩ := boxes2M w (.int .i64 R) (.int .i64 R) (.slice a (R * R) cap) (.int .i64 R) (.int .i64 R) (.slice b (R * R) cap')
  have hrf := fun (u : World) (hu : Below w.heap.size w u) => refused_good R S _ A u hR (by omega) (hr.below hu) hA
  have hdt := fun (u : World) (hu : Below w.heap.size w u) => det13_good R S _ A u hR (by omega) (hr.below hu) hA
  have htu := fun (u : World) (hu : Below w.heap.size w u) => Turn_good R R _ A u hR hR (hr.below hu)
  have hdx := fun (E : Nat → Int) (T : Nat) (sl : Value) (u : World) (hT : T ≤ 268435456) (h1 : RdE u sl (R * R) E) (hE : ∀ q, q < R * R → ZB T (E q)) => det13_good R T sl E u hR hT h1 hE
  have htz := turnE_zb hA
  have hzl := leadD_zb hA hR (Nat.le_refl R)
  simp only [leadD_all] at hdt hdx
  obtain ⟨D, hD⟩ : ∃ D, D = leadD A R R := ⟨_, rfl⟩
  have htd := turnE_det A R
  rw [← hD] at htd hzl
  simp only [← hD] at hdt
  have hmu := fun (u : World) (hu : Below w.heap.size w u) => Mul_good R R R S T _ _ A B u hR hR hR (by omega) (hr.below hu) (hr'.below hu) hA hB'
  have hdb := fun (u : World) (hu : Below w.heap.size w u) => det13_good R T _ B u hR (by omega) (hr'.below hu) hB'
  simp only [leadD_all] at hdb
  have hmd := mulE_det A B R
  have hmz := mulE_zb hR hA hB'
  have hzb := leadD_zb hB' hR (Nat.le_refl R)
  obtain ⟨DB, hDB⟩ : ∃ DB, DB = leadD B R R := ⟨_, rfl⟩
  rw [← hD, ← hDB] at hmd
  rw [← hDB] at hzb
  simp only [← hDB] at hdb
  have hzp := hzl.mul hzb
  have hT1 : 64 * (T + 1) + 1 ≤ 274877906944 := by omega
  have hP1 : 64 * (S + 1) + 1 + (64 * (T + 1) + 1) ≤ 274877906944 := by omega
  generalize hKK : R * R = K at *
  have HRF := Lib.hid hrf
  have HDT := Lib.hid hdt
  have HTU := Lib.hid htu
  have HDX := Lib.hid hdx
  have HTZ := Lib.hid htz
  have HZL := Lib.hid hzl
  have HTD := Lib.hid htd
  have HD := Lib.hid hD
  have HB := Lib.hid hB
  have HS1 := Lib.hid hS1
  have HKK := Lib.hid hKK
  have HMU := Lib.hid hmu
  have HDB := Lib.hid hdb
  have HMD := Lib.hid hmd
  have HMZ := Lib.hid hmz
  have HZB := Lib.hid hzb
  have HZP := Lib.hid hzp
  have HT1 := Lib.hid hT1
  have HP1 := Lib.hid hP1
  clear hmu hdb hmd hmz hzb hzp hT1 hP1 hr' hB' hDB
  clear hrf hdt htu hdx htz hzl htd hB hA hr hS1 hD hKK
  go_enter Try.func10, Try.ntmps10
  go_upto_region 1 with fail
  generalize (w.alloc (.cells #[.int .i64 R, .int .i64 R, .slice a K cap] 24)).alloc (.cells #[.int .i64 R, .int .i64 R, .slice b K cap'] 24) = W at *
  go_wp2_with fail
  (refine (HRF.out W HB.out).mono ?_)
  rintro e w1 ⟨rfl, hb_w1⟩
  replace c0 := cell_stays hb_w1 c0
  replace c1 := cell_stays hb_w1 c1
  replace c2 := cell_stays hb_w1 c2
  replace d0 := cell_stays hb_w1 d0
  replace d1 := cell_stays hb_w1 d1
  replace d2 := cell_stays hb_w1 d2
  replace HB := Lib.hid (below_via HB.out hb_w1)
  clear hb_w1 HRF
  go_wp2_with fail
  (refine (awake_any w1).mono ?_)
  rintro e w2 ⟨rfl, hb_w2⟩
  replace c0 := cell_stays hb_w2 c0
  replace c1 := cell_stays hb_w2 c1
  replace c2 := cell_stays hb_w2 c2
  replace d0 := cell_stays hb_w2 d0
  replace d1 := cell_stays hb_w2 d1
  replace d2 := cell_stays hb_w2 d2
  replace HB := Lib.hid (below_via HB.out hb_w2)
  clear hb_w2
  go_wp2_with fail
  (refine (HDT.out w2 HB.out).mono ?_)
  rintro e w3 ⟨dv, rfl, hf3, hb_w3⟩
  have hz3 := hf3.rd HZL.out HS1.out
  obtain ⟨am, an, ac, rfl, -⟩ := hf3.agg
  obtain ⟨sg, hsg⟩ : ∃ sg, sg = decide (D < 0) := ⟨_, rfl⟩
  rw [← hsg] at hz3 ⊢
  have ba_w3 := bl_alloc w3 (.cells #[.bool sg, .slice am an ac] 42)
  replace hb_w3 := below_via hb_w3 ba_w3
  obtain ⟨x0, x1, -, -⟩ := two_cells w3 (.bool sg) (.slice am an ac) 42
  have RD := Lib.hid (hz3.below ba_w3)
  replace c0 := cell_stays hb_w3 c0
  replace c1 := cell_stays hb_w3 c1
  replace c2 := cell_stays hb_w3 c2
  replace d0 := cell_stays hb_w3 d0
  replace d1 := cell_stays hb_w3 d1
  replace d2 := cell_stays hb_w3 d2
  replace HB := Lib.hid (below_via HB.out hb_w3)
  clear hb_w3 ba_w3 hf3 hz3 HDT hsg
  go_wp2_with fail
  generalize hq_w3 : w3.heap.size = q_w3 at *
  generalize w3.alloc (.cells #[.bool sg, .slice am an ac] 42) = v_w3 at *
  clear hq_w3
  (refine (HTU.out v_w3 HB.out).mono ?_)
  rintro e w4 ⟨lt, rfl, hf4, hb_w4⟩
  have ba_w4 := bl_alloc w4 (.cells #[.int .i64 R, .int .i64 R, .slice (some ⟨lt, 0, none⟩) K K] 24)
  replace hb_w4 := below_via hb_w4 ba_w4
  have bk_w4 := three_cells w4 (.int .i64 R) (.int .i64 R) (.slice (some ⟨lt, 0, none⟩) K K) 24
  have t0 := (bk_w4 0 _ rfl).1
  have t1 := (bk_w4 1 _ rfl).1
  have t2 := (bk_w4 2 _ rfl).1
  have RT := Lib.hid ((hf4.rd (Nat.le_refl _) (by omega)).below ba_w4)
  replace c0 := cell_stays hb_w4 c0
  replace c1 := cell_stays hb_w4 c1
  replace c2 := cell_stays hb_w4 c2
  replace d0 := cell_stays hb_w4 d0
  replace d1 := cell_stays hb_w4 d1
  replace d2 := cell_stays hb_w4 d2
  replace x0 := cell_stays hb_w4 x0
  replace x1 := cell_stays hb_w4 x1
  replace RD := Lib.hid (RD.out.below hb_w4)
  replace HB := Lib.hid (below_via HB.out hb_w4)
  clear hb_w4 ba_w4 bk_w4 hf4 HTU
  go_wp2_with fail
  generalize hq_w4 : w4.heap.size = q_w4 at *
  generalize w4.alloc (.cells #[.int .i64 R, .int .i64 R, .slice (some ⟨lt, 0, none⟩) K K] 24) = v_w4 at *
  clear hq_w4
  have hdt4 := HDX.out (turnE A R R) S _ v_w4 (by omega) RT.out HTZ.out
  rw [HTD.out] at hdt4
  have HDT4 := Lib.hid hdt4
  clear hdt4
  (refine (HDT4.out).mono ?_)
  rintro e w5 ⟨dv5, rfl, hf5, hb_w5⟩
  have hz5 := hf5.rd HZL.out HS1.out
  obtain ⟨am5, an5, ac5, rfl, -⟩ := hf5.agg
  obtain ⟨sg5, hsg5⟩ : ∃ sg5, sg5 = decide (D < 0) := ⟨_, rfl⟩
  rw [← hsg5] at hz5 ⊢
  clear hsg5
  have ba_w5 := bl_alloc w5 (.cells #[.bool sg5, .slice am5 an5 ac5] 42)
  replace hb_w5 := below_via hb_w5 ba_w5
  obtain ⟨y0, y1, -, -⟩ := two_cells w5 (.bool sg5) (.slice am5 an5 ac5) 42
  have RD5 := Lib.hid (hz5.below ba_w5)
  replace c0 := cell_stays hb_w5 c0
  replace c1 := cell_stays hb_w5 c1
  replace c2 := cell_stays hb_w5 c2
  replace d0 := cell_stays hb_w5 d0
  replace d1 := cell_stays hb_w5 d1
  replace d2 := cell_stays hb_w5 d2
  replace x0 := cell_stays hb_w5 x0
  replace x1 := cell_stays hb_w5 x1
  replace RD := Lib.hid (RD.out.below hb_w5)
  replace HB := Lib.hid (below_via HB.out hb_w5)
  clear hb_w5 ba_w5 hf5 hz5 HDT4 HTZ HTD
  clear RT t0 t1 t2
  go_wp2_with fail
  generalize hq_w5 : w5.heap.size = q_w5 at *
  generalize w5.alloc (.cells #[.bool sg5, .slice am5 an5 ac5] 42) = v_w5 at *
  clear hq_w5
  (refine (zCmp_eq _ _ D v_w5 RD.out RD5.out).mono ?_)
  rintro e w6 ⟨rfl, hb_w6⟩
  replace c0 := cell_stays hb_w6 c0
  replace c1 := cell_stays hb_w6 c1
  replace c2 := cell_stays hb_w6 c2
  replace d0 := cell_stays hb_w6 d0
  replace d1 := cell_stays hb_w6 d1
  replace d2 := cell_stays hb_w6 d2
  replace x0 := cell_stays hb_w6 x0
  replace x1 := cell_stays hb_w6 x1
  replace RD := Lib.hid (RD.out.below hb_w6)
  replace HB := Lib.hid (below_via HB.out hb_w6)
  clear hb_w6
  clear RD5 y0 y1
  go_wp2_with fail
  (refine (HMU.out w6 HB.out).mono ?_)
  rintro e w7 ⟨lp, rfl, hf7, hb_w7⟩
  have ba_w7 := bl_alloc w7 (.cells #[.int .i64 R, .int .i64 R, .slice (some ⟨lp, 0, none⟩) K K] 24)
  replace hb_w7 := below_via hb_w7 ba_w7
  have bk_w7 := three_cells w7 (.int .i64 R) (.int .i64 R) (.slice (some ⟨lp, 0, none⟩) K K) 24
  have p0 := (bk_w7 0 _ rfl).1
  have p1 := (bk_w7 1 _ rfl).1
  have p2 := (bk_w7 2 _ rfl).1
  have RP := Lib.hid ((hf7.rd (Nat.le_refl _) (by omega)).below ba_w7)
  replace c0 := cell_stays hb_w7 c0
  replace c1 := cell_stays hb_w7 c1
  replace c2 := cell_stays hb_w7 c2
  replace d0 := cell_stays hb_w7 d0
  replace d1 := cell_stays hb_w7 d1
  replace d2 := cell_stays hb_w7 d2
  replace x0 := cell_stays hb_w7 x0
  replace x1 := cell_stays hb_w7 x1
  replace RD := Lib.hid (RD.out.below hb_w7)
  replace HB := Lib.hid (below_via HB.out hb_w7)
  clear hb_w7 ba_w7 bk_w7 HMU hf7
  go_wp2_with fail
  generalize hq_w7 : w7.heap.size = q_w7 at *
  generalize w7.alloc (.cells #[.int .i64 R, .int .i64 R, .slice (some ⟨lp, 0, none⟩) K K] 24) = v_w7 at *
  clear hq_w7
  (refine (HDB.out v_w7 HB.out).mono ?_)
  rintro e w8 ⟨dv8, rfl, hf8, hb_w8⟩
  have hz8 := hf8.rd HZB.out HT1.out
  obtain ⟨am8, an8, ac8, rfl, -⟩ := hf8.agg
  obtain ⟨sg8, hsg8⟩ : ∃ sg8, sg8 = decide (DB < 0) := ⟨_, rfl⟩
  rw [← hsg8] at hz8 ⊢
  clear hsg8
  have ba_w8 := bl_alloc w8 (.cells #[.bool sg8, .slice am8 an8 ac8] 42)
  replace hb_w8 := below_via hb_w8 ba_w8
  obtain ⟨y0, y1, -, -⟩ := two_cells w8 (.bool sg8) (.slice am8 an8 ac8) 42
  have RB := Lib.hid (hz8.below ba_w8)
  replace c0 := cell_stays hb_w8 c0
  replace c1 := cell_stays hb_w8 c1
  replace c2 := cell_stays hb_w8 c2
  replace d0 := cell_stays hb_w8 d0
  replace d1 := cell_stays hb_w8 d1
  replace d2 := cell_stays hb_w8 d2
  replace x0 := cell_stays hb_w8 x0
  replace x1 := cell_stays hb_w8 x1
  replace p0 := cell_stays hb_w8 p0
  replace p1 := cell_stays hb_w8 p1
  replace p2 := cell_stays hb_w8 p2
  replace RD := Lib.hid (RD.out.below hb_w8)
  replace RP := Lib.hid (RP.out.below hb_w8)
  replace HB := Lib.hid (below_via HB.out hb_w8)
  clear hb_w8 ba_w8 hf8 hz8 HDB
  go_wp2_with fail
  generalize hq_w8 : w8.heap.size = q_w8 at *
  generalize w8.alloc (.cells #[.bool sg8, .slice am8 an8 ac8] 42) = v_w8 at *
  clear hq_w8
  have hdp := HDX.out (mulE A B R R) (S + T + 1) _ v_w8 (by omega) RP.out HMZ.out
  rw [HMD.out] at hdp
  have HDP := Lib.hid hdp
  clear hdp
  (refine (HDP.out).mono ?_)
  rintro e w9 ⟨dv9, rfl, hf9, hb_w9⟩
  have hz9 := hf9.rd HZP.out HP1.out
  obtain ⟨am9, an9, ac9, rfl, -⟩ := hf9.agg
  obtain ⟨sg9, hsg9⟩ : ∃ sg9, sg9 = decide (D * DB < 0) := ⟨_, rfl⟩
  rw [← hsg9] at hz9 ⊢
  clear hsg9
  have ba_w9 := bl_alloc w9 (.cells #[.bool sg9, .slice am9 an9 ac9] 42)
  replace hb_w9 := below_via hb_w9 ba_w9
  obtain ⟨z0, z1, -, -⟩ := two_cells w9 (.bool sg9) (.slice am9 an9 ac9) 42
  have RZ := Lib.hid (hz9.below ba_w9)
  replace c0 := cell_stays hb_w9 c0
  replace c1 := cell_stays hb_w9 c1
  replace c2 := cell_stays hb_w9 c2
  replace d0 := cell_stays hb_w9 d0
  replace d1 := cell_stays hb_w9 d1
  replace d2 := cell_stays hb_w9 d2
  replace x0 := cell_stays hb_w9 x0
  replace x1 := cell_stays hb_w9 x1
  replace y0 := cell_stays hb_w9 y0
  replace y1 := cell_stays hb_w9 y1
  replace RD := Lib.hid (RD.out.below hb_w9)
  replace RB := Lib.hid (RB.out.below hb_w9)
  replace HB := Lib.hid (below_via HB.out hb_w9)
  clear hb_w9 ba_w9 hf9 hz9 HDP HMZ HMD
  clear RP p0 p1 p2
  go_wp2_with fail
  generalize hq_w9 : w9.heap.size = q_w9 at *
  generalize w9.alloc (.cells #[.bool sg9, .slice am9 an9 ac9] 42) = v_w9 at *
  clear hq_w9
  have T9 := Lib.hid (And.intro x0 (And.intro x1 (And.intro y0 (And.intro y1 (And.intro z0 z1)))))
  have U1 := Lib.hid (fun u (hu : Below v_w9.heap.size v_w9 u) => zMul_any _ _ D DB u (RD.out.below hu) (RB.out.below hu))
  go_region_held3 (fun w' => w'.cell? ⟨q_w3, 0, none⟩ = some (.bool sg) ∧ w'.cell? ⟨q_w3, 1, none⟩ = some (.slice am an ac) ∧ w'.cell? ⟨q_w8, 0, none⟩ = some (.bool sg8) ∧ w'.cell? ⟨q_w8, 1, none⟩ = some (.slice am8 an8 ac8) ∧ w'.cell? ⟨q_w9, 0, none⟩ = some (.bool sg9) ∧ w'.cell? ⟨q_w9, 1, none⟩ = some (.slice am9 an9 ac9))
    (first
      | exact T9.out
      | exact T_w10.out
      | exact T_w11.out
      | go_keep)
    (first
      | (go_at_call 44; (first | (with_reducible refine (U1.out _ (bl_refl _)).mono ?_) | (with_reducible refine (U1.out _ (bl_drew _)).mono ?_)); rintro e w10 ⟨v10, rfl, f10, bb_w10⟩
         have b_w10 : Below v_w9.heap.size v_w9 w10 := by first | (with_reducible exact below_via (bl_refl _) bb_w10) | (with_reducible exact below_via (bl_drew _) bb_w10)
         have T_w10 := Lib.hid (show w10.cell? ⟨q_w3, 0, none⟩ = some (.bool sg) ∧ w10.cell? ⟨q_w3, 1, none⟩ = some (.slice am an ac) ∧ w10.cell? ⟨q_w8, 0, none⟩ = some (.bool sg8) ∧ w10.cell? ⟨q_w8, 1, none⟩ = some (.slice am8 an8 ac8) ∧ w10.cell? ⟨q_w9, 0, none⟩ = some (.bool sg9) ∧ w10.cell? ⟨q_w9, 1, none⟩ = some (.slice am9 an9 ac9) from ⟨cell_stays b_w10 (T9.out.1), cell_stays b_w10 (T9.out.2.1), cell_stays b_w10 (T9.out.2.2.1), cell_stays b_w10 (T9.out.2.2.2.1), cell_stays b_w10 (T9.out.2.2.2.2.1), cell_stays b_w10 (T9.out.2.2.2.2.2)⟩)
         have F10 := Lib.hid (f10.rd HZP.out HP1.out)
         have U2 := Lib.hid (fun u (hu : Below w10.heap.size w10 u) => zCmp_eq _ v10 (D * DB) u (RZ.out.below (below_via b_w10 hu)) (F10.out.below hu))
         clear bb_w10)
      | (go_at_call 37; (first | (with_reducible refine (U2.out _ (bl_refl _)).mono ?_)); rintro e w11 ⟨rfl, bb_w11⟩
         have b_w11 : Below w10.heap.size w10 w11 := by first | (with_reducible exact below_via (bl_refl _) bb_w11)
         have T_w11 := Lib.hid (show w11.cell? ⟨q_w3, 0, none⟩ = some (.bool sg) ∧ w11.cell? ⟨q_w3, 1, none⟩ = some (.slice am an ac) ∧ w11.cell? ⟨q_w8, 0, none⟩ = some (.bool sg8) ∧ w11.cell? ⟨q_w8, 1, none⟩ = some (.slice am8 an8 ac8) ∧ w11.cell? ⟨q_w9, 0, none⟩ = some (.bool sg9) ∧ w11.cell? ⟨q_w9, 1, none⟩ = some (.slice am9 an9 ac9) from ⟨cell_stays b_w11 (T_w10.out.1), cell_stays b_w11 (T_w10.out.2.1), cell_stays b_w11 (T_w10.out.2.2.1), cell_stays b_w11 (T_w10.out.2.2.2.1), cell_stays b_w11 (T_w10.out.2.2.2.2.1), cell_stays b_w11 (T_w10.out.2.2.2.2.2)⟩)
         clear bb_w11))
  all_goals
    go_wp2_with fail
    go_ret
    exact ⟨rfl, below_via HB.out (below_via b_w10 b_w11)⟩
end Go.Proofs.Ytncldpadakckjaa

namespace Go.Proofs.Ytncldpadakckjaa
open Go.RowKit

set_option maxRecDepth 100000 in
/-- the law, for any arguments -/
theorem Products_law (r c r' c' : Int) (s s' : Value) (n n' : Nat) (x x' : Nat → Raw) (w : World) (hr : RdL w s n x) (hr' : RdL w s' n' x') (hx : ∀ i, i < n → (x i).n ≤ 1048576) (hx' : ∀ i, i < n' → (x' i).n ≤ 1048576) :
    Calls Try.prog 10 #[.agg #[.int .i64 r, .int .i64 c, s], .agg #[.int .i64 r', .int .i64 c', s']] w fun e w' => e = .returned (.bool true) ∧ Below w.heap.size w w' := by
  obtain ⟨a, cap, rfl, hcap, hn, -⟩ := id hr
  obtain ⟨b, cap', rfl, hcap', hn', -⟩ := id hr'
  rcases check_cases r c n with h | ⟨R, C, rfl, rfl, hR, hC, rfl⟩
  · exact Products_done r c _ r' c' _ w fun u => refused_bad r c a n cap (by omega) h u
  · by_cases e : R = C
    · subst e
      have hK4 : R * R ≤ 4096 := Nat.mul_le_mul hR hC
      have h1 := hr.rde (by omega) (fun i hi => by have := hx i hi; omega)
      have h2 := hr.zbs hx
      rcases check_cases r' c' n' with h | ⟨R', C', rfl, rfl, hR', hC', rfl⟩
      · exact Products_not R 1048576 _ _ r' c' b n' cap' (by omega) (Or.inl h) w hR (by omega) h1 h2
      · have hK5 : R' * C' ≤ 4096 := Nat.mul_le_mul hR' hC'
        by_cases e' : R = R'
        · subst e'
          have h3 := hr'.rde (by omega) (fun i hi => by have := hx' i hi; omega)
          have h4 := hr'.zbs hx'
          by_cases e2 : R = C'
          · subst e2
            exact Products_all w R 1048576 _ _ 1048576 _ _ (by omega) h3 h4 hR (by omega) h1 h2
          · exact Products_wide w R 1048576 _ _ C' 1048576 _ _ hC' (by omega) h3 h4 e2 hR (by omega) h1 h2
        · exact Products_not R 1048576 _ _ R' C' b (R' * C') cap' (by omega) (Or.inr ⟨checkE_ok hR' hC' rfl, by omega⟩) w hR (by omega) h1 h2
    · exact Products_done R C _ r' c' _ w fun u => refused_unfit R C a (R * C) cap (by omega) (checkE_ok hR hC rfl) (by omega) u
end Go.Proofs.Ytncldpadakckjaa

namespace Go.Proofs.Ytncldpadakckjaa.bareissProducts
open Go.ChangeShapes Go.WideShapes Go.ChangeAt Go.RowKit

theorem own : ownKnob Try.prog.godebug = none := by kernel_rfl

set_option maxRecDepth 100000 in
theorem contract (H : Type) (enc : TypeId × Value → H) (W : World) (base : Nat) (args : Array Value) (ds gs : List (DataW H)) (before : List MemPlace)
    (hval : ∀ (j : Nat) t v, Try.f10.params[j]? = some t → args[j]? = some v → Value.okWide Try.prog W .any base t v)
    (hW : DataW.Whole enc Try.prog Try.f10.params.toList Rows.bareissProductsSpec.vars false W args.toList ds gs before) (hk : Rows.uptoSmall H (ds ++ gs) = true) :
    Calls Try.prog 10 args W fun e W' => ∃ v, e = .returned v ∧ Rows.bareissProductsSpec.post enc Try.prog Try.f10 false true false false W args v W' := by
  have hW' := hW
  have hlt : ∀ x ∈ before, x.block < W.heap.size := fun x hx => hW.lt x hx
  obtain ⟨p, q, hA0, hV, rfl, hfz, hnd⟩ := hW
  have hA : DataW.TrodAll enc Try.prog W 0 (fun _ => true) true Try.f10.params.toList args.toList ds p := hA0
  rw [Try.params10] at hA hval
  obtain ⟨v0, vs0, d0, ds0, p0, q0, hargs, rfl, rfl, h0, r0⟩ := trodAll_cons hA
  obtain ⟨v1, vs1, d1, ds1, p1, q1, rfl, rfl, rfl, h1, r1⟩ := trodAll_cons r0
  obtain ⟨rfl, rfl, rfl⟩ := trodAll_nil r1
  obtain rfl : args = #[v0, v1] := by cases args; simp_all
  obtain ⟨rfl, rfl⟩ := trodVars_none hV
  have h0k := h0
  have h1k := h1
  clear hA0
  simp only [List.append_nil] at hW' hk hlt
  have hbk : Rows.uptoBulkAll [d0, d1] ≤ 1048576 := of_decide_eq_true hk
  simp only [Rows.uptoBulkAll] at hbk
  obtain ⟨R0, C0, s0, n0, x0, rfl, hr0, hn0, hx0, -, -⟩ := open_mat (B := 1048576) (hval 0 24 v0 rfl rfl) h0 (by omega) (by omega)
  obtain ⟨R1, C1, s1, n1, x1, rfl, hr1, hn1, hx1, -, -⟩ := open_mat (B := 1048576) (hval 1 24 v1 rfl rfl) h1 (by omega) (by omega)
  refine (Products_law R0 C0 R1 C1 s0 s1 n0 n1 x0 x1 W hr0 hr1 hx0 hx1).mono fun e W' ⟨he, hg⟩ => ?_
  subst he
  refine ⟨_, rfl, post_of_below (pa := (p0 ++ (p1 ++ []))) (pv := []) hW' (fun _ _ _ => (trodAll_cons_mk (shut_bool Try.underlying4 _) trodAll_mk0)) (fun sp hsp => (trodAll_cons_mk (WideElems.Trod_stays (P := Try.prog) (by kernel_rfl) (by kernel_rfl) (of_decide_eq_true (by kernel_rfl)) h0k (fun x hx => hg.same (hlt x (by simp [hx]))) (fun x hx => hsp x (by simp [hx]))) (trodAll_cons_mk (WideElems.Trod_stays (P := Try.prog) (by kernel_rfl) (by kernel_rfl) (of_decide_eq_true (by kernel_rfl)) h1k (fun x hx => hg.same (hlt x (by simp [hx]))) (fun x hx => hsp x (by simp [hx]))) trodAll_mk0))) (fun _ _ => rfl) (by simp)
    hg (ok_one (by kernel_rfl) rfl (okWide_bool_mk Try.underlying4 _))⟩

set_option maxRecDepth 100000 in
theorem lifted (os : Os) (started : os.Started) (H : Type) (enc : TypeId × Value → H) (F : Stop.Interp) :
    ReturnsInHanded {} Try.checked os 10 .any ((Rows.OpenSpec.upto Rows.bareissProductsSpec).pre6 enc Try.prog Try.f10 Rows.bareissProductsUptoRow.domain false) (((Rows.OpenSpec.upto Rows.bareissProductsSpec).at F).post enc Try.prog Try.f10 false true false false) := by
  refine returnsInHanded_of_cond (C := Try.checked) (s := Rows.OpenSpec.upto Rows.bareissProductsSpec) (k := Rows.uptoSmall) rfl own started (by kernel_rfl) Try.func10
    (OpenSpec.witness (enc := enc) (C := Try.checked) (s := Rows.OpenSpec.upto Rows.bareissProductsSpec) (k := Rows.uptoSmall) rfl false ⟨#[], #[.agg #[.int .i64 0, .int .i64 0, .slice none 0 0], .agg #[.int .i64 0, .int .i64 0, .slice none 0 0]], []⟩ 8 (by kernel_rfl) (by kernel_rfl) (by kernel_rfl)
      (x := ([.agg [.lit (.int .i64 0), .lit (.int .i64 0), .nil], .agg [.lit (.int .i64 0), .lit (.int .i64 0), .nil]], [], [])) (by kernel_rfl) rfl (by kernel_rfl)) ?_
  intro W base args ds gs before hval hW _ hk _
  exact contract H enc W base args ds gs before hval hW hk

/-- the statement -/
theorem proved : Rows.BareissProductsUptoSaid :=
  OpenClaim.holds_of_cond 10 Try.f10 rfl rfl rfl rfl rfl rfl rfl ⟨rfl, rfl, rfl, rfl, rfl⟩ rfl rfl rfl rfl rfl (by kernel_rfl) Try.func10 (by kernel_rfl)
    (of_decide_eq_true (by kernel_rfl)) (by unfold Func.isWrapper; first | (rw [if_pos (by decide +kernel)]; kernel_rfl) | (rw [if_neg (by decide +kernel)]; exact ⟨rfl, rfl⟩))
    (fun os started H enc _ F => lifted os started H enc F)
#print axioms proved
end Go.Proofs.Ytncldpadakckjaa.bareissProducts
