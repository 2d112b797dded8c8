/- The walk of the law MinorsAdjugate. 'MinorsAdjugate', where what it reads is of bulk at most 1,048,576: for all matrices a and b the law returns true and its arguments read as before. -/
import Derived.Test.YtejliecmdkmgiaaGZ
import Derived.Test.YtejliecmdkmgiaaGX
import Derived.Test.YtejliecmdkmgiaaRows
import Derived.Test.YtejliecmdkmgiaaGH
import Derived.ProofKit
import Derived.OpenShut
import Derived.Carry
import Derived.JoinedCond
set_option linter.unusedVariables false
set_option linter.unusedSimpArgs false
namespace Go.Proofs.Ytejliecmdkmgiaa
open Go.RowKit Go.Shelf

/-- what is answered for the second matrix -/
def MatAns (f : Nat) (args : Array Value) (E : Int) (u : World) : Prop := Calls Try.prog f args u fun e w' => ∃ (r s : Int) (l : Option Addr) (n c : Nat), e = .returned (.tuple #[.agg #[.int .i64 r, .int .i64 s, .slice l n c], .int .i64 E]) ∧ Below u.heap.size u w'

theorem mul_badA {r c r' c' : Int} {a b : Option Addr} {n n' cap cap' : Nat} (hn : n ≤ 17592186044416) (hn' : n' ≤ 17592186044416) {E : Int} (h : (chk2 (checkE r c n) (checkE r' c' n') = 1 ∧ E = 1) ∨ (chk2 (checkE r c n) (checkE r' c' n') = 0 ∧ c ≠ r' ∧ E = 2)) (u : World) :
    MatAns 16 #[.agg #[.int .i64 r, .int .i64 c, .slice a n cap], .agg #[.int .i64 r', .int .i64 c', .slice b n' cap']] E u :=
  (Mul_not r c r' c' a b n n' cap cap' hn hn' E h u).mono fun e w' ⟨he, hb⟩ => ⟨0, 0, none, 0, 0, he, hb⟩
theorem chk2_ra {x y : Int} (hx : x = 0 ∨ x = 1) (h : y = 1) : chk2 x y = 1 := by
  rcases hx with rfl | rfl
  · rw [h]; rfl
  · rfl

set_option maxHeartbeats 4000000 in
set_option maxRecDepth 100000 in
theorem Adj_err (r c r' c' : Int) (s s' : Value) (E : Int) (hE : E = 1 ∨ E = 2) (w : World)
    (hinv : ∀ u, Calls Try.prog 47 #[.agg #[.int .i64 r, .int .i64 c, s]] u fun e w' => e = .returned (.bool true) ∧ Below u.heap.size u w')
    (hdet : ∀ u, Calls Try.prog 48 #[.agg #[.int .i64 r, .int .i64 c, s]] u fun e w' => e = .returned (.tuple #[.agg #[.bool false, .slice none 0 0], .int .i64 E]) ∧ Below u.heap.size u w')
    (hadj : ∀ u, Calls Try.prog 49 #[.agg #[.int .i64 r, .int .i64 c, s]] u fun e w' => e = .returned (.tuple #[.agg #[.int .i64 0, .int .i64 0, .slice none 0 0], .int .i64 E]) ∧ Below u.heap.size u w') :
    Calls Try.prog 8 #[.agg #[.int .i64 r, .int .i64 c, s], .agg #[.int .i64 r', .int .i64 c', s']] w fun e w' => e = .returned (.bool true) ∧ Below w.heap.size w w' := by
  obtain ⟨hm, -, -⟩ := two_mbox w r c r' c' s s'
  have HM := Lib.hid hm
  have HB := Lib.hid (two_mats w (.int .i64 r) (.int .i64 c) s (.int .i64 r') (.int .i64 c') s')
  have HIN := Lib.hid hinv
  have HDT := Lib.hid hdet
  have HAD := Lib.hid hadj
  have hne : ¬ E = 0 := by omega
  clear hinv hdet hadj hE hm
  go_enter Try.func8, Try.ntmps8
  go_upto_region 1 with fail
  generalize (w.alloc (.cells #[.int .i64 r, .int .i64 c, s] 24)).alloc (.cells #[.int .i64 r', .int .i64 c', s'] 24) = W at *
  go_wp2_with fail
  (refine (awake14_any W).mono ?_)
  rintro e w1 ⟨rfl, hb⟩
  replace HM := Lib.hid (HM.out.below hb)
  replace HB := Lib.hid (below_via HB.out hb)
  clear hb
  have HM_0 := HM.out.m0
  have HM_1 := HM.out.m1
  have HM_2 := HM.out.m2
  go_wp2_with fail
  (refine (HIN.out w1).mono ?_)
  rintro e w2 ⟨rfl, hb⟩
  clear HM_0 HM_1 HM_2
  replace HM := Lib.hid (HM.out.below hb)
  replace HB := Lib.hid (below_via HB.out hb)
  clear hb HIN
  go_upto_region 3 with fail
  have HM_0 := HM.out.m0
  have HM_1 := HM.out.m1
  have HM_2 := HM.out.m2
  go_wp2_with fail
  (refine (HDT.out w2).mono ?_)
  rintro e w3 ⟨rfl, hb⟩
  have hbx := below_via hb (bl_alloc w3 (.cells #[.bool false, .slice none 0 0] 49))
  clear HM_0 HM_1 HM_2
  replace HM := Lib.hid (HM.out.below hbx)
  replace HB := Lib.hid (below_via HB.out hbx)
  clear hb hbx HDT
  go_upto_region 4 with fail
  generalize w3.alloc (.cells #[.bool false, .slice none 0 0] 49) = w4 at *
  have HM_0 := HM.out.m0
  have HM_1 := HM.out.m1
  have HM_2 := HM.out.m2
  go_wp2_with fail
  (refine (HAD.out w4).mono ?_)
  rintro e w5 ⟨rfl, hb⟩
  have hbx := below_via hb (bl_alloc w5 (.cells #[.int .i64 0, .int .i64 0, .slice none 0 0] 24))
  have HN := Lib.hid (MBox.new w5 0 0 (.slice none 0 0))
  clear HM_0 HM_1 HM_2
  replace HB := Lib.hid (below_via HB.out hbx)
  clear hb hbx HAD HM
  go_upto_region 5 with fail
  obtain ⟨q, hq⟩ : ∃ q, q = w5.heap.size := ⟨_, rfl⟩
  rw [← hq] at HN ⊢
  clear hq
  generalize w5.alloc (.cells #[.int .i64 0, .int .i64 0, .slice none 0 0] 24) = w6 at *
  go_upto_region 8 with fail
  have HN_0 := HN.out.m0
  have HN_1 := HN.out.m1
  have HN_2 := HN.out.m2
  go_wp2_with fail
  (refine (NoMat_yes w6).mono ?_)
  rintro e w7 ⟨rfl, hb⟩
  replace HB := Lib.hid (below_via HB.out hb)
  clear hb HN
  clear HN_0 HN_1 HN_2
  go_wp2_with fail
  refine bodyPost_ret (v := .bool true) ?_ rfl ⟨rfl, HB.out⟩
  simp [results, Try.results8, go_sem]

/-- the matrix and its answers -/
structure AdH (n S N T : Nat) (a : Option Addr) (cap : Nat) (A : Nat → Int) (w : World) : Prop where
  hn : n ≤ 64
  hN : N = n * n
  h4 : N ≤ 4096
  hT : T ≤ 67108929
  inv : ∀ u, Below w.heap.size w u → Calls Try.prog 47 #[.agg #[.int .i64 n, .int .i64 n, .slice a N cap]] u fun e w' => e = .returned (.bool true) ∧ Below u.heap.size u w'
  det : ∀ u, Below w.heap.size w u → Calls Try.prog 48 #[.agg #[.int .i64 n, .int .i64 n, .slice a N cap]] u fun e w' => ∃ v, e = .returned (.tuple #[v, .int .i64 0]) ∧ FrZ w' u.heap.size v (dtE n A) ∧ Below u.heap.size u w'
  adj : ∀ u, Below w.heap.size w u → Calls Try.prog 49 #[.agg #[.int .i64 n, .int .i64 n, .slice a N cap]] u fun e w' => ∃ lb, e = .returned (.tuple #[.agg #[.int .i64 n, .int .i64 n, .slice (some ⟨lb, 0, none⟩) N N], .int .i64 0]) ∧ FrE w' u.heap.size (fun b => b ≤ lb) lb N (adE n A) ∧ Below u.heap.size u w'
  un : ∀ u, Calls Try.prog 33 #[.int .i64 n] u fun e w' => ∃ lb, e = .returned (.tuple #[.agg #[.int .i64 n, .int .i64 n, .slice (some ⟨lb, 0, none⟩) N N], .int .i64 0]) ∧ FrE w' u.heap.size (fun b => b ≤ lb) lb N (fun q => unitE (q / n) (q % n)) ∧ Below u.heap.size u w'
  sc : ∀ u x v, RdZ u x (dtE n A) → RdE u v N (fun q => unitE (q / n) (q % n)) → Calls Try.prog 51 #[x, .agg #[.int .i64 n, .int .i64 n, v]] u fun e w' => ∃ lb, e = .returned (.tuple #[.agg #[.int .i64 n, .int .i64 n, .slice (some ⟨lb, 0, none⟩) N N], .int .i64 0]) ∧ FrE w' u.heap.size (fun b => b ≤ lb) lb N (fun q => dtE n A * unitE (q / n) (q % n)) ∧ Below u.heap.size u w'
  mr : ∀ u v, Below w.heap.size w u → RdE u v N (adE n A) → Calls Try.prog 16 #[.agg #[.int .i64 n, .int .i64 n, .slice a N cap], .agg #[.int .i64 n, .int .i64 n, v]] u fun e w' => ∃ lb, e = .returned (.tuple #[.agg #[.int .i64 n, .int .i64 n, .slice (some ⟨lb, 0, none⟩) N N], .int .i64 0]) ∧ FrE w' u.heap.size (fun b => b ≤ lb) lb N (mulE A (adE n A) n n) ∧ Below u.heap.size u w'
  ml : ∀ u v, Below w.heap.size w u → RdE u v N (adE n A) → Calls Try.prog 16 #[.agg #[.int .i64 n, .int .i64 n, v], .agg #[.int .i64 n, .int .i64 n, .slice a N cap]] u fun e w' => ∃ lb, e = .returned (.tuple #[.agg #[.int .i64 n, .int .i64 n, .slice (some ⟨lb, 0, none⟩) N N], .int .i64 0]) ∧ FrE w' u.heap.size (fun b => b ≤ lb) lb N (mulE (adE n A) A n n) ∧ Below u.heap.size u w'
  dz : ZB T (dtE n A)
  az : ∀ q, q < N → ZB T (adE n A q)
  er : ∀ q, q < N → mulE A (adE n A) n n q = dtE n A * unitE (q / n) (q % n)
  el : ∀ q, q < N → mulE (adE n A) A n n q = dtE n A * unitE (q / n) (q % n)

theorem adh_mk (n S : Nat) (a : Option Addr) (cap : Nat) (A : Nat → Int) (w : World) (hn : n ≤ 64) (hS : S ≤ 1048576) (hr : RdE w (.slice a (n * n) cap) (n * n) A) (hA : ∀ q, q < n * n → ZB S (A q)) : AdH n S (n * n) (64 * (S + 1) + 1) a cap A w := by
  have hdz := dtE_zb hn hA
  have haz := adE_zb hn hA
  refine ⟨hn, rfl, Nat.mul_le_mul hn hn, by omega, fun u hu => ?_, fun u hu => Det_good n S _ A u hn (by omega) (hr.below hu) hA, fun u hu => Adjugate_good n S _ A u hn (by omega) (hr.below hu) hA, fun u => Unit_good n u hn,
    fun u x v hx hv => Scale_good n 1 (64 * (S + 1) + 1) x v (dtE n A) _ u hn (by omega) hx hdz hv (fun q _ => by unfold unitE; split; exact zb_ones; exact zb_nil 1),
    fun u v hu hv => Mul_good n n n S (64 * (S + 1) + 1) _ v A (adE n A) u hn hn hn (by omega) (hr.below hu) hv hA haz,
    fun u v hu hv => Mul_good n n n (64 * (S + 1) + 1) S v _ (adE n A) A u hn hn hn (by omega) hv (hr.below hu) haz hA, hdz, haz, ad_r A, ad_l A⟩
  by_cases h0 : dtE n A = 0
  · refine inverts_sing n (n * n) a cap (dtE n A) h0 u (fun u' hu' => ?_)
    exact Det_good n S _ A u' hn (by omega) ((hr.below hu).below hu') hA
  · exact inverts_reg n S _ A u hn (by omega) (hr.below hu) hA h0

set_option maxHeartbeats 8000000 in
set_option maxRecDepth 100000 in
theorem Adj_out (n S N T : Nat) (a : Option Addr) (cap : Nat) (A : Nat → Int) (r' c' : Int) (b : Option Addr) (N' cap' : Nat) (w : World) (hh : AdH n S N T a cap A w) (Eg Eh : Int)
    (hadj : ∀ u, Below w.heap.size w u → MatAns 49 #[.agg #[.int .i64 r', .int .i64 c', .slice b N' cap']] Eg u)
    (hmul : ∀ u, Below w.heap.size w u → MatAns 16 #[.agg #[.int .i64 n, .int .i64 n, .slice a N cap], .agg #[.int .i64 r', .int .i64 c', .slice b N' cap']] Eh u) (hout : ¬ Eg = 0 ∨ (Eg = 0 ∧ ¬ Eh = 0) ∨ (Eg = 0 ∧ Eh = 0 ∧ ¬ r' = n)) :
    Calls Try.prog 8 #[.agg #[.int .i64 n, .int .i64 n, .slice a N cap], .agg #[.int .i64 r', .int .i64 c', .slice b N' cap']] w fun e w' => e = .returned (.bool true) ∧ Below w.heap.size w w' := by
  have HJ := Lib.hid hadj
  have HK := Lib.hid hmul
  clear hadj hmul
  obtain ⟨hm, hm2, -⟩ := two_mbox w n n r' c' (.slice a N cap) (.slice b N' cap')
  have h4 := hh.h4
  have hT := hh.hT
  have HM := Lib.hid hm
  have HMB := Lib.hid hm2
  have HB := Lib.hid (two_mats w (.int .i64 n) (.int .i64 n) (.slice a N cap) (.int .i64 r') (.int .i64 c') (.slice b N' cap'))
  have HH := Lib.hid hh
  obtain ⟨D, hD⟩ : ∃ D, D = dtE n A := ⟨_, rfl⟩
  have HDT := Lib.hid (show ∀ u, Below w.heap.size w u → Calls Try.prog 48 #[.agg #[.int .i64 n, .int .i64 n, .slice a N cap]] u fun e w' => ∃ v, e = .returned (.tuple #[v, .int .i64 0]) ∧ FrZ w' u.heap.size v D ∧ Below u.heap.size u w' by rw [hD]; exact hh.det)
  have HDZ := Lib.hid (show ZB T D by rw [hD]; exact hh.dz)
  have HDD := Lib.hid hD
  clear hm hm2 hh hD
  go_enter Try.func8, Try.ntmps8
  go_upto_region 1 with fail
  generalize (w.alloc (.cells #[.int .i64 n, .int .i64 n, .slice a N cap] 24)).alloc (.cells #[.int .i64 r', .int .i64 c', .slice b N' cap'] 24) = W at *
  go_wp2_with fail
  (refine (awake14_any W).mono ?_)
  rintro e w1 ⟨rfl, hb⟩
  replace HM := Lib.hid (HM.out.below hb)
  replace HMB := Lib.hid (HMB.out.below hb)
  replace HB := Lib.hid (below_via HB.out hb)
  clear hb
  have HM_0 := HM.out.m0
  have HM_1 := HM.out.m1
  have HM_2 := HM.out.m2
  go_wp2_with fail
  (refine (HH.out.inv w1 HB.out).mono ?_)
  rintro e w2 ⟨rfl, hb⟩
  clear HM_0 HM_1 HM_2
  replace HM := Lib.hid (HM.out.below hb)
  replace HMB := Lib.hid (HMB.out.below hb)
  replace HB := Lib.hid (below_via HB.out hb)
  clear hb
  go_upto_region 3 with fail
  have HM_0 := HM.out.m0
  have HM_1 := HM.out.m1
  have HM_2 := HM.out.m2
  go_wp2_with fail
  (refine (HDT.out w2 HB.out).mono ?_)
  rintro e w3 ⟨v, rfl, hf, hb⟩
  obtain ⟨ad, nd, cd, rfl, -⟩ := hf.agg
  have hba := bl_alloc w3 (.cells #[.bool (decide (D < 0)), .slice ad nd cd] 49)
  have hbx := below_via hb hba
  have HD := Lib.hid (KBox.new hf)
  clear HM_0 HM_1 HM_2
  replace HM := Lib.hid (HM.out.below hbx)
  replace HMB := Lib.hid (HMB.out.below hbx)
  replace HB := Lib.hid (below_via HB.out hbx)
  clear hf hb hba hbx HDT
  go_upto_region 4 with fail
  obtain ⟨db, hdb⟩ : ∃ db, db = w3.heap.size := ⟨_, rfl⟩
  rw [← hdb] at HD ⊢
  clear hdb
  generalize w3.alloc (.cells #[.bool (decide (D < 0)), .slice ad nd cd] 49) = w4 at *
  have HM_0 := HM.out.m0
  have HM_1 := HM.out.m1
  have HM_2 := HM.out.m2
  have HC1 := Lib.hid (HH.out.adj w4 HB.out)
  go_wp2_with fail
  (refine HC1.out.mono ?_)
  rintro e w5 ⟨la, rfl, hf, hb⟩
  have hba := bl_alloc w5 (.cells #[.int .i64 n, .int .i64 n, .slice (some ⟨la, 0, none⟩) N N] 24)
  have hbx := below_via hb hba
  replace HM := Lib.hid (HM.out.below hbx)
  replace HMB := Lib.hid (HMB.out.below hbx)
  replace HD := Lib.hid (HD.out.below hbx)
  replace HB := Lib.hid (below_via HB.out hbx)
  have HA := Lib.hid (MBox.new w5 n n (.slice (some ⟨la, 0, none⟩) N N))
  have HAL := Lib.hid ((hf.lee (Nat.le_refl _) (Nat.le_refl _) (by omega)).below hba)
  clear hf hb hba hbx HC1
  go_upto_region 5 with fail
  obtain ⟨ab, hq⟩ : ∃ q, q = w5.heap.size := ⟨_, rfl⟩
  rw [← hq] at HA ⊢
  clear hq
  generalize w5.alloc (.cells #[.int .i64 n, .int .i64 n, .slice (some ⟨la, 0, none⟩) N N] 24) = w6 at *
  clear HM_0 HM_1 HM_2
  go_upto_region 9 with fail
  have HM_0 := HM.out.m0
  have HM_1 := HM.out.m1
  have HM_2 := HM.out.m2
  have HC1 := Lib.hid (HH.out.un w6)
  go_wp2_with fail
  (refine HC1.out.mono ?_)
  rintro e w7 ⟨lu, rfl, hf, hb⟩
  have hba := bl_alloc w7 (.cells #[.int .i64 n, .int .i64 n, .slice (some ⟨lu, 0, none⟩) N N] 24)
  have hbx := below_via hb hba
  replace HM := Lib.hid (HM.out.below hbx)
  replace HMB := Lib.hid (HMB.out.below hbx)
  replace HD := Lib.hid (HD.out.below hbx)
  replace HA := Lib.hid (HA.out.below hbx)
  replace HAL := Lib.hid (HAL.out.below hbx)
  replace HB := Lib.hid (below_via HB.out hbx)
  have HU := Lib.hid (MBox.new w7 n n (.slice (some ⟨lu, 0, none⟩) N N))
  have HUL := Lib.hid ((hf.lee (Nat.le_refl _) (Nat.le_refl _) (by omega)).below hba)
  clear hf hb hba hbx HC1
  go_upto_region 10 with fail
  obtain ⟨ub, hq⟩ : ∃ q, q = w7.heap.size := ⟨_, rfl⟩
  rw [← hq] at HU ⊢
  clear hq
  generalize w7.alloc (.cells #[.int .i64 n, .int .i64 n, .slice (some ⟨lu, 0, none⟩) N N] 24) = w8 at *
  clear HM_0 HM_1 HM_2
  have HU_0 := HU.out.m0
  have HU_1 := HU.out.m1
  have HU_2 := HU.out.m2
  have HD_0 := HD.out.b2.m0
  have HD_1 := HD.out.b2.m1
  have HC1 := Lib.hid (HH.out.sc w8 _ _ (by rw [← HDD.out]; exact HD.out.rd HDZ.out (by omega)) HUL.out.rd)
  rw [← HDD.out] at HC1
  go_wp2_with fail
  (refine HC1.out.mono ?_)
  rintro e w9 ⟨ls, rfl, hf, hb⟩
  have hba := bl_alloc w9 (.cells #[.int .i64 n, .int .i64 n, .slice (some ⟨ls, 0, none⟩) N N] 24)
  have hbx := below_via hb hba
  replace HM := Lib.hid (HM.out.below hbx)
  replace HMB := Lib.hid (HMB.out.below hbx)
  replace HA := Lib.hid (HA.out.below hbx)
  replace HAL := Lib.hid (HAL.out.below hbx)
  replace HB := Lib.hid (below_via HB.out hbx)
  have HS := Lib.hid (MBox.new w9 n n (.slice (some ⟨ls, 0, none⟩) N N))
  have HSL := Lib.hid ((hf.lee (Nat.le_refl _) (Nat.le_refl _) (by omega)).below hba)
  clear hf hb hba hbx HC1
  go_upto_region 11 with fail
  obtain ⟨sb, hq⟩ : ∃ q, q = w9.heap.size := ⟨_, rfl⟩
  rw [← hq] at HS ⊢
  clear hq
  generalize w9.alloc (.cells #[.int .i64 n, .int .i64 n, .slice (some ⟨ls, 0, none⟩) N N] 24) = w10 at *
  clear HU_0 HU_1 HU_2
  clear HD_0 HD_1
  clear HD HU HUL
  have HM_0 := HM.out.m0
  have HM_1 := HM.out.m1
  have HM_2 := HM.out.m2
  have HA_0 := HA.out.m0
  have HA_1 := HA.out.m1
  have HA_2 := HA.out.m2
  have HC1 := Lib.hid (HH.out.mr w10 _ HB.out HAL.out.rd)
  go_wp2_with fail
  (refine HC1.out.mono ?_)
  rintro e w11 ⟨lp, rfl, hf, hb⟩
  have hba := bl_alloc w11 (.cells #[.int .i64 n, .int .i64 n, .slice (some ⟨lp, 0, none⟩) N N] 24)
  have hbx := below_via hb hba
  replace HM := Lib.hid (HM.out.below hbx)
  replace HMB := Lib.hid (HMB.out.below hbx)
  replace HA := Lib.hid (HA.out.below hbx)
  replace HAL := Lib.hid (HAL.out.below hbx)
  replace HS := Lib.hid (HS.out.below hbx)
  replace HSL := Lib.hid (HSL.out.below hbx)
  replace HB := Lib.hid (below_via HB.out hbx)
  have HP := Lib.hid (MBox.new w11 n n (.slice (some ⟨lp, 0, none⟩) N N))
  have HPL := Lib.hid ((hf.lee (Nat.le_refl _) (Nat.le_refl _) (by omega)).below hba)
  clear hf hb hba hbx HC1
  go_upto_region 12 with fail
  obtain ⟨pb, hq⟩ : ∃ q, q = w11.heap.size := ⟨_, rfl⟩
  rw [← hq] at HP ⊢
  clear hq
  generalize w11.alloc (.cells #[.int .i64 n, .int .i64 n, .slice (some ⟨lp, 0, none⟩) N N] 24) = w12 at *
  clear HM_0 HM_1 HM_2 HA_0 HA_1 HA_2
  have HM_0 := HM.out.m0
  have HM_1 := HM.out.m1
  have HM_2 := HM.out.m2
  have HA_0 := HA.out.m0
  have HA_1 := HA.out.m1
  have HA_2 := HA.out.m2
  have HC1 := Lib.hid (HH.out.ml w12 _ HB.out HAL.out.rd)
  go_wp2_with fail
  (refine HC1.out.mono ?_)
  rintro e w13 ⟨lq, rfl, hf, hb⟩
  have hba := bl_alloc w13 (.cells #[.int .i64 n, .int .i64 n, .slice (some ⟨lq, 0, none⟩) N N] 24)
  have hbx := below_via hb hba
  replace HM := Lib.hid (HM.out.below hbx)
  replace HMB := Lib.hid (HMB.out.below hbx)
  replace HA := Lib.hid (HA.out.below hbx)
  replace HAL := Lib.hid (HAL.out.below hbx)
  replace HS := Lib.hid (HS.out.below hbx)
  replace HSL := Lib.hid (HSL.out.below hbx)
  replace HP := Lib.hid (HP.out.below hbx)
  replace HPL := Lib.hid (HPL.out.below hbx)
  replace HB := Lib.hid (below_via HB.out hbx)
  have HQ := Lib.hid (MBox.new w13 n n (.slice (some ⟨lq, 0, none⟩) N N))
  have HQL := Lib.hid ((hf.lee (Nat.le_refl _) (Nat.le_refl _) (by omega)).below hba)
  clear hf hb hba hbx HC1
  go_upto_region 13 with fail
  obtain ⟨qb, hq⟩ : ∃ q, q = w13.heap.size := ⟨_, rfl⟩
  rw [← hq] at HQ ⊢
  clear hq
  generalize w13.alloc (.cells #[.int .i64 n, .int .i64 n, .slice (some ⟨lq, 0, none⟩) N N] 24) = w14 at *
  clear HM_0 HM_1 HM_2 HA_0 HA_1 HA_2
  replace HPL := Lib.hid (HPL.out.congr HH.out.er)
  replace HQL := Lib.hid (HQL.out.congr HH.out.el)
  rw [← HDD.out] at HPL HQL
  have HP_0 := HP.out.m0
  have HP_1 := HP.out.m1
  have HP_2 := HP.out.m2
  have HS_0 := HS.out.m0
  have HS_1 := HS.out.m1
  have HS_2 := HS.out.m2
  have HQ_0 := HQ.out.m0
  have HQ_1 := HQ.out.m1
  have HQ_2 := HQ.out.m2
  go_wp2_with fail
  (refine (LikeMat_yes n n _ _ N _ w14 HPL.out HSL.out).mono ?_)
  rintro e w15 ⟨rfl, hb⟩
  clear HP_0 HP_1 HP_2 HS_0 HS_1 HS_2 HQ_0 HQ_1 HQ_2
  replace HM := Lib.hid (HM.out.below hb)
  replace HMB := Lib.hid (HMB.out.below hb)
  replace HA := Lib.hid (HA.out.below hb)
  replace HAL := Lib.hid (HAL.out.below hb)
  replace HS := Lib.hid (HS.out.below hb)
  replace HSL := Lib.hid (HSL.out.below hb)
  replace HQ := Lib.hid (HQ.out.below hb)
  replace HQL := Lib.hid (HQL.out.below hb)
  replace HB := Lib.hid (below_via HB.out hb)
  clear hb HP HPL
  have HS_0 := HS.out.m0
  have HS_1 := HS.out.m1
  have HS_2 := HS.out.m2
  have HQ_0 := HQ.out.m0
  have HQ_1 := HQ.out.m1
  have HQ_2 := HQ.out.m2
  go_wp2_with fail
  (refine (LikeMat_yes n n _ _ N _ w15 HQL.out HSL.out).mono ?_)
  rintro e w16 ⟨rfl, hb⟩
  clear HS_0 HS_1 HS_2 HQ_0 HQ_1 HQ_2
  replace HM := Lib.hid (HM.out.below hb)
  replace HMB := Lib.hid (HMB.out.below hb)
  replace HA := Lib.hid (HA.out.below hb)
  replace HAL := Lib.hid (HAL.out.below hb)
  replace HB := Lib.hid (below_via HB.out hb)
  clear hb HQ HQL HS HSL HDZ HDD
  go_upto_region 15 with fail
  have HMB_0 := HMB.out.m0
  have HMB_1 := HMB.out.m1
  have HMB_2 := HMB.out.m2
  have HC1 := Lib.hid (HJ.out w16 HB.out)
  unfold MatAns at HC1
  go_wp2_with fail
  (refine HC1.out.mono ?_)
  rintro e w17 ⟨rx, sx, lx, nx, cx, rfl, hb⟩
  have hbx := below_via hb (bl_alloc w17 (.cells #[.int .i64 rx, .int .i64 sx, .slice lx nx cx] 24))
  replace HM := Lib.hid (HM.out.below hbx)
  replace HMB := Lib.hid (HMB.out.below hbx)
  replace HB := Lib.hid (below_via HB.out hbx)
  clear hb hbx HC1
  go_upto_region 16 with fail
  obtain ⟨jb, hq⟩ : ∃ q, q = w17.heap.size := ⟨_, rfl⟩
  rw [← hq]
  clear hq
  generalize w17.alloc (.cells #[.int .i64 rx, .int .i64 sx, .slice lx nx cx] 24) = w18 at *
  clear HMB_0 HMB_1 HMB_2
  have HM_0 := HM.out.m0
  have HM_1 := HM.out.m1
  have HM_2 := HM.out.m2
  have HMB_0 := HMB.out.m0
  have HMB_1 := HMB.out.m1
  have HMB_2 := HMB.out.m2
  have HC1 := Lib.hid (HK.out w18 HB.out)
  unfold MatAns at HC1
  go_wp2_with fail
  (refine HC1.out.mono ?_)
  rintro e w19 ⟨rx, sx, lx, nx, cx, rfl, hb⟩
  have hbx := below_via hb (bl_alloc w19 (.cells #[.int .i64 rx, .int .i64 sx, .slice lx nx cx] 24))
  replace HM := Lib.hid (HM.out.below hbx)
  replace HMB := Lib.hid (HMB.out.below hbx)
  replace HB := Lib.hid (below_via HB.out hbx)
  clear hb hbx HC1
  go_upto_region 17 with fail
  obtain ⟨kb, hq⟩ : ∃ q, q = w19.heap.size := ⟨_, rfl⟩
  rw [← hq]
  clear hq
  generalize w19.alloc (.cells #[.int .i64 rx, .int .i64 sx, .slice lx nx cx] 24) = w20 at *
  clear HM_0 HM_1 HM_2 HMB_0 HMB_1 HMB_2
  clear HA HAL HJ HK HH
  have HM_0 := HM.out.m0
  have HM_1 := HM.out.m1
  have HM_2 := HM.out.m2
  have HMB_0 := HMB.out.m0
  have HMB_1 := HMB.out.m1
  have HMB_2 := HMB.out.m2
  rcases hout with h1 | ⟨rfl, h2⟩ | ⟨rfl, rfl, h3⟩
  · go_wp2_with fail
    refine bodyPost_ret (v := .bool true) ?_ rfl ⟨rfl, HB.out⟩
    simp [results, Try.results8, go_sem]
  · go_wp2_with fail
    refine bodyPost_ret (v := .bool true) ?_ rfl ⟨rfl, HB.out⟩
    simp [results, Try.results8, go_sem]
  · go_wp2_with fail
    refine bodyPost_ret (v := .bool true) ?_ rfl ⟨rfl, HB.out⟩
    simp [results, Try.results8, go_sem]

set_option maxHeartbeats 8000000 in
set_option maxRecDepth 100000 in
theorem Adj_same (n S N T : Nat) (a : Option Addr) (cap : Nat) (A : Nat → Int) (b : Option Addr) (cap' : Nat) (B : Nat → Int) (w : World) (hh : AdH n S N T a cap A w)
    (hadj : ∀ u, Below w.heap.size w u → Calls Try.prog 49 #[.agg #[.int .i64 n, .int .i64 n, .slice b N cap']] u fun e w' => ∃ lb, e = .returned (.tuple #[.agg #[.int .i64 n, .int .i64 n, .slice (some ⟨lb, 0, none⟩) N N], .int .i64 0]) ∧ FrE w' u.heap.size (fun b => b ≤ lb) lb N (adE n B) ∧ Below u.heap.size u w')
    (hmul : ∀ u, Below w.heap.size w u → Calls Try.prog 16 #[.agg #[.int .i64 n, .int .i64 n, .slice a N cap], .agg #[.int .i64 n, .int .i64 n, .slice b N cap']] u fun e w' => ∃ lb, e = .returned (.tuple #[.agg #[.int .i64 n, .int .i64 n, .slice (some ⟨lb, 0, none⟩) N N], .int .i64 0]) ∧ FrE w' u.heap.size (fun b => b ≤ lb) lb N (mulE A B n n) ∧ Below u.heap.size u w')
    (hadj2 : ∀ u v, RdE u v N (mulE A B n n) → Calls Try.prog 49 #[.agg #[.int .i64 n, .int .i64 n, v]] u fun e w' => ∃ lb, e = .returned (.tuple #[.agg #[.int .i64 n, .int .i64 n, .slice (some ⟨lb, 0, none⟩) N N], .int .i64 0]) ∧ FrE w' u.heap.size (fun b => b ≤ lb) lb N (adE n (mulE A B n n)) ∧ Below u.heap.size u w')
    (hmul2 : ∀ u v v', RdE u v N (adE n B) → RdE u v' N (adE n A) → Calls Try.prog 16 #[.agg #[.int .i64 n, .int .i64 n, v], .agg #[.int .i64 n, .int .i64 n, v']] u fun e w' => ∃ lb, e = .returned (.tuple #[.agg #[.int .i64 n, .int .i64 n, .slice (some ⟨lb, 0, none⟩) N N], .int .i64 0]) ∧ FrE w' u.heap.size (fun b => b ≤ lb) lb N (mulE (adE n B) (adE n A) n n) ∧ Below u.heap.size u w')
    (hpr : ∀ q, q < N → adE n (mulE A B n n) q = mulE (adE n B) (adE n A) n n q) :
    Calls Try.prog 8 #[.agg #[.int .i64 n, .int .i64 n, .slice a N cap], .agg #[.int .i64 n, .int .i64 n, .slice b N cap']] w fun e w' => e = .returned (.bool true) ∧ Below w.heap.size w w' := by
  have HJ := Lib.hid hadj
  have HK := Lib.hid hmul
  have HJ2 := Lib.hid hadj2
  have HK2 := Lib.hid hmul2
  have HPR := Lib.hid hpr
  clear hadj hmul hadj2 hmul2 hpr
  obtain ⟨hm, hm2, -⟩ := two_mbox w n n n n (.slice a N cap) (.slice b N cap')
  have h4 := hh.h4
  have hT := hh.hT
  have HM := Lib.hid hm
  have HMB := Lib.hid hm2
  have HB := Lib.hid (two_mats w (.int .i64 n) (.int .i64 n) (.slice a N cap) (.int .i64 n) (.int .i64 n) (.slice b N cap'))
  have HH := Lib.hid hh
  obtain ⟨D, hD⟩ : ∃ D, D = dtE n A := ⟨_, rfl⟩
  have HDT := Lib.hid (show ∀ u, Below w.heap.size w u → Calls Try.prog 48 #[.agg #[.int .i64 n, .int .i64 n, .slice a N cap]] u fun e w' => ∃ v, e = .returned (.tuple #[v, .int .i64 0]) ∧ FrZ w' u.heap.size v D ∧ Below u.heap.size u w' by rw [hD]; exact hh.det)
  have HDZ := Lib.hid (show ZB T D by rw [hD]; exact hh.dz)
  have HDD := Lib.hid hD
  clear hm hm2 hh hD
  go_enter Try.func8, Try.ntmps8
  go_upto_region 1 with fail
  generalize (w.alloc (.cells #[.int .i64 n, .int .i64 n, .slice a N cap] 24)).alloc (.cells #[.int .i64 n, .int .i64 n, .slice b N cap'] 24) = W at *
  go_wp2_with fail
  (refine (awake14_any W).mono ?_)
  rintro e w1 ⟨rfl, hb⟩
  replace HM := Lib.hid (HM.out.below hb)
  replace HMB := Lib.hid (HMB.out.below hb)
  replace HB := Lib.hid (below_via HB.out hb)
  clear hb
  have HM_0 := HM.out.m0
  have HM_1 := HM.out.m1
  have HM_2 := HM.out.m2
  go_wp2_with fail
  (refine (HH.out.inv w1 HB.out).mono ?_)
  rintro e w2 ⟨rfl, hb⟩
  clear HM_0 HM_1 HM_2
  replace HM := Lib.hid (HM.out.below hb)
  replace HMB := Lib.hid (HMB.out.below hb)
  replace HB := Lib.hid (below_via HB.out hb)
  clear hb
  go_upto_region 3 with fail
  have HM_0 := HM.out.m0
  have HM_1 := HM.out.m1
  have HM_2 := HM.out.m2
  go_wp2_with fail
  (refine (HDT.out w2 HB.out).mono ?_)
  rintro e w3 ⟨v, rfl, hf, hb⟩
  obtain ⟨ad, nd, cd, rfl, -⟩ := hf.agg
  have hba := bl_alloc w3 (.cells #[.bool (decide (D < 0)), .slice ad nd cd] 49)
  have hbx := below_via hb hba
  have HD := Lib.hid (KBox.new hf)
  clear HM_0 HM_1 HM_2
  replace HM := Lib.hid (HM.out.below hbx)
  replace HMB := Lib.hid (HMB.out.below hbx)
  replace HB := Lib.hid (below_via HB.out hbx)
  clear hf hb hba hbx HDT
  go_upto_region 4 with fail
  obtain ⟨db, hdb⟩ : ∃ db, db = w3.heap.size := ⟨_, rfl⟩
  rw [← hdb] at HD ⊢
  clear hdb
  generalize w3.alloc (.cells #[.bool (decide (D < 0)), .slice ad nd cd] 49) = w4 at *
  have HM_0 := HM.out.m0
  have HM_1 := HM.out.m1
  have HM_2 := HM.out.m2
  have HC1 := Lib.hid (HH.out.adj w4 HB.out)
  go_wp2_with fail
  (refine HC1.out.mono ?_)
  rintro e w5 ⟨la, rfl, hf, hb⟩
  have hba := bl_alloc w5 (.cells #[.int .i64 n, .int .i64 n, .slice (some ⟨la, 0, none⟩) N N] 24)
  have hbx := below_via hb hba
  replace HM := Lib.hid (HM.out.below hbx)
  replace HMB := Lib.hid (HMB.out.below hbx)
  replace HD := Lib.hid (HD.out.below hbx)
  replace HB := Lib.hid (below_via HB.out hbx)
  have HA := Lib.hid (MBox.new w5 n n (.slice (some ⟨la, 0, none⟩) N N))
  have HAL := Lib.hid ((hf.lee (Nat.le_refl _) (Nat.le_refl _) (by omega)).below hba)
  clear hf hb hba hbx HC1
  go_upto_region 5 with fail
  obtain ⟨ab, hq⟩ : ∃ q, q = w5.heap.size := ⟨_, rfl⟩
  rw [← hq] at HA ⊢
  clear hq
  generalize w5.alloc (.cells #[.int .i64 n, .int .i64 n, .slice (some ⟨la, 0, none⟩) N N] 24) = w6 at *
  clear HM_0 HM_1 HM_2
  go_upto_region 9 with fail
  have HM_0 := HM.out.m0
  have HM_1 := HM.out.m1
  have HM_2 := HM.out.m2
  have HC1 := Lib.hid (HH.out.un w6)
  go_wp2_with fail
  (refine HC1.out.mono ?_)
  rintro e w7 ⟨lu, rfl, hf, hb⟩
  have hba := bl_alloc w7 (.cells #[.int .i64 n, .int .i64 n, .slice (some ⟨lu, 0, none⟩) N N] 24)
  have hbx := below_via hb hba
  replace HM := Lib.hid (HM.out.below hbx)
  replace HMB := Lib.hid (HMB.out.below hbx)
  replace HD := Lib.hid (HD.out.below hbx)
  replace HA := Lib.hid (HA.out.below hbx)
  replace HAL := Lib.hid (HAL.out.below hbx)
  replace HB := Lib.hid (below_via HB.out hbx)
  have HU := Lib.hid (MBox.new w7 n n (.slice (some ⟨lu, 0, none⟩) N N))
  have HUL := Lib.hid ((hf.lee (Nat.le_refl _) (Nat.le_refl _) (by omega)).below hba)
  clear hf hb hba hbx HC1
  go_upto_region 10 with fail
  obtain ⟨ub, hq⟩ : ∃ q, q = w7.heap.size := ⟨_, rfl⟩
  rw [← hq] at HU ⊢
  clear hq
  generalize w7.alloc (.cells #[.int .i64 n, .int .i64 n, .slice (some ⟨lu, 0, none⟩) N N] 24) = w8 at *
  clear HM_0 HM_1 HM_2
  have HU_0 := HU.out.m0
  have HU_1 := HU.out.m1
  have HU_2 := HU.out.m2
  have HD_0 := HD.out.b2.m0
  have HD_1 := HD.out.b2.m1
  have HC1 := Lib.hid (HH.out.sc w8 _ _ (by rw [← HDD.out]; exact HD.out.rd HDZ.out (by omega)) HUL.out.rd)
  rw [← HDD.out] at HC1
  go_wp2_with fail
  (refine HC1.out.mono ?_)
  rintro e w9 ⟨ls, rfl, hf, hb⟩
  have hba := bl_alloc w9 (.cells #[.int .i64 n, .int .i64 n, .slice (some ⟨ls, 0, none⟩) N N] 24)
  have hbx := below_via hb hba
  replace HM := Lib.hid (HM.out.below hbx)
  replace HMB := Lib.hid (HMB.out.below hbx)
  replace HA := Lib.hid (HA.out.below hbx)
  replace HAL := Lib.hid (HAL.out.below hbx)
  replace HB := Lib.hid (below_via HB.out hbx)
  have HS := Lib.hid (MBox.new w9 n n (.slice (some ⟨ls, 0, none⟩) N N))
  have HSL := Lib.hid ((hf.lee (Nat.le_refl _) (Nat.le_refl _) (by omega)).below hba)
  clear hf hb hba hbx HC1
  go_upto_region 11 with fail
  obtain ⟨sb, hq⟩ : ∃ q, q = w9.heap.size := ⟨_, rfl⟩
  rw [← hq] at HS ⊢
  clear hq
  generalize w9.alloc (.cells #[.int .i64 n, .int .i64 n, .slice (some ⟨ls, 0, none⟩) N N] 24) = w10 at *
  clear HU_0 HU_1 HU_2
  clear HD_0 HD_1
  clear HD HU HUL
  have HM_0 := HM.out.m0
  have HM_1 := HM.out.m1
  have HM_2 := HM.out.m2
  have HA_0 := HA.out.m0
  have HA_1 := HA.out.m1
  have HA_2 := HA.out.m2
  have HC1 := Lib.hid (HH.out.mr w10 _ HB.out HAL.out.rd)
  go_wp2_with fail
  (refine HC1.out.mono ?_)
  rintro e w11 ⟨lp, rfl, hf, hb⟩
  have hba := bl_alloc w11 (.cells #[.int .i64 n, .int .i64 n, .slice (some ⟨lp, 0, none⟩) N N] 24)
  have hbx := below_via hb hba
  replace HM := Lib.hid (HM.out.below hbx)
  replace HMB := Lib.hid (HMB.out.below hbx)
  replace HA := Lib.hid (HA.out.below hbx)
  replace HAL := Lib.hid (HAL.out.below hbx)
  replace HS := Lib.hid (HS.out.below hbx)
  replace HSL := Lib.hid (HSL.out.below hbx)
  replace HB := Lib.hid (below_via HB.out hbx)
  have HP := Lib.hid (MBox.new w11 n n (.slice (some ⟨lp, 0, none⟩) N N))
  have HPL := Lib.hid ((hf.lee (Nat.le_refl _) (Nat.le_refl _) (by omega)).below hba)
  clear hf hb hba hbx HC1
  go_upto_region 12 with fail
  obtain ⟨pb, hq⟩ : ∃ q, q = w11.heap.size := ⟨_, rfl⟩
  rw [← hq] at HP ⊢
  clear hq
  generalize w11.alloc (.cells #[.int .i64 n, .int .i64 n, .slice (some ⟨lp, 0, none⟩) N N] 24) = w12 at *
  clear HM_0 HM_1 HM_2 HA_0 HA_1 HA_2
  have HM_0 := HM.out.m0
  have HM_1 := HM.out.m1
  have HM_2 := HM.out.m2
  have HA_0 := HA.out.m0
  have HA_1 := HA.out.m1
  have HA_2 := HA.out.m2
  have HC1 := Lib.hid (HH.out.ml w12 _ HB.out HAL.out.rd)
  go_wp2_with fail
  (refine HC1.out.mono ?_)
  rintro e w13 ⟨lq, rfl, hf, hb⟩
  have hba := bl_alloc w13 (.cells #[.int .i64 n, .int .i64 n, .slice (some ⟨lq, 0, none⟩) N N] 24)
  have hbx := below_via hb hba
  replace HM := Lib.hid (HM.out.below hbx)
  replace HMB := Lib.hid (HMB.out.below hbx)
  replace HA := Lib.hid (HA.out.below hbx)
  replace HAL := Lib.hid (HAL.out.below hbx)
  replace HS := Lib.hid (HS.out.below hbx)
  replace HSL := Lib.hid (HSL.out.below hbx)
  replace HP := Lib.hid (HP.out.below hbx)
  replace HPL := Lib.hid (HPL.out.below hbx)
  replace HB := Lib.hid (below_via HB.out hbx)
  have HQ := Lib.hid (MBox.new w13 n n (.slice (some ⟨lq, 0, none⟩) N N))
  have HQL := Lib.hid ((hf.lee (Nat.le_refl _) (Nat.le_refl _) (by omega)).below hba)
  clear hf hb hba hbx HC1
  go_upto_region 13 with fail
  obtain ⟨qb, hq⟩ : ∃ q, q = w13.heap.size := ⟨_, rfl⟩
  rw [← hq] at HQ ⊢
  clear hq
  generalize w13.alloc (.cells #[.int .i64 n, .int .i64 n, .slice (some ⟨lq, 0, none⟩) N N] 24) = w14 at *
  clear HM_0 HM_1 HM_2 HA_0 HA_1 HA_2
  replace HPL := Lib.hid (HPL.out.congr HH.out.er)
  replace HQL := Lib.hid (HQL.out.congr HH.out.el)
  rw [← HDD.out] at HPL HQL
  have HP_0 := HP.out.m0
  have HP_1 := HP.out.m1
  have HP_2 := HP.out.m2
  have HS_0 := HS.out.m0
  have HS_1 := HS.out.m1
  have HS_2 := HS.out.m2
  have HQ_0 := HQ.out.m0
  have HQ_1 := HQ.out.m1
  have HQ_2 := HQ.out.m2
  go_wp2_with fail
  (refine (LikeMat_yes n n _ _ N _ w14 HPL.out HSL.out).mono ?_)
  rintro e w15 ⟨rfl, hb⟩
  clear HP_0 HP_1 HP_2 HS_0 HS_1 HS_2 HQ_0 HQ_1 HQ_2
  replace HM := Lib.hid (HM.out.below hb)
  replace HMB := Lib.hid (HMB.out.below hb)
  replace HA := Lib.hid (HA.out.below hb)
  replace HAL := Lib.hid (HAL.out.below hb)
  replace HS := Lib.hid (HS.out.below hb)
  replace HSL := Lib.hid (HSL.out.below hb)
  replace HQ := Lib.hid (HQ.out.below hb)
  replace HQL := Lib.hid (HQL.out.below hb)
  replace HB := Lib.hid (below_via HB.out hb)
  clear hb HP HPL
  have HS_0 := HS.out.m0
  have HS_1 := HS.out.m1
  have HS_2 := HS.out.m2
  have HQ_0 := HQ.out.m0
  have HQ_1 := HQ.out.m1
  have HQ_2 := HQ.out.m2
  go_wp2_with fail
  (refine (LikeMat_yes n n _ _ N _ w15 HQL.out HSL.out).mono ?_)
  rintro e w16 ⟨rfl, hb⟩
  clear HS_0 HS_1 HS_2 HQ_0 HQ_1 HQ_2
  replace HM := Lib.hid (HM.out.below hb)
  replace HMB := Lib.hid (HMB.out.below hb)
  replace HA := Lib.hid (HA.out.below hb)
  replace HAL := Lib.hid (HAL.out.below hb)
  replace HB := Lib.hid (below_via HB.out hb)
  clear hb HQ HQL HS HSL HDZ HDD
  go_upto_region 15 with fail
  have HMB_0 := HMB.out.m0
  have HMB_1 := HMB.out.m1
  have HMB_2 := HMB.out.m2
  have HC1 := Lib.hid (HJ.out w16 HB.out)
  go_wp2_with fail
  (refine HC1.out.mono ?_)
  rintro e w17 ⟨lj, rfl, hf, hb⟩
  have hba := bl_alloc w17 (.cells #[.int .i64 n, .int .i64 n, .slice (some ⟨lj, 0, none⟩) N N] 24)
  have hbx := below_via hb hba
  replace HM := Lib.hid (HM.out.below hbx)
  replace HMB := Lib.hid (HMB.out.below hbx)
  replace HA := Lib.hid (HA.out.below hbx)
  replace HAL := Lib.hid (HAL.out.below hbx)
  replace HB := Lib.hid (below_via HB.out hbx)
  have HN := Lib.hid (MBox.new w17 n n (.slice (some ⟨lj, 0, none⟩) N N))
  have HNL := Lib.hid ((hf.lee (Nat.le_refl _) (Nat.le_refl _) (by omega)).below hba)
  clear hf hb hba hbx HC1
  go_upto_region 16 with fail
  obtain ⟨jb, hq⟩ : ∃ q, q = w17.heap.size := ⟨_, rfl⟩
  rw [← hq] at HN ⊢
  clear hq
  generalize w17.alloc (.cells #[.int .i64 n, .int .i64 n, .slice (some ⟨lj, 0, none⟩) N N] 24) = w18 at *
  clear HMB_0 HMB_1 HMB_2
  have HM_0 := HM.out.m0
  have HM_1 := HM.out.m1
  have HM_2 := HM.out.m2
  have HMB_0 := HMB.out.m0
  have HMB_1 := HMB.out.m1
  have HMB_2 := HMB.out.m2
  have HC1 := Lib.hid (HK.out w18 HB.out)
  go_wp2_with fail
  (refine HC1.out.mono ?_)
  rintro e w19 ⟨lk, rfl, hf, hb⟩
  have hba := bl_alloc w19 (.cells #[.int .i64 n, .int .i64 n, .slice (some ⟨lk, 0, none⟩) N N] 24)
  have hbx := below_via hb hba
  replace HM := Lib.hid (HM.out.below hbx)
  replace HMB := Lib.hid (HMB.out.below hbx)
  replace HA := Lib.hid (HA.out.below hbx)
  replace HAL := Lib.hid (HAL.out.below hbx)
  replace HN := Lib.hid (HN.out.below hbx)
  replace HNL := Lib.hid (HNL.out.below hbx)
  replace HB := Lib.hid (below_via HB.out hbx)
  have HX := Lib.hid (MBox.new w19 n n (.slice (some ⟨lk, 0, none⟩) N N))
  have HXL := Lib.hid ((hf.lee (Nat.le_refl _) (Nat.le_refl _) (by omega)).below hba)
  clear hf hb hba hbx HC1
  go_upto_region 17 with fail
  obtain ⟨kb, hq⟩ : ∃ q, q = w19.heap.size := ⟨_, rfl⟩
  rw [← hq] at HX ⊢
  clear hq
  generalize w19.alloc (.cells #[.int .i64 n, .int .i64 n, .slice (some ⟨lk, 0, none⟩) N N] 24) = w20 at *
  clear HM_0 HM_1 HM_2 HMB_0 HMB_1 HMB_2
  clear HJ HK HH
  have HM_0 := HM.out.m0
  have HM_1 := HM.out.m1
  have HM_2 := HM.out.m2
  have HMB_0 := HMB.out.m0
  have HMB_1 := HMB.out.m1
  have HMB_2 := HMB.out.m2
  go_upto_region 19 with fail
  clear HM_0 HM_1 HM_2 HMB_0 HMB_1 HMB_2
  clear HM HMB
  have HX_0 := HX.out.m0
  have HX_1 := HX.out.m1
  have HX_2 := HX.out.m2
  have HC1 := Lib.hid (HJ2.out w20 _ HXL.out.rd)
  go_wp2_with fail
  (refine HC1.out.mono ?_)
  rintro e w21 ⟨lx, rfl, hf, hb⟩
  have hba := bl_alloc w21 (.cells #[.int .i64 n, .int .i64 n, .slice (some ⟨lx, 0, none⟩) N N] 24)
  have hbx := below_via hb hba
  replace HA := Lib.hid (HA.out.below hbx)
  replace HAL := Lib.hid (HAL.out.below hbx)
  replace HN := Lib.hid (HN.out.below hbx)
  replace HNL := Lib.hid (HNL.out.below hbx)
  replace HB := Lib.hid (below_via HB.out hbx)
  have HY := Lib.hid (MBox.new w21 n n (.slice (some ⟨lx, 0, none⟩) N N))
  have HYL := Lib.hid ((hf.lee (Nat.le_refl _) (Nat.le_refl _) (by omega)).below hba)
  clear hf hb hba hbx HC1
  go_upto_region 20 with fail
  obtain ⟨xb, hq⟩ : ∃ q, q = w21.heap.size := ⟨_, rfl⟩
  rw [← hq] at HY ⊢
  clear hq
  generalize w21.alloc (.cells #[.int .i64 n, .int .i64 n, .slice (some ⟨lx, 0, none⟩) N N] 24) = w22 at *
  clear HX_0 HX_1 HX_2
  clear HX HXL HJ2
  have HN_0 := HN.out.m0
  have HN_1 := HN.out.m1
  have HN_2 := HN.out.m2
  have HA_0 := HA.out.m0
  have HA_1 := HA.out.m1
  have HA_2 := HA.out.m2
  have HC1 := Lib.hid (HK2.out w22 _ _ HNL.out.rd HAL.out.rd)
  go_wp2_with fail
  (refine HC1.out.mono ?_)
  rintro e w23 ⟨lz, rfl, hf, hb⟩
  have hba := bl_alloc w23 (.cells #[.int .i64 n, .int .i64 n, .slice (some ⟨lz, 0, none⟩) N N] 24)
  have hbx := below_via hb hba
  replace HY := Lib.hid (HY.out.below hbx)
  replace HYL := Lib.hid (HYL.out.below hbx)
  replace HB := Lib.hid (below_via HB.out hbx)
  have HZ := Lib.hid (MBox.new w23 n n (.slice (some ⟨lz, 0, none⟩) N N))
  have HZL := Lib.hid ((hf.lee (Nat.le_refl _) (Nat.le_refl _) (by omega)).below hba)
  clear hf hb hba hbx HC1
  go_upto_region 21 with fail
  obtain ⟨zb, hq⟩ : ∃ q, q = w23.heap.size := ⟨_, rfl⟩
  rw [← hq] at HZ ⊢
  clear hq
  generalize w23.alloc (.cells #[.int .i64 n, .int .i64 n, .slice (some ⟨lz, 0, none⟩) N N] 24) = w24 at *
  clear HN_0 HN_1 HN_2 HA_0 HA_1 HA_2
  clear HN HNL HA HAL HK2
  have HY_0 := HY.out.m0
  have HY_1 := HY.out.m1
  have HY_2 := HY.out.m2
  have HZ_0 := HZ.out.m0
  have HZ_1 := HZ.out.m1
  have HZ_2 := HZ.out.m2
  go_wp2_with fail
  (refine (LikeMat_yes n n _ _ N _ w24 (HYL.out.congr HPR.out) HZL.out).mono ?_)
  rintro e w25 ⟨rfl, hb⟩
  clear HY_0 HY_1 HY_2 HZ_0 HZ_1 HZ_2
  replace HB := Lib.hid (below_via HB.out hb)
  clear hb HY HZ HYL HZL
  go_wp2_with fail
  refine bodyPost_ret (v := .bool true) ?_ rfl ⟨rfl, HB.out⟩
  simp [results, Try.results8, go_sem]

theorem Adj_law (r c r' c' : Int) (s s' : Value) (n n' : Nat) (x x' : Nat → Raw) (w : World) (hr : RdL w s n x) (hr' : RdL w s' n' x') (hx : ∀ i, i < n → (x i).n ≤ 1048576) (hx' : ∀ i, i < n' → (x' i).n ≤ 1048576) :
    Calls Try.prog 8 #[.agg #[.int .i64 r, .int .i64 c, s], .agg #[.int .i64 r', .int .i64 c', s']] w fun e w' => e = .returned (.bool true) ∧ Below w.heap.size w w' := by
  obtain ⟨a, cap, rfl, hcap, hn, -⟩ := id hr
  obtain ⟨b, cap', rfl, hcap', hn', -⟩ := id hr'
  rcases check_cases r c n with h | ⟨R, C, rfl, rfl, hR, hC, rfl⟩
  · exact Adj_err r c r' c' _ _ 1 (Or.inl rfl) w (fun u => inverts_err r c a n cap 1 (Or.inl rfl) u (fun u' => Det_bad r c a n cap (by omega) h u')) (fun u => Det_bad r c a n cap (by omega) h u) (fun u => Adjugate_bad r c a n cap (by omega) h u)
  · have hK4 : R * C ≤ 4096 := Nat.mul_le_mul hR hC
    have k1 := checkE_ok hR hC rfl
    by_cases e : R = C
    · subst e
      have h1 := hr.rde (by omega) (fun i hi => by have := hx i hi; omega)
      have h2 := hr.zbs hx
      have hh := adh_mk R 1048576 a cap _ w hR (by omega) h1 h2
      rcases check_cases r' c' n' with h | ⟨R', C', rfl, rfl, hR', hC', rfl⟩
      · exact Adj_out R 1048576 (R * R) _ a cap _ r' c' b n' cap' w hh 1 1 (fun u _ => (Adjugate_bad r' c' b n' cap' (by omega) h u).mono fun e w' ⟨he, hb⟩ => ⟨0, 0, none, 0, 0, he, hb⟩)
          (fun u _ => mul_badA (by omega) (by omega) (Or.inl ⟨chk2_ra (checkE_or _ _ _) h, rfl⟩) u) (Or.inl (by decide))
      · have hK5 : R' * C' ≤ 4096 := Nat.mul_le_mul hR' hC'
        have k2 := checkE_ok hR' hC' rfl
        have h3 := hr'.rde (by omega) (fun i hi => by have := hx' i hi; omega)
        have h4 := hr'.zbs hx'
        have hm : ∃ Eh, (Eh = 0 ∨ ¬ Eh = 0) ∧ (Eh = 0 → R = R') ∧ ∀ u, Below w.heap.size w u → MatAns 16 #[.agg #[.int .i64 R, .int .i64 R, .slice a (R * R) cap], .agg #[.int .i64 R', .int .i64 C', .slice b (R' * C') cap']] Eh u := by
          by_cases e2 : R = R'
          · subst e2
            exact ⟨0, Or.inl rfl, fun _ => rfl, fun u hu => (Mul_good R R C' 1048576 1048576 _ _ _ _ u hR hC hC' (by omega) (h1.below hu) (h3.below hu) h2 h4).mono fun e w' ⟨lb, he, _, hb⟩ => ⟨_, _, _, _, _, he, hb⟩⟩
          · exact ⟨2, Or.inr (by decide), fun e => absurd e (by decide), fun u _ => mul_badA (by omega) (by omega) (Or.inr ⟨by rw [k1, k2]; rfl, by omega, rfl⟩) u⟩
        obtain ⟨Eh, hE0, hE1, hE2⟩ := hm
        by_cases e3 : R' = C'
        · subst e3
          by_cases e4 : R' = R
          · subst e4
            have hz1 := mulE_zb (R := R') (C := R') hR' h2 h4
            exact Adj_same R' 1048576 (R' * R') _ a cap _ b cap' _ w hh (fun u hu => Adjugate_good R' 1048576 _ _ u hR' (by omega) (h3.below hu) h4)
              (fun u hu => Mul_good R' R' R' 1048576 1048576 _ _ _ _ u hR' hR' hR' (by omega) (h1.below hu) (h3.below hu) h2 h4)
              (fun u v hv => Adjugate_good R' (1048576 + 1048576 + 1) v _ u hR' (by omega) hv hz1)
              (fun u v v' hv hv' => Mul_good R' R' R' (64 * (1048576 + 1) + 1) (64 * (1048576 + 1) + 1) v v' _ _ u hR' hR' hR' (by omega) hv hv' (adE_zb hR' h4) (adE_zb hR' h2)) (ad_prod _ _)
          · refine Adj_out R 1048576 (R * R) _ a cap _ R' R' b (R' * R') cap' w hh 0 Eh (fun u hu => (Adjugate_good R' 1048576 _ _ u hR' (by omega) (h3.below hu) h4).mono fun e w' ⟨lb, he, _, hb⟩ => ⟨_, _, _, _, _, he, hb⟩) hE2 (Or.inr (Or.inl ⟨rfl, fun e => e4 (hE1 e).symm⟩))
        · exact Adj_out R 1048576 (R * R) _ a cap _ R' C' b (R' * C') cap' w hh 2 Eh (fun u _ => (Adjugate_unfit R' C' b (R' * C') cap' (by omega) k2 (by omega) u).mono fun e w' ⟨he, hb⟩ => ⟨0, 0, none, 0, 0, he, hb⟩) hE2 (Or.inl (by decide))
    · exact Adj_err R C r' c' _ _ 2 (Or.inr rfl) w (fun u => inverts_err R C a (R * C) cap 2 (Or.inr rfl) u (fun u' => Det_unfit R C a (R * C) cap (by omega) k1 (by omega) u')) (fun u => Det_unfit R C a (R * C) cap (by omega) k1 (by omega) u) (fun u => Adjugate_unfit R C a (R * C) cap (by omega) k1 (by omega) u)
end Go.Proofs.Ytejliecmdkmgiaa

namespace Go.Proofs.Ytejliecmdkmgiaa.minorsAdjugate
open Go.ChangeShapes Go.WideShapes Go.ChangeAt Go.RowKit

theorem own : ownKnob Try.prog.godebug = none := by kernel_rfl

set_option maxRecDepth 100000 in
theorem contract (H : Type) (enc : TypeId × Value → H) (W : World) (base : Nat) (args : Array Value) (ds gs : List (DataW H)) (before : List MemPlace)
    (hval : ∀ (j : Nat) t v, Try.f8.params[j]? = some t → args[j]? = some v → Value.okWide Try.prog W .any base t v)
    (hW : DataW.Whole enc Try.prog Try.f8.params.toList Rows.minorsAdjugateSpec.vars false W args.toList ds gs before) (hk : Rows.uptoSmall H (ds ++ gs) = true) :
    Calls Try.prog 8 args W fun e W' => ∃ v, e = .returned v ∧ Rows.minorsAdjugateSpec.post enc Try.prog Try.f8 false true false false W args v W' := by
  have hW' := hW
  have hlt : ∀ x ∈ before, x.block < W.heap.size := fun x hx => hW.lt x hx
  obtain ⟨p, q, hA0, hV, rfl, hfz, hnd⟩ := hW
  have hA : DataW.TrodAll enc Try.prog W 0 (fun _ => true) true Try.f8.params.toList args.toList ds p := hA0
  rw [Try.params8] at hA hval
  obtain ⟨v0, vs0, d0, ds0, p0, q0, hargs, rfl, rfl, h0, r0⟩ := trodAll_cons hA
  obtain ⟨v1, vs1, d1, ds1, p1, q1, rfl, rfl, rfl, h1, r1⟩ := trodAll_cons r0
  obtain ⟨rfl, rfl, rfl⟩ := trodAll_nil r1
  obtain rfl : args = #[v0, v1] := by cases args; simp_all
  obtain ⟨rfl, rfl⟩ := trodVars_none hV
  have h0k := h0
  have h1k := h1
  clear hA0
  simp only [List.append_nil] at hW' hk hlt
  have hbk : Rows.uptoBulkAll [d0, d1] ≤ 1048576 := of_decide_eq_true hk
  simp only [Rows.uptoBulkAll] at hbk
  obtain ⟨R0, C0, s0, n0, x0, rfl, hr0, hn0, hx0, -, -⟩ := open_mat (B := 1048576) (hval 0 24 v0 rfl rfl) h0 (by omega) (by omega)
  obtain ⟨R1, C1, s1, n1, x1, rfl, hr1, hn1, hx1, -, -⟩ := open_mat (B := 1048576) (hval 1 24 v1 rfl rfl) h1 (by omega) (by omega)
  refine (Adj_law R0 C0 R1 C1 s0 s1 n0 n1 x0 x1 W hr0 hr1 hx0 hx1).mono fun e W' ⟨he, hg⟩ => ?_
  subst he
  refine ⟨_, rfl, post_of_below (pa := (p0 ++ (p1 ++ []))) (pv := []) hW' (fun _ _ _ => (trodAll_cons_mk (shut_bool Try.underlying4 _) trodAll_mk0)) (fun sp hsp => (trodAll_cons_mk (WideElems.Trod_stays (P := Try.prog) (by kernel_rfl) (by kernel_rfl) (of_decide_eq_true (by kernel_rfl)) h0k (fun x hx => hg.same (hlt x (by simp [hx]))) (fun x hx => hsp x (by simp [hx]))) (trodAll_cons_mk (WideElems.Trod_stays (P := Try.prog) (by kernel_rfl) (by kernel_rfl) (of_decide_eq_true (by kernel_rfl)) h1k (fun x hx => hg.same (hlt x (by simp [hx]))) (fun x hx => hsp x (by simp [hx]))) trodAll_mk0))) (fun _ _ => rfl) (by simp)
    hg (ok_one (by kernel_rfl) rfl (okWide_bool_mk Try.underlying4 _))⟩

set_option maxRecDepth 100000 in
theorem lifted (os : Os) (started : os.Started) (H : Type) (enc : TypeId × Value → H) (F : Stop.Interp) :
    ReturnsInHanded {} Try.checked os 8 .any ((Rows.OpenSpec.upto Rows.minorsAdjugateSpec).pre6 enc Try.prog Try.f8 Rows.minorsAdjugateUptoRow.domain false) (((Rows.OpenSpec.upto Rows.minorsAdjugateSpec).at F).post enc Try.prog Try.f8 false true false false) := by
  refine returnsInHanded_of_cond (C := Try.checked) (s := Rows.OpenSpec.upto Rows.minorsAdjugateSpec) (k := Rows.uptoSmall) rfl own started (by kernel_rfl) Try.func8
    (OpenSpec.witness (enc := enc) (C := Try.checked) (s := Rows.OpenSpec.upto Rows.minorsAdjugateSpec) (k := Rows.uptoSmall) rfl false ⟨#[], #[.agg #[.int .i64 0, .int .i64 0, .slice none 0 0], .agg #[.int .i64 0, .int .i64 0, .slice none 0 0]], []⟩ 8 (by kernel_rfl) (by kernel_rfl) (by kernel_rfl)
      (x := ([.agg [.lit (.int .i64 0), .lit (.int .i64 0), .nil], .agg [.lit (.int .i64 0), .lit (.int .i64 0), .nil]], [], [])) (by kernel_rfl) rfl (by kernel_rfl)) ?_
  intro W base args ds gs before hval hW _ hk _
  exact contract H enc W base args ds gs before hval hW hk

/-- the statement -/
theorem proved : Rows.MinorsAdjugateUptoSaid :=
  OpenClaim.holds_of_cond 8 Try.f8 rfl rfl rfl rfl rfl rfl rfl ⟨rfl, rfl, rfl, rfl, rfl⟩ rfl rfl rfl rfl rfl (by kernel_rfl) Try.func8 (by kernel_rfl)
    (of_decide_eq_true (by kernel_rfl)) (by unfold Func.isWrapper; first | (rw [if_pos (by decide +kernel)]; kernel_rfl) | (rw [if_neg (by decide +kernel)]; exact ⟨rfl, rfl⟩))
    (fun os started H enc _ F => lifted os started H enc F)
#print axioms proved
end Go.Proofs.Ytejliecmdkmgiaa.minorsAdjugate
