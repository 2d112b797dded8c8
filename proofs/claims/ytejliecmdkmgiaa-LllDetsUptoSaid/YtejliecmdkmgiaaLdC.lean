import Derived.Test.YtejliecmdkmgiaaGAF
import Derived.Test.YtejliecmdkmgiaaGAD
import Derived.Test.YtejliecmdkmgiaaGAE
import Derived.Test.YtejliecmdkmgiaaRows
import Derived.Test.YtejliecmdkmgiaaGH
import Derived.ProofKit
import Derived.OpenShut
import Derived.Carry
import Derived.JoinedCond
set_option linter.unusedVariables false
set_option linter.unusedSimpArgs false
set_option maxHeartbeats 8000000
set_option maxRecDepth 100000
namespace Go.Proofs.Ytejliecmdkmgiaa
open Go.RowKit Go.Shelf
theorem bn_full (R : Nat) : bn R R = 1 := bn_self R
theorem cp_sq {R C : Nat} (A : Nat → Int) : laZ.sm (bn R R * bn C R) (fun q => cpE A R C R q * cpE A R C R q) = grD C R (fun i c => A (i * C + c)) := by
  unfold grD
  rw [gram_sum, bn_full, Nat.one_mul]
  refine laZ.sm_congr fun q hq => ?_
  have e : cpE A R C R q = laZ.dt R (fun i j => A (i * C + setS C R q j)) := by
    unfold cpE
    rw [Nat.div_eq_of_lt hq, Nat.mod_eq_of_lt hq]
    rfl
  rw [e]
theorem sq_zb {m T : Nat} {E : Nat → Int} (hm : m ≤ 64) (hE : ∀ q, q < m → ZB T (E q)) {k : Nat} (hk : k ≤ m) : ZB (T + T + 1) (laZ.sm k (fun j => E j * E j)) := by
  have h := psum_zb (A := E) (B := E) (R := 1) (K := m) (C := 1) (S := T) (T := T) (i := 0) (j := 0) hm (by omega) (by omega) (fun q hq => hE q (by omega)) (fun q hq => hE q (by omega)) hk
  have e : psum E E m 1 0 0 k = laZ.sm k (fun j => E j * E j) := by
    show laZ.sm k (fun t => E (0 * m + t) * E (t * 1 + 0)) = _
    exact laZ.sm_congr fun t _ => by rw [Nat.zero_mul, Nat.zero_add, Nat.mul_one, Nat.add_zero]
  rwa [e] at h
theorem Ld_bad (r c : Int) (a : Option Addr) (n cap : Nat) (hn : n ≤ 17592186044416) (h1 : checkE r c n = 1) (w : World) :
    Calls Try.prog 11 #[.agg #[.int .i64 r, .int .i64 c, .slice a n cap]] w fun e w' => e = .returned (.bool true) ∧ Below w.heap.size w w' := by
  have HG := Lib.hid (fun (u : World) => Gram_bad r c a n cap hn h1 u)
  have HD := Lib.hid (fun (u : World) => Dets_bad r c a n cap hn h1 u)
  have hck := fun (u : World) => Check09_all r c a n cap hn u
  rw [h1] at hck
  have HK := Lib.hid hck
  have HM := Lib.hid (MBox.new w r c (.slice a n cap))
  have HB := Lib.hid (bl_alloc w (.cells #[.int .i64 r, .int .i64 c, .slice a n cap] 24))
  clear hck h1
  have HM_0 := HM.out.m0
  have HM_1 := HM.out.m1
  have HM_2 := HM.out.m2
  go_enter Try.func11, Try.ntmps11
  go_upto_region 1 with fail
  generalize w.alloc (.cells #[.int .i64 r, .int .i64 c, .slice a n cap] 24) = W at *
  clear HM_0 HM_1 HM_2
  go_wp2_with fail
  (refine (awake23_any W).mono ?_)
  rintro e w1 ⟨rfl, hb⟩
  replace HM := Lib.hid (HM.out.below hb)
  replace HB := Lib.hid (below_via HB.out hb)
  clear hb
  go_upto_region 3 with fail
  have HM_0 := HM.out.m0
  have HM_1 := HM.out.m1
  have HM_2 := HM.out.m2
  go_wp2_with fail
  (refine (HG.out w1).mono ?_)
  rintro e w2 ⟨rfl, hb⟩
  have hbx := below_via hb (bl_alloc w2 (.cells #[.int .i64 0, .int .i64 0, .slice none 0 0] 24))
  have HN := Lib.hid (MBox.new w2 0 0 (.slice none 0 0))
  replace HM := Lib.hid (HM.out.below hbx)
  replace HB := Lib.hid (below_via HB.out hbx)
  clear HM_0 HM_1 HM_2
  clear hb hbx HG
  go_upto_region 4 with fail
  obtain ⟨gb, hgb⟩ : ∃ gb, gb = w2.heap.size := ⟨_, rfl⟩
  rw [← hgb] at HN ⊢
  clear hgb
  generalize w2.alloc (.cells #[.int .i64 0, .int .i64 0, .slice none 0 0] 24) = w3 at *
  have HM_0 := HM.out.m0
  have HM_1 := HM.out.m1
  have HM_2 := HM.out.m2
  go_wp2_with fail
  (refine (HD.out w3).mono ?_)
  rintro e w4 ⟨rfl, hb⟩
  replace HM := Lib.hid (HM.out.below hb)
  replace HN := Lib.hid (HN.out.below hb)
  replace HB := Lib.hid (below_via HB.out hb)
  clear HM_0 HM_1 HM_2
  clear hb HD
  have HM_0 := HM.out.m0
  have HM_1 := HM.out.m1
  have HM_2 := HM.out.m2
  go_wp2_with fail
  (refine (HK.out w4).mono ?_)
  rintro e w5 ⟨rfl, hb⟩
  replace HN := Lib.hid (HN.out.below hb)
  replace HB := Lib.hid (below_via HB.out hb)
  clear HM_0 HM_1 HM_2
  clear hb HK HM
  have HN_0 := HN.out.m0
  have HN_1 := HN.out.m1
  have HN_2 := HN.out.m2
  go_wp2_with fail
  (refine (NoMat_yes w5).mono ?_)
  rintro e w6 ⟨rfl, hb⟩
  replace HB := Lib.hid (below_via HB.out hb)
  clear HN_0 HN_1 HN_2
  clear hb HN
  go_wp2_with fail
  refine bodyPost_ret (v := .bool true) ?_ rfl ⟨rfl, HB.out⟩
  simp [results, Try.results11, go_sem]
theorem Ld_good (R C S : Nat) (sl : Value) (A : Nat → Int) (w : World) (hR : R ≤ 64) (hC : C ≤ 64) (hS : S ≤ 1048576) (hr : RdE w sl (R * C) A) (hA : ∀ q, q < R * C → ZB S (A q)) :
    Calls Try.prog 11 #[.agg #[.int .i64 R, .int .i64 C, sl]] w fun e w' => e = .returned (.bool true) ∧ Below w.heap.size w w' := by
  have hmix : Try.prog.follows .mixedOrders = true := by kernel_rfl
  have hK4 : R * C ≤ 4096 := Nat.mul_le_mul hR hC
  have hK5 : C * R ≤ 4096 := Nat.mul_le_mul hC hR
  have hK6 : R * R ≤ 4096 := Nat.mul_le_mul hR hR
  obtain ⟨a, cap, rfl, hcap⟩ := hr.slice
  have hck := fun (u : World) => Check09_all R C a (R * C) cap (by omega) u
  rw [checkE_ok hR hC rfl] at hck
  have hgr := fun (u : World) (hu : Below w.heap.size w u) => Gram_good R C S _ A u hR hC (by omega) (hr.below hu) hA
  have hde := fun (u : World) (hu : Below w.heap.size w u) => Dets_good R C S _ A u hR hC (by omega) (hr.below hu) hA
  have htu := fun (u : World) (hu : Below w.heap.size w u) => Turn_good R C _ A u hR hC (hr.below hu)
  have hmu := fun (u : World) (v : Value) (hu : Below w.heap.size w u) (hv : RdE u v (C * R) (fun q => A (q % R * C + q / R))) => Mul_good R C R S S _ v A _ u hR hC hR (by omega) (hr.below hu) hv hA (turn_zb hA)
  change ∀ u v, Below w.heap.size w u → RdE u v (C * R) (fun q => A (q % R * C + q / R)) → Calls Try.prog 16 _ u fun e w' => ∃ lb, e = _ ∧ FrE w' u.heap.size (fun b => b ≤ lb) lb (R * R) (gmE R C A) ∧ _ at hmu
  have hle := fun (u : World) (v : Value) (hv : RdE u v (R * R) (gmE R C A)) => Leading_good R (S + S + 1) v (gmE R C A) u hR (by omega) hv (gmE_zb hC hA)
  have hlz : ∀ i, i < R + 1 → ZB (64 * (S + S + 1 + 1) + 1) (leadD (gmE R C A) R i) := fun i hi =>
    (dtZ_zb i (fun p q => gmE R C A (p * R + q)) (by omega) (fun p q hp hq => gmE_zb hC hA _ (idx_lt (show p < R by omega) (show q < R by omega) rfl).1)).mono (Nat.succ_le_succ (Nat.mul_le_mul_right _ (by omega)))
  have hnn : ∀ i, i < R + 1 → 0 ≤ leadD (gmE R C A) R i := fun i hi => by rw [lead_gram A (show i ≤ R by omega)]; exact gram_nonneg _ _ _
  have hnx : ∀ i, i < R → leadD (gmE R C A) R i = 0 → leadD (gmE R C A) R (i + 1) = 0 := fun i hi h => by
    rw [lead_gram A (show i ≤ R by omega)] at h
    rw [lead_gram A (show i + 1 ≤ R by omega)]
    exact gram_next _ _ _ h
  have hhi : C < R → leadD (gmE R C A) R R = 0 := fun h => by rw [lead_gram A (Nat.le_refl R)]; exact gram_high _ h
  have hsq : laZ.sm (bn R R * bn C R) (fun q => cpE A R C R q * cpE A R C R q) = leadD (gmE R C A) R R := by rw [lead_gram A (Nat.le_refl R), cp_sq]
  have hcl := fun (u : World) (h1 : R ≤ C) (h2 : 64 < bn C R) => Compound_large R C R a (R * C) cap u (by omega) (by unfold mszE; rw [checkE_ok hR hC rfl, if_pos rfl, if_neg (by omega)]) hR hC (Nat.le_refl R) h1 (Or.inr h2)
  have hcg := fun (u : World) (hu : Below w.heap.size w u) (h1 : R ≤ C) (h2 : bn C R ≤ 64) => Compound_good R C R S _ A u hR hC (Nat.le_refl R) h1 (by rw [bn_full]; omega) h2 (by omega) (hr.below hu) hA
  have hcz := fun (h1 : R ≤ C) => cpE_zb (K := R) (Nat.le_refl R) h1 hR hA
  rw [bn_full, Nat.one_mul] at hcg hcz hsq
  obtain ⟨D, hD⟩ : ∃ D, D = leadD (gmE R C A) R := ⟨_, rfl⟩
  obtain ⟨G, hG⟩ : ∃ G, G = gmE R C A := ⟨_, rfl⟩
  obtain ⟨E, hE⟩ : ∃ E, E = cpE A R C R := ⟨_, rfl⟩
  obtain ⟨T, hT⟩ : ∃ T, T = fun q => A (q % R * C + q / R) := ⟨_, rfl⟩
  rw [← hD] at hde hle hlz hnn hnx hhi hsq
  rw [← hG] at hgr hmu hle
  rw [← hE] at hcg hcz hsq
  rw [← hT] at htu hmu
  obtain ⟨N, hN⟩ : ∃ N, N = R * C := ⟨_, rfl⟩
  obtain ⟨M, hM⟩ : ∃ M, M = C * R := ⟨_, rfl⟩
  obtain ⟨L, hL⟩ : ∃ L, L = R * R := ⟨_, rfl⟩
  obtain ⟨Q, hQ⟩ : ∃ Q, Q = bn C R := ⟨_, rfl⟩
  rw [← hN] at hck hgr hde htu hmu hcl hcg ⊢
  rw [← hM] at htu hmu hK5
  rw [← hL] at hgr hmu hle hK6
  rw [← hQ] at hcl hcg hcz hsq
  obtain ⟨K, hK⟩ : ∃ K, K = R + 1 := ⟨_, rfl⟩
  rw [← hK] at hde hle hlz hnn
  have HCK := Lib.hid hck
  have HGR := Lib.hid hgr
  have HDE := Lib.hid hde
  have HTU := Lib.hid htu
  have HMU := Lib.hid hmu
  have HLE := Lib.hid hle
  have HLZ := Lib.hid hlz
  have HNN := Lib.hid hnn
  have HNX := Lib.hid hnx
  have HHI := Lib.hid hhi
  have HSQ := Lib.hid hsq
  have HCL := Lib.hid hcl
  have HCG := Lib.hid hcg
  have HCZ := Lib.hid hcz
  have HKR := Lib.hid hK
  have HSS := Lib.hid hS
  have wkr : IntKind.i64.wrap ((R : Int) + 1) = (K : Int) := by rw [show (R : Int) + 1 = (K : Int) by omega]; exact IntWalk.i64_in _ (by omega)
  have hK65 : K ≤ 65 := by omega
  have HM := Lib.hid (MBox.new w R C (.slice a N cap))
  have HB := Lib.hid (bl_alloc w (.cells #[.int .i64 R, .int .i64 C, .slice a N cap] 24))
  clear hck hgr hde htu hmu hle hlz hnn hnx hhi hsq hcl hcg hcz hr hA hN hM hL hQ hD hG hE hT hK hS hcap hK4
  have HM_0 := HM.out.m0
  have HM_1 := HM.out.m1
  have HM_2 := HM.out.m2
  go_enter Try.func11, Try.ntmps11
  go_upto_region 1 with fail
  generalize w.alloc (.cells #[.int .i64 R, .int .i64 C, .slice a N cap] 24) = W at *
  clear HM_0 HM_1 HM_2
  go_wp2_with fail
  (refine (awake23_any W).mono ?_)
  rintro e w1 ⟨rfl, hb⟩
  replace HM := Lib.hid (HM.out.below hb)
  replace HB := Lib.hid (below_via HB.out hb)
  clear hb
  go_upto_region 3 with fail
  have HM_0 := HM.out.m0
  have HM_1 := HM.out.m1
  have HM_2 := HM.out.m2
  go_wp2_with fail
  (refine (HGR.out w1 HB.out).mono ?_)
  rintro e w2 ⟨lg, rfl, hf, hb⟩
  have hba := bl_alloc w2 (.cells #[.int .i64 R, .int .i64 R, .slice (some ⟨lg, 0, none⟩) L L] 24)
  have hbx := below_via hb hba
  have HGM := Lib.hid (MBox.new w2 R R (.slice (some ⟨lg, 0, none⟩) L L))
  have HGL := Lib.hid ((hf.lee (Nat.le_refl _) (Nat.le_refl _) (by omega)).below hba)
  replace HM := Lib.hid (HM.out.below hbx)
  replace HB := Lib.hid (below_via HB.out hbx)
  clear HM_0 HM_1 HM_2
  clear hf hb hba hbx HGR
  go_upto_region 4 with fail
  obtain ⟨gb, hgb⟩ : ∃ gb, gb = w2.heap.size := ⟨_, rfl⟩
  rw [← hgb] at HGM ⊢
  clear hgb
  generalize w2.alloc (.cells #[.int .i64 R, .int .i64 R, .slice (some ⟨lg, 0, none⟩) L L] 24) = w3 at *
  have HM_0 := HM.out.m0
  have HM_1 := HM.out.m1
  have HM_2 := HM.out.m2
  go_wp2_with fail
  (refine (HDE.out w3 HB.out).mono ?_)
  rintro e w4 ⟨dv, rfl, ho, hb⟩
  have hdl := ho.lee (by omega) (show 64 * (S + S + 1 + 1) + 1 ≤ 274877906944 by have := HSS.out; omega) HLZ.out
  obtain ⟨da, dc, rfl⟩ := ho.slice
  obtain ⟨db, dO, -, -, rfl, -⟩ := hdl.get (show 0 < K by have := HKR.out; omega)
  have HDL := Lib.hid hdl
  replace HM := Lib.hid (HM.out.below hb)
  replace HGM := Lib.hid (HGM.out.below hb)
  replace HGL := Lib.hid (HGL.out.below hb)
  replace HB := Lib.hid (below_via HB.out hb)
  clear HM_0 HM_1 HM_2
  clear hb ho hdl HDE
  have HM_0 := HM.out.m0
  have HM_1 := HM.out.m1
  have HM_2 := HM.out.m2
  go_wp2_with fail
  (refine (HCK.out w4).mono ?_)
  rintro e w5 ⟨rfl, hb⟩
  replace HM := Lib.hid (HM.out.below hb)
  replace HGM := Lib.hid (HGM.out.below hb)
  replace HGL := Lib.hid (HGL.out.below hb)
  replace HDL := Lib.hid (HDL.out.below hb)
  replace HB := Lib.hid (below_via HB.out hb)
  clear HM_0 HM_1 HM_2
  clear hb HCK
  go_upto_region 9 with fail
  have HM_0 := HM.out.m0
  have HM_1 := HM.out.m1
  have HM_2 := HM.out.m2
  go_wp2_with fail
  (refine (HTU.out w5 HB.out).mono ?_)
  rintro e w6 ⟨lt, rfl, hf, hb⟩
  have hba := bl_alloc w6 (.cells #[.int .i64 C, .int .i64 R, .slice (some ⟨lt, 0, none⟩) M M] 24)
  have hbx := below_via hb hba
  have HTM := Lib.hid (MBox.new w6 C R (.slice (some ⟨lt, 0, none⟩) M M))
  have HTL := Lib.hid ((hf.rd (Nat.le_refl _) (by omega)).below hba)
  replace HM := Lib.hid (HM.out.below hbx)
  replace HGM := Lib.hid (HGM.out.below hbx)
  replace HGL := Lib.hid (HGL.out.below hbx)
  replace HDL := Lib.hid (HDL.out.below hbx)
  replace HB := Lib.hid (below_via HB.out hbx)
  clear HM_0 HM_1 HM_2
  clear hf hb hba hbx HTU
  go_upto_region 10 with fail
  obtain ⟨tb, htb⟩ : ∃ tb, tb = w6.heap.size := ⟨_, rfl⟩
  rw [← htb] at HTM ⊢
  clear htb
  generalize w6.alloc (.cells #[.int .i64 C, .int .i64 R, .slice (some ⟨lt, 0, none⟩) M M] 24) = w7 at *
  have HM_0 := HM.out.m0
  have HM_1 := HM.out.m1
  have HM_2 := HM.out.m2
  have HTM_0 := HTM.out.m0
  have HTM_1 := HTM.out.m1
  have HTM_2 := HTM.out.m2
  go_wp2_with fail
  (refine (HMU.out w7 _ HB.out HTL.out).mono ?_)
  rintro e w8 ⟨lp, rfl, hf, hb⟩
  have hba := bl_alloc w8 (.cells #[.int .i64 R, .int .i64 R, .slice (some ⟨lp, 0, none⟩) L L] 24)
  have hbx := below_via hb hba
  have HPM := Lib.hid (MBox.new w8 R R (.slice (some ⟨lp, 0, none⟩) L L))
  have HPL := Lib.hid ((hf.lee (Nat.le_refl _) (Nat.le_refl _) (by omega)).below hba)
  replace HM := Lib.hid (HM.out.below hbx)
  replace HGM := Lib.hid (HGM.out.below hbx)
  replace HGL := Lib.hid (HGL.out.below hbx)
  replace HDL := Lib.hid (HDL.out.below hbx)
  replace HB := Lib.hid (below_via HB.out hbx)
  clear HM_0 HM_1 HM_2 HTM_0 HTM_1 HTM_2
  clear hf hb hba hbx HMU HTM HTL
  go_upto_region 11 with fail
  obtain ⟨pb, hpb⟩ : ∃ pb, pb = w8.heap.size := ⟨_, rfl⟩
  rw [← hpb] at HPM ⊢
  clear hpb
  generalize w8.alloc (.cells #[.int .i64 R, .int .i64 R, .slice (some ⟨lp, 0, none⟩) L L] 24) = w9 at *
  have HGM_0 := HGM.out.m0
  have HGM_1 := HGM.out.m1
  have HGM_2 := HGM.out.m2
  go_wp2_with fail
  (refine (HLE.out w9 _ HGL.out.rd).mono ?_)
  rintro e w10 ⟨lv, rfl, ho, hb⟩
  have hdl := ho.lee (by omega) (show 64 * (S + S + 1 + 1) + 1 ≤ 274877906944 by have := HSS.out; omega) HLZ.out
  obtain ⟨la, lc, rfl⟩ := ho.slice
  have HLL := Lib.hid hdl
  replace HM := Lib.hid (HM.out.below hb)
  replace HGM := Lib.hid (HGM.out.below hb)
  replace HGL := Lib.hid (HGL.out.below hb)
  replace HDL := Lib.hid (HDL.out.below hb)
  replace HPM := Lib.hid (HPM.out.below hb)
  replace HPL := Lib.hid (HPL.out.below hb)
  replace HB := Lib.hid (below_via HB.out hb)
  clear HGM_0 HGM_1 HGM_2
  clear hb ho hdl HLE
  have HPM_0 := HPM.out.m0
  have HPM_1 := HPM.out.m1
  have HPM_2 := HPM.out.m2
  have HGM_0 := HGM.out.m0
  have HGM_1 := HGM.out.m1
  have HGM_2 := HGM.out.m2
  have HM_0 := HM.out.m0
  have HM_1 := HM.out.m1
  have HM_2 := HM.out.m2
  go_wp2_with fail
  (refine (LikeMat_yes R R _ _ L G w10 HPL.out HGL.out).mono ?_)
  rintro e w11 ⟨rfl, hb⟩
  replace HM := Lib.hid (HM.out.below hb)
  replace HDL := Lib.hid (HDL.out.below hb)
  replace HLL := Lib.hid (HLL.out.below hb)
  replace HB := Lib.hid (below_via HB.out hb)
  clear HPM_0 HPM_1 HPM_2 HGM_0 HGM_1 HGM_2 HM_0 HM_1 HM_2
  clear hb HPM HPL HGM HGL
  have HM_0 := HM.out.m0
  have HM_1 := HM.out.m1
  have HM_2 := HM.out.m2
  go_wp2_with fail
  (refine (LikeRow_yes _ _ K D w11 HLL.out HDL.out).mono ?_)
  rintro e w12 ⟨rfl, hb⟩
  replace HM := Lib.hid (HM.out.below hb)
  replace HDL := Lib.hid (HDL.out.below hb)
  replace HB := Lib.hid (below_via HB.out hb)
  clear HM_0 HM_1 HM_2
  clear hb HLL
  have HM_0 := HM.out.m0
  have HM_1 := HM.out.m1
  have HM_2 := HM.out.m2
  go_wp2_with fail
  go_loopw [13] (fun kv wr => ∃ k : Nat, 1 ≤ k ∧ k ≤ K ∧ kv = .int .i64 k ∧ Below w12.heap.size w12 wr) (fun kv _ => K - (intOf kv).toNat)
  case atStart => exact ⟨1, Nat.le_refl _, by have := HKR.out; omega, rfl, Below.refl _ _⟩
  case round =>
    clear HM_0 HM_1 HM_2
    obtain ⟨k, hk1, hkK, rfl, hbl⟩ := hrel
    by_cases hlt : k < K
    · have hlt1 : (k : Int) < (K : Int) := by omega
      obtain ⟨p, hp⟩ : ∃ p, k = p + 1 := ⟨k - 1, by omega⟩
      have v1 : IntKind.i64.wrap ((k : Int) - 1) = (p : Int) := by rw [show (k : Int) - 1 = (p : Int) by omega]; exact IntWalk.i64_in _ (by omega)
      have v2 : IntKind.i64.wrap ((k : Int) + 1) = (k : Int) + 1 := IntWalk.i64_in _ (by omega)
      have hpK : (p : Int) < (K : Int) := by omega
      have hk0 : (0 : Int) ≤ (k : Int) := by omega
      have hp0 : (0 : Int) ≤ (p : Int) := by omega
      obtain ⟨b1, o1, s1, m1, e1, c0, c1, c2⟩ := (HDL.out.below hbl).get hlt
      simp only [Option.some.injEq, Addr.mk.injEq, true_and, and_true] at e1
      obtain ⟨rfl, rfl⟩ := e1
      obtain ⟨b2, o2, s2, m2, e2, d0, d1, d2⟩ := (HDL.out.below hbl).get (show p < K by omega)
      simp only [Option.some.injEq, Addr.mk.injEq, true_and, and_true] at e2
      obtain ⟨rfl, rfl⟩ := e2
      obtain ⟨a1, n1, p1, rfl⟩ := c2.agg
      obtain ⟨a2, n2, p2, rfl⟩ := d2.agg
      have hz1 := HNN.out k hlt
      have hz2 := HNN.out p (by omega)
      have hnx := HNX.out p (by have := HKR.out; omega)
      rw [← hp] at hnx
      obtain ⟨g1, hg1⟩ : ∃ g, g = sgZ (D k) := ⟨_, rfl⟩
      obtain ⟨g2, hg2⟩ : ∃ g, g = sgZ (D p) := ⟨_, rfl⟩
      have hs1 : ¬ g1 < 0 := by rw [hg1]; unfold sgZ; (repeat' split) <;> omega
      have hs2 : ¬ g2 = 0 ∨ (g2 = 0 ∧ g1 = 0) := by
        by_cases h : D p = 0
        · right
          rw [hg1, hg2, h, hnx h]
          exact ⟨rfl, rfl⟩
        · left
          rw [hg2]; unfold sgZ; rw [if_neg h]; split <;> omega
      have HC2 := Lib.hid c2.1
      have HD2 := Lib.hid d2.1
      have HG1 := Lib.hid hg1
      have HG2 := Lib.hid hg2
      have HS2 := Lib.hid hs2
      have HBL := Lib.hid hbl
      clear hp c2 d2 hz1 hz2 hnx hg1 hg2 hs2 hbl
      go_wp2_with fail
      (refine (zSign_any _ (D k) wr HC2.out).mono ?_)
      rintro e w13 ⟨rfl, hb⟩
      rw [← HG1.out]
      replace HC2 := Lib.hid (HC2.out.below hb)
      replace HD2 := Lib.hid (HD2.out.below hb)
      replace HBL := Lib.hid (below_via HBL.out hb)
      replace c0 := cell_stays hb c0
      replace c1 := cell_stays hb c1
      replace d0 := cell_stays hb d0
      replace d1 := cell_stays hb d1
      clear hb
      go_wp2_with fail
      (refine (zSign_any _ (D p) w13 HD2.out).mono ?_)
      rintro e w14 ⟨rfl, hb⟩
      rw [← HG2.out]
      replace HC2 := Lib.hid (HC2.out.below hb)
      replace HBL := Lib.hid (below_via HBL.out hb)
      replace c0 := cell_stays hb c0
      replace c1 := cell_stays hb c1
      clear hb HD2 d0 d1
      rcases HS2.out with h | ⟨h, h3⟩
      · clear HS2 HC2 HG1 HG2
        go_wp2_with fail
        go_roundw
        case rel => exact ⟨k + 1, by omega, by omega, by go_num, HBL.out⟩
        case measure => simp [intOf]; omega
      · clear HS2
        go_wp2_with fail
        (refine (zSign_any _ (D k) w14 HC2.out).mono ?_)
        rintro e w15 ⟨rfl, hb⟩
        rw [← HG1.out]
        replace HBL := Lib.hid (below_via HBL.out hb)
        clear hb HC2 HG1 HG2 c0 c1
        go_wp2_with fail
        go_roundw
        case rel => exact ⟨k + 1, by omega, by omega, by go_num, HBL.out⟩
        case measure => simp [intOf]; omega
    · obtain rfl : k = K := by omega
      have hbx := hbl
      replace HM := Lib.hid (HM.out.below hbx)
      replace HDL := Lib.hid (HDL.out.below hbx)
      replace HB := Lib.hid (below_via HB.out hbx)
      have hRK : (R : Int) < (k : Int) := by have := HKR.out; omega
      have hR0 : (0 : Int) ≤ (R : Int) := by omega
      obtain ⟨b1, o1, s1, m1, e1, c0, c1, c2⟩ := HDL.out.get (show R < k by omega)
      simp only [Option.some.injEq, Addr.mk.injEq, true_and, and_true] at e1
      obtain ⟨rfl, rfl⟩ := e1
      obtain ⟨a1, n1, p1, rfl⟩ := c2.agg
      have HC2 := Lib.hid c2
      clear hbl hbx c2 HDL
      have HM_0 := HM.out.m0
      have HM_1 := HM.out.m1
      have HM_2 := HM.out.m2
      by_cases hRC : C < R
      · have hRC1 : (C : Int) < (R : Int) := by omega
        have hd0 := HHI.out hRC
        have hsg : sgZ (D R) = 0 := by rw [hd0]; rfl
        have HSG := Lib.hid hsg
        clear hd0 hsg hRC
        go_wp2_with fail
        (refine (zSign_any _ (D R) wr HC2.out.1).mono ?_)
        rintro e w13 ⟨rfl, hb⟩
        rw [HSG.out]
        replace HB := Lib.hid (below_via HB.out hb)
        clear HM_0 HM_1 HM_2
        clear hb HC2 HM c0 c1
        go_wp2_with fail
        refine bodyPost_ret (v := .bool true) ?_ rfl ⟨rfl, HB.out⟩
        simp [results, Try.results11, go_sem]
      · have hRC1 : ¬ (C : Int) < (R : Int) := by omega
        have HRC := Lib.hid (show R ≤ C by omega)
        clear hRC
        by_cases hq : 64 < Q
        · have HCC := Lib.hid (HCL.out wr HRC.out hq)
          clear hq
          go_wp2_with fail
          (refine HCC.out.mono ?_)
          rintro e w13 ⟨rfl, hb⟩
          have hbx := below_via hb (bl_alloc w13 (.cells #[.int .i64 0, .int .i64 0, .slice none 0 0] 24))
          replace HB := Lib.hid (below_via HB.out hbx)
          clear HM_0 HM_1 HM_2
          clear hb hbx HCC HC2 HM c0 c1
          go_upto_region 22 with fail
          generalize w13.alloc (.cells #[.int .i64 0, .int .i64 0, .slice none 0 0] 24) = w14 at *
          refine region_early (fun u => True) 17 [0, 1, 2, 3, 4, 5, 6, 7, 8, 9, 10, 11, 12, 13, 14, 15, 16] 1 hmix (by kernel_rfl) rfl (by kernel_rfl) (fun _ _ d _ _ h => by cases d <;> exact h) trivial ?_
          iterate 3 (refine early_take rfl (by rfl) ?_; apply Exists.intro; refine ⟨fun u hu => ?_, ?_⟩; (go_simp; rfl); simp only [Act.put, List.getElem_toArray, List.getElem_cons_zero, List.getElem_cons_succ, List.setIfInBounds_toArray, List.set_cons_zero, List.set_cons_succ])
          iterate 13 (refine early_skip rfl (by rfl) ?_; simp only [Act.put, List.getElem_toArray, List.getElem_cons_zero, List.getElem_cons_succ, List.setIfInBounds_toArray, List.set_cons_zero, List.set_cons_succ])
          iterate 1 (refine early_take rfl (by rfl) ?_; apply Exists.intro; refine ⟨fun u hu => ?_, ?_⟩; (go_simp; rfl); simp only [Act.put, List.getElem_toArray, List.getElem_cons_zero, List.getElem_cons_succ, List.setIfInBounds_toArray, List.set_cons_zero, List.set_cons_succ])
          refine early_done ?_
          simp only [marked]
          refine anyL_one (i := 17) (by kernel_rfl) rfl (by rfl) fun J hJ => ?_
          go_simp
          refine hJ _ _ (fun e => absurd e (by decide)) ?_
          clear hJ J
          refine anyL_done (by kernel_rfl) ?_ _
          have HBD := Lib.hid (below_via HB.out (bl_drew w14))
          go_wp2_with fail
          refine bodyPost_ret (v := .bool true) ?_ rfl ⟨rfl, HBD.out⟩
          simp [results, Try.results11, go_sem]
        · have hQ64 : Q ≤ 64 := by omega
          have HCC := Lib.hid (HCG.out wr HB.out HRC.out hQ64)
          have hzz := HCZ.out HRC.out
          have hzz' : ∀ q, q < Q → ZB (64 * (S + 1) + 1) (E q) := hzz
          have HZZ := Lib.hid hzz'
          clear hq hzz hzz'
          go_wp2_with fail
          (refine HCC.out.mono ?_)
          rintro e w13 ⟨mv, rfl, ho, hb⟩
          have hdl := ho.lee (by omega) (show 64 * (S + 1) + 1 ≤ 274877906944 by have := HSS.out; omega) HZZ.out
          obtain ⟨ma, mc, rfl⟩ := ho.slice
          have hba := bl_alloc w13 (.cells #[.int .i64 1, .int .i64 (Q : Int), .slice ma Q mc] 24)
          have hbx := below_via hb hba
          have HCM := Lib.hid (MBox.new w13 1 (Q : Int) (.slice ma Q mc))
          have HCE := Lib.hid (hdl.below hba)
          replace HM := Lib.hid (HM.out.below hbx)
          replace HC2 := Lib.hid (HC2.out.below hbx)
          replace HB := Lib.hid (below_via HB.out hbx)
          replace c0 := cell_stays hbx c0
          replace c1 := cell_stays hbx c1
          clear HM_0 HM_1 HM_2
          clear hb hba hbx ho hdl HCC
          go_upto_region 22 with fail
          obtain ⟨cb, hcb⟩ : ∃ cb, cb = w13.heap.size := ⟨_, rfl⟩
          rw [← hcb] at HCM ⊢
          clear hcb
          generalize w13.alloc (.cells #[.int .i64 1, .int .i64 (Q : Int), .slice ma Q mc] 24) = w14 at *
          have x0 := HM.out.m0
          have k2 := HCM.out.m2
          have HSK := Lib.hid (fun (u : World) (hu : Below w14.heap.size w14 u) => (show u.cell? ⟨w.heap.size, 0, none⟩ = some (.int .i64 R) ∧ u.cell? ⟨cb, 2, none⟩ = some (.slice ma Q mc) ∧ u.cell? ⟨db, dO + R * 2, none⟩ = some (.bool s1) ∧ u.cell? ⟨db, dO + R * 2 + 1, none⟩ = some (.slice a1 n1 p1) from ⟨cell_stays hu x0, cell_stays hu k2, cell_stays hu c0, cell_stays hu c1⟩))
          refine region_early (fun u => u.cell? ⟨w.heap.size, 0, none⟩ = some (.int .i64 R) ∧ u.cell? ⟨cb, 2, none⟩ = some (.slice ma Q mc) ∧ u.cell? ⟨db, dO + R * 2, none⟩ = some (.bool s1) ∧ u.cell? ⟨db, dO + R * 2 + 1, none⟩ = some (.slice a1 n1 p1)) 17 [0, 1, 2, 3, 4, 5, 6, 7, 9, 10, 11, 12, 13] 5 hmix (by kernel_rfl) rfl (by kernel_rfl) (fun _ _ d _ _ h => by cases d <;> exact h) ⟨x0, k2, c0, c1⟩ ?_
          iterate 13 (refine early_take rfl (by rfl) ?_; apply Exists.intro; refine ⟨fun u hu => ?_, ?_⟩; (obtain ⟨u_1, u_2, u_3, u_4⟩ := hu; go_simp; rfl); simp only [Act.put, List.getElem_toArray, List.getElem_cons_zero, List.getElem_cons_succ, List.setIfInBounds_toArray, List.set_cons_zero, List.set_cons_succ])
          refine early_done ?_
          simp only [marked]
          clear x0 k2 c0 c1
          refine anyL_one (i := 8) (by kernel_rfl) rfl (by rfl) fun J hJ => ?_
          go_simp
          refine (square_good _ Q (64 * (S + 1) + 1 + (64 * (S + 1) + 1) + 1) E w14.drew (HCE.out.rd.below (bl_drew _)) (by have := HSS.out; omega) (fun i hi => ((HZZ.out i hi).mul (HZZ.out i hi)).mono (by omega)) (fun i hi => sq_zb hQ64 HZZ.out hi)).mono ?_
          rintro e w15 ⟨v, rfl, hf, hb⟩
          rw [HSQ.out] at hf
          have HBW := Lib.hid (below_via (bl_drew w14) hb)
          have hS := HSK.out _ HBW.out
          refine hJ _ _ (fun _ => hS) ?_
          have HV := Lib.hid hf.least
          clear hJ J hf hb hS
          refine anyL_one (i := 14) (by kernel_rfl) rfl (by rfl) fun J hJ => ?_
          go_simp
          refine (Like_yes _ _ (D R) w15 HV.out (RdL1.below HC2.out.2 HBW.out)).mono ?_
          rintro e w16 ⟨rfl, hb⟩
          replace HBW := Lib.hid (below_via HBW.out hb)
          have hS := HSK.out _ HBW.out
          refine hJ _ _ (fun _ => hS) ?_
          replace HB := Lib.hid (below_via HB.out HBW.out)
          clear hJ J hb HV HC2 HSK HBW HM HCM HCE
          refine anyL_yield (i := 15) rfl (by kernel_rfl) (by kernel_rfl) (by kernel_rfl) (by kernel_rfl) (fun _ _ d _ _ h => by cases d <;> exact h) (by rfl) hS ?_
          apply Exists.intro
          refine ⟨fun u => ?_, ?_⟩
          · go_simp
            rfl
          simp only [Act.put, List.getElem_toArray, List.getElem_cons_zero, List.getElem_cons_succ, List.setIfInBounds_toArray, List.set_cons_zero, List.set_cons_succ]
          refine anyL_yield (i := 16) rfl (by kernel_rfl) (by kernel_rfl) (by kernel_rfl) (by kernel_rfl) (fun _ _ d _ _ h => by cases d <;> exact h) (by rfl) hS ?_
          apply Exists.intro
          refine ⟨fun u => ?_, ?_⟩
          · go_simp
            rfl
          simp only [Act.put, List.getElem_toArray, List.getElem_cons_zero, List.getElem_cons_succ, List.setIfInBounds_toArray, List.set_cons_zero, List.set_cons_succ]
          refine anyL_one (i := 17) (by kernel_rfl) rfl (by rfl) fun J hJ => ?_
          go_simp
          refine hJ _ _ (fun e => absurd e (by decide)) ?_
          clear hJ J
          refine anyL_done (by kernel_rfl) ?_ _
          clear hS
          go_wp2_with fail
          refine bodyPost_ret (v := .bool true) ?_ rfl ⟨rfl, HB.out⟩
          simp [results, Try.results11, go_sem]
end Go.Proofs.Ytejliecmdkmgiaa
namespace Go.Proofs.Ytejliecmdkmgiaa
open Go.RowKit Go.Shelf
theorem Ld_law (r c : Int) (s : Value) (n : Nat) (x : Nat → Raw) (w : World) (hr : RdL w s n x) (hx : ∀ i, i < n → (x i).n ≤ 1048576) :
    Calls Try.prog 11 #[.agg #[.int .i64 r, .int .i64 c, s]] w fun e w' => e = .returned (.bool true) ∧ Below w.heap.size w w' := by
  obtain ⟨a, cap, rfl, hcap, hn, -⟩ := id hr
  rcases check_cases r c n with h | ⟨R, C, rfl, rfl, hR, hC, rfl⟩
  · exact Ld_bad r c a n cap (by omega) h w
  · have hK4 : R * C ≤ 4096 := Nat.mul_le_mul hR hC
    exact Ld_good R C 1048576 _ _ w hR hC (Nat.le_refl _) (hr.rde (by omega) (fun i hi => by have := hx i hi; omega)) (hr.zbs hx)
end Go.Proofs.Ytejliecmdkmgiaa
namespace Go.Proofs.Ytejliecmdkmgiaa.lllDets
open Go.ChangeShapes Go.WideShapes Go.ChangeAt Go.RowKit
theorem own : ownKnob Try.prog.godebug = none := by kernel_rfl
theorem contract (H : Type) (enc : TypeId × Value → H) (W : World) (base : Nat) (args : Array Value) (ds gs : List (DataW H)) (before : List MemPlace)
    (hval : ∀ (j : Nat) t v, Try.f11.params[j]? = some t → args[j]? = some v → Value.okWide Try.prog W .any base t v)
    (hW : DataW.Whole enc Try.prog Try.f11.params.toList Rows.lllDetsSpec.vars false W args.toList ds gs before) (hk : Rows.uptoSmall H (ds ++ gs) = true) :
    Calls Try.prog 11 args W fun e W' => ∃ v, e = .returned v ∧ Rows.lllDetsSpec.post enc Try.prog Try.f11 false true false false W args v W' := by
  have hW' := hW
  have hlt : ∀ x ∈ before, x.block < W.heap.size := fun x hx => hW.lt x hx
  obtain ⟨p, q, hA0, hV, rfl, hfz, hnd⟩ := hW
  have hA : DataW.TrodAll enc Try.prog W 0 (fun _ => true) true Try.f11.params.toList args.toList ds p := hA0
  rw [Try.params11] at hA hval
  obtain ⟨v0, vs0, d0, ds0, p0, q0, hargs, rfl, rfl, h0, r0⟩ := trodAll_cons hA
  obtain ⟨rfl, rfl, rfl⟩ := trodAll_nil r0
  obtain rfl : args = #[v0] := by cases args; simp_all
  obtain ⟨rfl, rfl⟩ := trodVars_none hV
  have h0k := h0
  clear hA0
  simp only [List.append_nil] at hW' hk hlt
  have hbk : Rows.uptoBulkAll [d0] ≤ 1048576 := of_decide_eq_true hk
  simp only [Rows.uptoBulkAll] at hbk
  obtain ⟨R0, C0, s0, n0, x0, rfl, hr0, hn0, hx0, -, -⟩ := open_mat (B := 1048576) (hval 0 24 v0 rfl rfl) h0 (by omega) (by omega)
  refine (Ld_law R0 C0 s0 n0 x0 W hr0 hx0).mono fun e W' ⟨he, hg⟩ => ?_
  subst he
  refine ⟨_, rfl, post_of_below (pa := (p0 ++ [])) (pv := []) hW' (fun _ _ _ => (trodAll_cons_mk (shut_bool Try.underlying4 _) trodAll_mk0)) (fun sp hsp => (trodAll_cons_mk (WideElems.Trod_stays (P := Try.prog) (by kernel_rfl) (by kernel_rfl) (of_decide_eq_true (by kernel_rfl)) h0k (fun x hx => hg.same (hlt x (by simp [hx]))) (fun x hx => hsp x (by simp [hx]))) trodAll_mk0)) (fun _ _ => rfl) (by simp)
    hg (ok_one (by kernel_rfl) rfl (okWide_bool_mk Try.underlying4 _))⟩
theorem lifted (os : Os) (started : os.Started) (H : Type) (enc : TypeId × Value → H) (F : Stop.Interp) :
    ReturnsInHanded {} Try.checked os 11 .any ((Rows.OpenSpec.upto Rows.lllDetsSpec).pre6 enc Try.prog Try.f11 Rows.lllDetsUptoRow.domain false) (((Rows.OpenSpec.upto Rows.lllDetsSpec).at F).post enc Try.prog Try.f11 false true false false) := by
  refine returnsInHanded_of_cond (C := Try.checked) (s := Rows.OpenSpec.upto Rows.lllDetsSpec) (k := Rows.uptoSmall) rfl own started (by kernel_rfl) Try.func11
    (OpenSpec.witness (enc := enc) (C := Try.checked) (s := Rows.OpenSpec.upto Rows.lllDetsSpec) (k := Rows.uptoSmall) rfl false ⟨#[], #[.agg #[.int .i64 0, .int .i64 0, .slice none 0 0]], []⟩ 8 (by kernel_rfl) (by kernel_rfl) (by kernel_rfl)
      (x := ([.agg [.lit (.int .i64 0), .lit (.int .i64 0), .nil]], [], [])) (by kernel_rfl) rfl (by kernel_rfl)) ?_
  intro W base args ds gs before hval hW _ hk _
  exact contract H enc W base args ds gs before hval hW hk
theorem proved : Rows.LllDetsUptoSaid :=
  OpenClaim.holds_of_cond 11 Try.f11 rfl rfl rfl rfl rfl rfl rfl ⟨rfl, rfl, rfl, rfl, rfl⟩ rfl rfl rfl rfl rfl (by kernel_rfl) Try.func11 (by kernel_rfl)
    (of_decide_eq_true (by kernel_rfl)) (by unfold Func.isWrapper; first | (rw [if_pos (by decide +kernel)]; kernel_rfl) | (rw [if_neg (by decide +kernel)]; exact ⟨rfl, rfl⟩))
    (fun os started H enc _ F => lifted os started H enc F)
#print axioms proved
end Go.Proofs.Ytejliecmdkmgiaa.lllDets
