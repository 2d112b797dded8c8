/- The walk of the law MinorsCompound where it answers a matrix. The law MinorsCompound for all matrices and numbers. 'MinorsCompound', where what it reads is of bulk at most 1,048,576: for every matrix a and number k the law returns true and its arguments read as before. -/
import Derived.Test.YtejliecmdkmgiaaGAE
import Derived.Test.YtejliecmdkmgiaaRows
import Derived.Test.YtejliecmdkmgiaaGH
import Derived.ProofKit
import Derived.OpenShut
import Derived.Carry
import Derived.JoinedCond
set_option linter.unusedVariables false
set_option linter.unusedSimpArgs false
namespace Go.Proofs.Ytejliecmdkmgiaa
open Go.RowKit Go.Shelf

set_option maxHeartbeats 8000000 in
set_option maxRecDepth 100000 in
theorem Cm_good (R C K S : Nat) (sl : Value) (A : Nat → Int) (w : World) (hR : R ≤ 64) (hC : C ≤ 64) (hKR : K ≤ R) (hKC : K ≤ C) (hrb : bn R K ≤ 64) (hcb : bn C K ≤ 64) (hS : S ≤ 1048576) (hr : RdE w sl (R * C) A) (hA : ∀ q, q < R * C → ZB S (A q)) :
    Calls Try.prog 9 #[.agg #[.int .i64 R, .int .i64 C, sl], .int .i64 K] w fun e w' => e = .returned (.bool true) ∧ Below w.heap.size w w' := by
  have hmix : Try.prog.follows .mixedOrders = true := by kernel_rfl
  have hK4 : R * C ≤ 4096 := Nat.mul_le_mul hR hC
  have hK5 : bn R K * bn C K ≤ 4096 := Nat.mul_le_mul hrb hcb
  have hK64 : K ≤ 64 := by omega
  obtain ⟨a, cap, rfl, hcap⟩ := hr.slice
  have h0 := checkE_ok hR hC (n := R * C) rfl
  have hck := fun (u : World) => Check09_all R C a (R * C) cap (by omega) u
  rw [h0] at hck
  have hcp := fun (u : World) (hu : Below w.heap.size w u) => Compound_good R C K S _ A u hR hC hKR hKC hrb hcb (by omega) (hr.below hu) hA
  have hmi := fun (u : World) (t j : Nat) (rv cv : Value) (hu : Below w.heap.size w u) (ht : t < bn R K) (hj : j < bn C K) (h1 : RdI64 u rv K (setS R K t)) (h2 : RdI64 u cv K (setS C K j)) => by
    have := Minor_good R C K S _ rv cv (setS C K j) (setS R K t) A u hR hC (by omega) (by omega) (fun i hi => setS_lt hKR (no_last hKR ht) hi) (fun i hi => setS_lt hKC (no_last hKC hj) hi) (hr.below hu) hA h1 h2
    rw [← cpE_at hj] at this
    exact this
  have hez := cpE_zb hKR hKC (by omega) hA
  have hlow := fun (u : World) (hu : Below w.heap.size w u) => mLeast_good R C _ A u hR hC (hr.below hu)
  have hs1 := fun (u : World) => Sets14_all K R u hR hKR (by omega)
  have hs2 := fun (u : World) => Sets14_all K C u hC hKC (by omega)
  have hsr := fun (u : World) => size14_good R K u hR hKR
  have hsc := fun (u : World) => size14_good C K u hC hKC
  have hone : K = 1 → bn R K = R ∧ bn C K = C ∧ ∀ q, q < R * C → cpE A R C K q = A q := fun e => by subst e; exact ⟨bn_one R, bn_one C, cpE_one hKR hKC⟩
  have hnone : K = 0 → bn R K = 1 ∧ bn C K = 1 ∧ ∀ q, cpE A R C K q = 1 := fun e => by subst e; exact ⟨bn_zero R, bn_zero C, fun q => cpE_none q⟩
  have hpp := bn_pos hKR
  have hqq := bn_pos hKC
  obtain ⟨E, hE⟩ : ∃ E, E = cpE A R C K := ⟨_, rfl⟩
  obtain ⟨P, hP⟩ : ∃ P, P = bn R K := ⟨_, rfl⟩
  obtain ⟨Q, hQ⟩ : ∃ Q, Q = bn C K := ⟨_, rfl⟩
  rw [← hE] at hcp hmi hez hone hnone
  rw [← hP] at hcp hmi hez hs1 hsr hone hnone hpp hrb hK5
  rw [← hQ] at hcp hmi hez hs2 hsc hone hnone hqq hcb hK5
  obtain ⟨m, hm⟩ : ∃ m, m = P * Q := ⟨_, rfl⟩
  obtain ⟨N, hN⟩ : ∃ N, N = R * C := ⟨_, rfl⟩
  rw [← hm] at hcp hez hK5
  rw [← hN] at hck hcp hmi hlow hone hK4 ⊢
  obtain ⟨r, hrr⟩ : ∃ r : Int, r = R := ⟨_, rfl⟩
  obtain ⟨c, hcc⟩ : ∃ c : Int, c = C := ⟨_, rfl⟩
  obtain ⟨k, hk⟩ : ∃ k : Int, k = K := ⟨_, rfl⟩
  rw [← hrr] at hck hcp hmi hlow hs1 hsr ⊢
  rw [← hcc] at hck hcp hmi hlow hs2 hsc ⊢
  rw [← hk] at hcp hs1 hs2 hsr hsc ⊢
  have l1 : ¬ k < 0 := by omega
  have l2 : ¬ r < k := by omega
  have l3 : ¬ c < k := by omega
  have l4 : ¬ (64 : Int) < (P : Int) := by omega
  have l5 : ¬ (64 : Int) < (Q : Int) := by omega
  have hlm := fun (u : World) (v : Value) (hv : LeE u v (P * Q) E) => LeastMat_yes P Q v E u hrb hcb hv
  rw [← hm] at hlm
  have HCK := Lib.hid hck
  have HCP := Lib.hid hcp
  have HMI := Lib.hid hmi
  have HEZ := Lib.hid hez
  have HLOW := Lib.hid hlow
  have HS1 := Lib.hid hs1
  have HS2 := Lib.hid hs2
  have HSR := Lib.hid hsr
  have HSC := Lib.hid hsc
  have HLM := Lib.hid hlm
  have HON := Lib.hid hone
  have HNO := Lib.hid hnone
  have HPQ := Lib.hid hm
  have HPP := Lib.hid hpp
  have HQQ := Lib.hid hqq
  have HRR := Lib.hid hrr
  have HCC := Lib.hid hcc
  have HKK := Lib.hid hk
  have HM5 := Lib.hid hK5
  have HNN := Lib.hid hN
  have HT := Lib.hid (show 64 * (S + 1) + 1 ≤ 274877906944 by omega)
  clear hck hcp hmi hez hlow hs1 hs2 hsr hsc hone hnone hlm hm hN hE hP hQ hrr hcc hk h0 hr hA hcap hpp hqq hKR hKC hS hK5
  have HM := Lib.hid (MBox.new w r c (.slice a N cap))
  have HB := Lib.hid (bl_alloc w (.cells #[.int .i64 r, .int .i64 c, .slice a N cap] 24))
  have HM_0 := HM.out.m0
  have HM_1 := HM.out.m1
  have HM_2 := HM.out.m2
  go_enter Try.func9, Try.ntmps9
  go_upto_region 1 with fail
  generalize w.alloc (.cells #[.int .i64 r, .int .i64 c, .slice a N cap] 24) = W at *
  clear HM_0 HM_1 HM_2
  go_wp2_with fail
  (refine (awake14_any W).mono ?_)
  rintro e w1 ⟨rfl, hb⟩
  replace HM := Lib.hid (HM.out.below hb)
  replace HB := Lib.hid (below_via HB.out hb)
  clear hb
  go_upto_region 3 with fail
  have HM_0 := HM.out.m0
  have HM_1 := HM.out.m1
  have HM_2 := HM.out.m2
  go_wp2_with fail
  (refine (HCP.out w1 HB.out).mono ?_)
  rintro e w2 ⟨mv, rfl, ho, hb⟩
  obtain ⟨ma, mc, rfl⟩ := ho.slice
  have hle := ho.lee (by have := HM5.out; omega) HT.out HEZ.out
  have hm0 : 0 < m := by rw [HPQ.out]; exact Nat.mul_pos HPP.out HQQ.out
  obtain ⟨b1, o1, -, -, rfl, -⟩ := hle.get hm0
  have hba := bl_alloc w2 (.cells #[.int .i64 (P : Int), .int .i64 (Q : Int), .slice (some ⟨b1, o1, none⟩) m mc] 24)
  have hbx := below_via hb hba
  have HCM := Lib.hid (MBox.new w2 (P : Int) (Q : Int) (.slice (some ⟨b1, o1, none⟩) m mc))
  have HCL := Lib.hid (hle.below hba)
  replace HM := Lib.hid (HM.out.below hbx)
  replace HB := Lib.hid (below_via HB.out hbx)
  clear HM_0 HM_1 HM_2
  clear hb hba hbx ho hle HCP
  go_upto_region 4 with fail
  obtain ⟨cb, hcb⟩ : ∃ cb, cb = w2.heap.size := ⟨_, rfl⟩
  rw [← hcb] at HCM ⊢
  clear hcb
  generalize w2.alloc (.cells #[.int .i64 (P : Int), .int .i64 (Q : Int), .slice (some ⟨b1, o1, none⟩) m mc] 24) = w3 at *
  have HM_0 := HM.out.m0
  have HM_1 := HM.out.m1
  have HM_2 := HM.out.m2
  go_wp2_with fail
  (refine (HCK.out w3).mono ?_)
  rintro e w4 ⟨rfl, hb⟩
  replace HM := Lib.hid (HM.out.below hb)
  replace HCM := Lib.hid (HCM.out.below hb)
  replace HCL := Lib.hid (HCL.out.below hb)
  replace HB := Lib.hid (below_via HB.out hb)
  clear HM_0 HM_1 HM_2
  clear hb HCK
  have HM_0 := HM.out.m0
  have HM_1 := HM.out.m1
  have HM_2 := HM.out.m2
  go_wp2_with fail
  (refine (HSR.out w4).mono ?_)
  rintro e w5 ⟨rfl, hb⟩
  replace HM := Lib.hid (HM.out.below hb)
  replace HCM := Lib.hid (HCM.out.below hb)
  replace HCL := Lib.hid (HCL.out.below hb)
  replace HB := Lib.hid (below_via HB.out hb)
  clear HM_0 HM_1 HM_2
  clear hb
  have HM_0 := HM.out.m0
  have HM_1 := HM.out.m1
  have HM_2 := HM.out.m2
  go_wp2_with fail
  (refine (HSC.out w5).mono ?_)
  rintro e w6 ⟨rfl, hb⟩
  replace HM := Lib.hid (HM.out.below hb)
  replace HCM := Lib.hid (HCM.out.below hb)
  replace HCL := Lib.hid (HCL.out.below hb)
  replace HB := Lib.hid (below_via HB.out hb)
  clear HM_0 HM_1 HM_2
  clear hb
  go_upto_region 10 with fail
  clear l1 l2 l3 l4 l5
  have HM_0 := HM.out.m0
  have HM_1 := HM.out.m1
  have HM_2 := HM.out.m2
  have HCM_0 := HCM.out.m0
  have HCM_1 := HCM.out.m1
  have HCM_2 := HCM.out.m2
  have HSK := Lib.hid (fun (u : World) (hu : Below w6.heap.size w6 u) => (show u.cell? ⟨w.heap.size, 0, none⟩ = some (.int .i64 r) ∧ u.cell? ⟨w.heap.size, 1, none⟩ = some (.int .i64 c) ∧ u.cell? ⟨cb, 0, none⟩ = some (.int .i64 (P : Int)) ∧ u.cell? ⟨cb, 1, none⟩ = some (.int .i64 (Q : Int)) ∧ u.cell? ⟨cb, 2, none⟩ = some (.slice (some ⟨b1, o1, none⟩) m mc) from ⟨cell_stays hu HM_0, cell_stays hu HM_1, cell_stays hu HCM_0, cell_stays hu HCM_1, cell_stays hu HCM_2⟩))
  refine region_early (fun u => u.cell? ⟨w.heap.size, 0, none⟩ = some (.int .i64 r) ∧ u.cell? ⟨w.heap.size, 1, none⟩ = some (.int .i64 c) ∧ u.cell? ⟨cb, 0, none⟩ = some (.int .i64 (P : Int)) ∧ u.cell? ⟨cb, 1, none⟩ = some (.int .i64 (Q : Int)) ∧ u.cell? ⟨cb, 2, none⟩ = some (.slice (some ⟨b1, o1, none⟩) m mc)) 25 [0, 1, 2, 3, 4, 5, 6, 7] 17 hmix (by kernel_rfl) rfl (by kernel_rfl) (fun _ _ d _ _ h => by cases d <;> exact h) ⟨HM_0, HM_1, HCM_0, HCM_1, HCM_2⟩ ?_
  iterate 8 (refine early_take rfl (by rfl) ?_; apply Exists.intro; refine ⟨fun u hu => ?_, ?_⟩; (obtain ⟨u_1, u_2, u_3, u_4, u_5⟩ := hu; go_simp; rfl); simp only [Act.put, List.getElem_toArray, List.getElem_cons_zero, List.getElem_cons_succ, List.setIfInBounds_toArray, List.set_cons_zero, List.set_cons_succ])
  refine early_done ?_
  simp only [marked]
  clear HM_0 HM_1 HM_2 HCM_0 HCM_1 HCM_2
  have HBW := Lib.hid (bl_drew w6)
  refine anyL_one (i := 8) (by kernel_rfl) rfl (by rfl) fun J hJ => ?_
  go_simp
  refine (HSR.out w6.drew).mono ?_
  rintro e w7 ⟨rfl, hb⟩
  replace HBW := Lib.hid (below_via HBW.out hb)
  have hS := HSK.out _ HBW.out
  refine hJ _ _ (fun _ => hS) ?_
  clear hJ J hb HSR
  refine anyL_yield (i := 9) rfl (by kernel_rfl) (by kernel_rfl) (by kernel_rfl) (by kernel_rfl) (fun _ _ d _ _ h => by cases d <;> exact h) (by rfl) hS ?_
  apply Exists.intro
  refine ⟨fun u => ?_, ?_⟩
  · go_simp
    rfl
  simp only [Act.put, List.getElem_toArray, List.getElem_cons_zero, List.getElem_cons_succ, List.setIfInBounds_toArray, List.set_cons_zero, List.set_cons_succ]
  refine anyL_yield (i := 10) rfl (by kernel_rfl) (by kernel_rfl) (by kernel_rfl) (by kernel_rfl) (fun _ _ d _ _ h => by cases d <;> exact h) (by rfl) hS ?_
  apply Exists.intro
  refine ⟨fun u => ?_, ?_⟩
  · go_simp
    rfl
  simp only [Act.put, List.getElem_toArray, List.getElem_cons_zero, List.getElem_cons_succ, List.setIfInBounds_toArray, List.set_cons_zero, List.set_cons_succ]
  refine anyL_yield (i := 11) rfl (by kernel_rfl) (by kernel_rfl) (by kernel_rfl) (by kernel_rfl) (fun _ _ d _ _ h => by cases d <;> exact h) (by rfl) hS ?_
  apply Exists.intro
  refine ⟨fun u => ?_, ?_⟩
  · go_simp
    rfl
  simp only [Act.put, List.getElem_toArray, List.getElem_cons_zero, List.getElem_cons_succ, List.setIfInBounds_toArray, List.set_cons_zero, List.set_cons_succ]
  refine anyL_yield (i := 12) rfl (by kernel_rfl) (by kernel_rfl) (by kernel_rfl) (by kernel_rfl) (fun _ _ d _ _ h => by cases d <;> exact h) (by rfl) hS ?_
  apply Exists.intro
  refine ⟨fun u => ?_, ?_⟩
  · go_simp
    rfl
  simp only [Act.put, List.getElem_toArray, List.getElem_cons_zero, List.getElem_cons_succ, List.setIfInBounds_toArray, List.set_cons_zero, List.set_cons_succ]
  refine anyL_read (i := 13) rfl (by kernel_rfl) (by kernel_rfl) (by kernel_rfl) (by kernel_rfl) (fun _ _ d _ _ h => by cases d <;> exact h) (by rfl) hS ?_
  apply Exists.intro
  refine ⟨fun u hu => ?_, ?_⟩
  · obtain ⟨u_1, u_2, u_3, u_4, u_5⟩ := hu
    go_simp
    rfl
  simp only [Act.put, List.getElem_toArray, List.getElem_cons_zero, List.getElem_cons_succ, List.setIfInBounds_toArray, List.set_cons_zero, List.set_cons_succ]
  refine anyL_yield (i := 14) rfl (by kernel_rfl) (by kernel_rfl) (by kernel_rfl) (by kernel_rfl) (fun _ _ d _ _ h => by cases d <;> exact h) (by rfl) hS ?_
  apply Exists.intro
  refine ⟨fun u => ?_, ?_⟩
  · go_simp
    rfl
  simp only [Act.put, List.getElem_toArray, List.getElem_cons_zero, List.getElem_cons_succ, List.setIfInBounds_toArray, List.set_cons_zero, List.set_cons_succ]
  refine anyL_read (i := 15) rfl (by kernel_rfl) (by kernel_rfl) (by kernel_rfl) (by kernel_rfl) (fun _ _ d _ _ h => by cases d <;> exact h) (by rfl) hS ?_
  apply Exists.intro
  refine ⟨fun u hu => ?_, ?_⟩
  · obtain ⟨u_1, u_2, u_3, u_4, u_5⟩ := hu
    go_simp
    rfl
  simp only [Act.put, List.getElem_toArray, List.getElem_cons_zero, List.getElem_cons_succ, List.setIfInBounds_toArray, List.set_cons_zero, List.set_cons_succ]
  refine anyL_yield (i := 16) rfl (by kernel_rfl) (by kernel_rfl) (by kernel_rfl) (by kernel_rfl) (fun _ _ d _ _ h => by cases d <;> exact h) (by rfl) hS ?_
  apply Exists.intro
  refine ⟨fun u => ?_, ?_⟩
  · go_simp
    rfl
  simp only [Act.put, List.getElem_toArray, List.getElem_cons_zero, List.getElem_cons_succ, List.setIfInBounds_toArray, List.set_cons_zero, List.set_cons_succ]
  refine anyL_one (i := 17) (by kernel_rfl) rfl (by rfl) fun J hJ => ?_
  go_simp
  refine (HSC.out w7).mono ?_
  rintro e w8 ⟨rfl, hb⟩
  replace HBW := Lib.hid (below_via HBW.out hb)
  clear hS
  have hS := HSK.out _ HBW.out
  refine hJ _ _ (fun _ => hS) ?_
  clear hJ J hb HSC
  refine anyL_yield (i := 18) rfl (by kernel_rfl) (by kernel_rfl) (by kernel_rfl) (by kernel_rfl) (fun _ _ d _ _ h => by cases d <;> exact h) (by rfl) hS ?_
  apply Exists.intro
  refine ⟨fun u => ?_, ?_⟩
  · go_simp
    rfl
  simp only [Act.put, List.getElem_toArray, List.getElem_cons_zero, List.getElem_cons_succ, List.setIfInBounds_toArray, List.set_cons_zero, List.set_cons_succ]
  refine anyL_yield (i := 19) rfl (by kernel_rfl) (by kernel_rfl) (by kernel_rfl) (by kernel_rfl) (fun _ _ d _ _ h => by cases d <;> exact h) (by rfl) hS ?_
  apply Exists.intro
  refine ⟨fun u => ?_, ?_⟩
  · go_simp
    rfl
  simp only [Act.put, List.getElem_toArray, List.getElem_cons_zero, List.getElem_cons_succ, List.setIfInBounds_toArray, List.set_cons_zero, List.set_cons_succ]
  refine anyL_yield (i := 20) rfl (by kernel_rfl) (by kernel_rfl) (by kernel_rfl) (by kernel_rfl) (fun _ _ d _ _ h => by cases d <;> exact h) (by rfl) hS ?_
  apply Exists.intro
  refine ⟨fun u => ?_, ?_⟩
  · go_simp
    rfl
  simp only [Act.put, List.getElem_toArray, List.getElem_cons_zero, List.getElem_cons_succ, List.setIfInBounds_toArray, List.set_cons_zero, List.set_cons_succ]
  refine anyL_read (i := 21) rfl (by kernel_rfl) (by kernel_rfl) (by kernel_rfl) (by kernel_rfl) (fun _ _ d _ _ h => by cases d <;> exact h) (by rfl) hS ?_
  apply Exists.intro
  refine ⟨fun u hu => ?_, ?_⟩
  · obtain ⟨u_1, u_2, u_3, u_4, u_5⟩ := hu
    go_simp
    rfl
  simp only [Act.put, List.getElem_toArray, List.getElem_cons_zero, List.getElem_cons_succ, List.setIfInBounds_toArray, List.set_cons_zero, List.set_cons_succ]
  refine anyL_one (i := 22) (by kernel_rfl) rfl (by rfl) fun J hJ => ?_
  go_simp
  refine (HLM.out w8 _ (HCL.out.below HBW.out)).mono ?_
  rintro e w9 ⟨rfl, hb⟩
  replace HBW := Lib.hid (below_via HBW.out hb)
  clear hS
  have hS := HSK.out _ HBW.out
  refine hJ _ _ (fun _ => hS) ?_
  clear hJ J hb HLM HSK
  refine anyL_yield (i := 23) rfl (by kernel_rfl) (by kernel_rfl) (by kernel_rfl) (by kernel_rfl) (fun _ _ d _ _ h => by cases d <;> exact h) (by rfl) hS ?_
  apply Exists.intro
  refine ⟨fun u => ?_, ?_⟩
  · go_simp
    rfl
  simp only [Act.put, List.getElem_toArray, List.getElem_cons_zero, List.getElem_cons_succ, List.setIfInBounds_toArray, List.set_cons_zero, List.set_cons_succ]
  refine anyL_yield (i := 24) rfl (by kernel_rfl) (by kernel_rfl) (by kernel_rfl) (by kernel_rfl) (fun _ _ d _ _ h => by cases d <;> exact h) (by rfl) hS ?_
  apply Exists.intro
  refine ⟨fun u => ?_, ?_⟩
  · go_simp
    rfl
  simp only [Act.put, List.getElem_toArray, List.getElem_cons_zero, List.getElem_cons_succ, List.setIfInBounds_toArray, List.set_cons_zero, List.set_cons_succ]
  refine anyL_done (by kernel_rfl) ?_ _
  clear hS
  have hbw := HBW.out
  replace HM := Lib.hid (HM.out.below hbw)
  replace HCM := Lib.hid (HCM.out.below hbw)
  replace HCL := Lib.hid (HCL.out.below hbw)
  replace HB := Lib.hid (below_via HB.out hbw)
  clear hbw HBW
  go_upto_region 13 with fail
  have HM_0 := HM.out.m0
  have HM_1 := HM.out.m1
  have HM_2 := HM.out.m2
  go_wp2_with fail
  (refine (HS1.out w9).mono ?_)
  rintro e w10 ⟨hb, v1, rfl, hw1⟩
  obtain ⟨g1, cp1, -, rfl, -, -, -⟩ := hw1.get hK64 HPP.out
  replace HM := Lib.hid (HM.out.below hb)
  replace HCM := Lib.hid (HCM.out.below hb)
  replace HCL := Lib.hid (HCL.out.below hb)
  replace HB := Lib.hid (below_via HB.out hb)
  have HW1 := Lib.hid hw1
  clear HM_0 HM_1 HM_2
  clear hb hw1 HS1
  go_wp2_with fail
  go_loopw [7, 89] (fun av tv wr => ∃ t p : Nat, t ≤ P ∧ p = t * Q ∧ tv = .int .i64 t ∧ av = .int .i64 p ∧ Below w10.heap.size w10 wr) (fun _ tv _ => P - (intOf tv).toNat)
  case atStart => exact ⟨0, 0, Nat.zero_le _, (Nat.zero_mul _).symm, rfl, rfl, Below.refl _ _⟩
  case round =>
    obtain ⟨t, p, ht, hp, rfl, rfl, hbl⟩ := hrel
    by_cases htP : t < P
    · have ht1 : (t : Int) < (P : Int) := by omega
      obtain ⟨g, cp, u, e, hc, ⟨ua, ul, uc, rfl⟩, hru⟩ := (HW1.out.below hbl).get hK64 htP
      simp only [Value.slice.injEq, Option.some.injEq, Addr.mk.injEq, true_and, and_true] at e
      obtain ⟨rfl, rfl⟩ := e
      have HBL := Lib.hid hbl
      have HP := Lib.hid hp
      have HRU := Lib.hid hru
      have HMR := Lib.hid (HM.out.below hbl)
      clear hbl hp hru
      have HMR_0 := HMR.out.m0
      have HMR_1 := HMR.out.m1
      have HMR_2 := HMR.out.m2
      go_wp2_with fail
      (refine (HS2.out wr).mono ?_)
      rintro e w11 ⟨hb, v2, rfl, hw2⟩
      obtain ⟨g2, cp2, -, rfl, -, -, -⟩ := hw2.get hK64 HQQ.out
      replace HBL := Lib.hid (below_via HBL.out hb)
      replace HRU := Lib.hid (RdI64.below HRU.out hb)
      have HW2 := Lib.hid hw2
      clear HMR_0 HMR_1 HMR_2
      clear hb hw2 hc HMR
      go_wp2_with fail
      go_loopw [7, 98] (fun av jv wr => ∃ j q : Nat, j ≤ Q ∧ q = p + j ∧ jv = .int .i64 j ∧ av = .int .i64 q ∧ Below w11.heap.size w11 wr) (fun _ jv _ => Q - (intOf jv).toNat)
      case atStart => exact ⟨0, p, Nat.zero_le _, rfl, rfl, rfl, Below.refl _ _⟩
      case round =>
        obtain ⟨j, q, hj, hq, rfl, rfl, hbl⟩ := hrel
        by_cases hjQ : j < Q
        · have hj1 : (j : Int) < (Q : Int) := by omega
          have hqm : q < m := by
            have := (idx_lt htP hjQ rfl).1
            rw [hq, HP.out, HPQ.out]; exact this
          have hqm1 : (q : Int) < (m : Int) := by omega
          have hq0 : (0 : Int) ≤ (q : Int) := by omega
          obtain ⟨g', cp', u2, e2, hc2, ⟨va, vl, vc, rfl⟩, hrv⟩ := (HW2.out.below hbl).get hK64 hjQ
          simp only [Value.slice.injEq, Option.some.injEq, Addr.mk.injEq, true_and, and_true] at e2
          obtain ⟨rfl, rfl⟩ := e2
          have hbw := below_via HBL.out hbl
          have hba := below_via HB.out hbw
          have hmc := HMI.out wr t j _ _ hba htP hjQ (RdI64.below HRU.out hbl) hrv
          rw [← HP.out, ← hq] at hmc
          obtain ⟨z, hz⟩ : ∃ z, z = E q := ⟨_, rfl⟩
          rw [← hz] at hmc
          have HMC := Lib.hid hmc
          have HZZ := Lib.hid hz
          have HMR := Lib.hid (HM.out.below hbw)
          have HCR := Lib.hid (HCM.out.below hbw)
          have HLR := Lib.hid (HCL.out.below hbw)
          have HBI := Lib.hid hbl
          have HQP := Lib.hid hq
          clear hbl hrv hbw hba hmc hz hq
          have HMR_0 := HMR.out.m0
          have HMR_1 := HMR.out.m1
          have HMR_2 := HMR.out.m2
          go_wp2_with fail
          (refine HMC.out.mono ?_)
          rintro e w12 ⟨v, rfl, hf, hb⟩
          obtain ⟨am, an, ac, rfl, -⟩ := hf.agg
          have hba := bl_alloc w12 (.cells #[.bool (decide (z < 0)), .slice am an ac] 49)
          have hbx := below_via hb hba
          obtain ⟨y0, y1, -, -⟩ := two_cells w12 (.bool (decide (z < 0))) (.slice am an ac) 49
          have HX := Lib.hid (hf.least.below hba)
          obtain ⟨b2, o2, s2, m2, e3, c0, c1, c3⟩ := (HLR.out.below hbx).get hqm
          simp only [Option.some.injEq, Addr.mk.injEq, true_and, and_true] at e3
          obtain ⟨rfl, rfl⟩ := e3
          obtain ⟨a2, n2, p2, rfl⟩ := c3.agg
          rw [← HZZ.out] at c3
          have HY := Lib.hid c3.2
          have k2 := (HCR.out.below hbx).m2
          replace HBI := Lib.hid (below_via HBI.out hbx)
          clear HMR_0 HMR_1 HMR_2
          clear hf hb hba hbx c3 HMC HMR HCR HLR hc2
          go_upto_region 20 with fail
          obtain ⟨xb, hxb⟩ : ∃ xb, xb = w12.heap.size := ⟨_, rfl⟩
          rw [← hxb] at y0 y1 ⊢
          clear hxb
          generalize w12.alloc (.cells #[.bool (decide (z < 0)), .slice am an ac] 49) = w13 at *
          have HSK := Lib.hid (fun (u : World) (hu : Below w13.heap.size w13 u) => (show u.cell? ⟨cb, 2, none⟩ = some (.slice (some ⟨b1, o1, none⟩) m mc) ∧ u.cell? ⟨xb, 0, none⟩ = some (.bool (decide (z < 0))) ∧ u.cell? ⟨xb, 1, none⟩ = some (.slice am an ac) ∧ u.cell? ⟨b1, o1 + q * 2, none⟩ = some (.bool s2) ∧ u.cell? ⟨b1, o1 + q * 2 + 1, none⟩ = some (.slice a2 n2 p2) from ⟨cell_stays hu k2, cell_stays hu y0, cell_stays hu y1, cell_stays hu c0, cell_stays hu c1⟩))
          refine region_early (fun u => u.cell? ⟨cb, 2, none⟩ = some (.slice (some ⟨b1, o1, none⟩) m mc) ∧ u.cell? ⟨xb, 0, none⟩ = some (.bool (decide (z < 0))) ∧ u.cell? ⟨xb, 1, none⟩ = some (.slice am an ac) ∧ u.cell? ⟨b1, o1 + q * 2, none⟩ = some (.bool s2) ∧ u.cell? ⟨b1, o1 + q * 2 + 1, none⟩ = some (.slice a2 n2 p2)) 19 [0, 1, 2, 3, 4, 5, 6, 7, 8, 9, 10, 11, 12, 13, 14, 15] 3 hmix (by kernel_rfl) rfl (by kernel_rfl) (fun _ _ d _ _ h => by cases d <;> exact h) ⟨k2, y0, y1, c0, c1⟩ ?_
          iterate 7 (refine early_take rfl (by rfl) ?_; apply Exists.intro; refine ⟨fun u hu => ?_, ?_⟩; (obtain ⟨u_1, u_2, u_3, u_4, u_5⟩ := hu; go_simp; rfl); simp only [Act.put, List.getElem_toArray, List.getElem_cons_zero, List.getElem_cons_succ, List.setIfInBounds_toArray, List.set_cons_zero, List.set_cons_succ])
          refine early_take rfl (by rfl) ?_
          refine ⟨.bool false, fun u hu => ?_, ?_⟩
          · obtain ⟨u_1, u_2, u_3, u_4, u_5⟩ := hu
            go_simp
            first | done | rfl | omega | (simp; omega) | simp_all
          simp only [Act.put, List.getElem_toArray, List.getElem_cons_zero, List.getElem_cons_succ, List.setIfInBounds_toArray, List.set_cons_zero, List.set_cons_succ]
          iterate 8 (refine early_take rfl (by rfl) ?_; apply Exists.intro; refine ⟨fun u hu => ?_, ?_⟩; (obtain ⟨u_1, u_2, u_3, u_4, u_5⟩ := hu; go_simp; rfl); simp only [Act.put, List.getElem_toArray, List.getElem_cons_zero, List.getElem_cons_succ, List.setIfInBounds_toArray, List.set_cons_zero, List.set_cons_succ])
          refine early_done ?_
          simp only [marked]
          refine anyL_one (i := 16) (by kernel_rfl) rfl (by rfl) fun J hJ => ?_
          go_simp
          refine (Like_yes _ _ z w13.drew (HX.out.below (bl_drew _)) (RdL1.below HY.out (bl_drew _))).mono ?_
          rintro e w14 ⟨rfl, hb⟩
          have hb' := below_via (bl_drew w13) hb
          have hS := HSK.out _ hb'
          refine hJ _ _ (fun _ => hS) ?_
          replace HBI := Lib.hid (below_via HBI.out hb')
          clear hJ J hb hb' HX HY HSK k2 y0 y1 c0 c1
          refine anyL_yield (i := 17) rfl (by kernel_rfl) (by kernel_rfl) (by kernel_rfl) (by kernel_rfl) (fun _ _ d _ _ h => by cases d <;> exact h) (by rfl) hS ?_
          apply Exists.intro
          refine ⟨fun u => ?_, ?_⟩
          · go_simp
            rfl
          simp only [Act.put, List.getElem_toArray, List.getElem_cons_zero, List.getElem_cons_succ, List.setIfInBounds_toArray, List.set_cons_zero, List.set_cons_succ]
          refine anyL_yield (i := 18) rfl (by kernel_rfl) (by kernel_rfl) (by kernel_rfl) (by kernel_rfl) (fun _ _ d _ _ h => by cases d <;> exact h) (by rfl) hS ?_
          apply Exists.intro
          refine ⟨fun u => ?_, ?_⟩
          · go_simp
            rfl
          simp only [Act.put, List.getElem_toArray, List.getElem_cons_zero, List.getElem_cons_succ, List.setIfInBounds_toArray, List.set_cons_zero, List.set_cons_succ]
          refine anyL_done (by kernel_rfl) ?_ _
          clear hS
          have v1 : IntKind.i64.wrap ((q : Int) + 1) = (q : Int) + 1 := IntWalk.i64_in _ (by have := HM5.out; omega)
          have v2 : IntKind.i64.wrap ((j : Int) + 1) = (j : Int) + 1 := IntWalk.i64_in _ (by omega)
          go_wp2_with fail
          go_roundw
          case rel => exact ⟨j + 1, q + 1, by omega, by have := HQP.out; omega, by go_num, by go_num, HBI.out⟩
          case measure => simp [intOf]; omega
        · obtain rfl : j = Q := by omega
          have HB3 := Lib.hid (below_via HBL.out hbl)
          have v2 : IntKind.i64.wrap ((t : Int) + 1) = (t : Int) + 1 := IntWalk.i64_in _ (by omega)
          have HQP := Lib.hid hq
          clear hbl hq
          go_wp2_with fail
          go_roundw
          case rel => exact ⟨t + 1, q, by omega, by rw [HQP.out, HP.out, Nat.add_mul, Nat.one_mul], by go_num, rfl, HB3.out⟩
          case measure => simp [intOf]; omega
    · obtain rfl : t = P := by omega
      obtain rfl : p = m := by rw [hp, HPQ.out]
      have hbx := hbl
      replace HM := Lib.hid (HM.out.below hbx)
      replace HCM := Lib.hid (HCM.out.below hbx)
      replace HCL := Lib.hid (HCL.out.below hbx)
      replace HB := Lib.hid (below_via HB.out hbx)
      clear hbl hbx hp HW1 HS2
      have HM_0 := HM.out.m0
      have HM_1 := HM.out.m1
      have HM_2 := HM.out.m2
      go_wp2_with fail
      (refine (HLOW.out wr HB.out).mono ?_)
      rintro e w15 ⟨ll, rfl, hf, hb⟩
      have hba := bl_alloc w15 (.cells #[.int .i64 r, .int .i64 c, .slice (some ⟨ll, 0, none⟩) N N] 24)
      have hbx := below_via hb hba
      have HLO := Lib.hid (MBox.new w15 r c (.slice (some ⟨ll, 0, none⟩) N N))
      have HLL := Lib.hid ((hf.lee (Nat.le_refl _) (Nat.le_refl _) (by omega)).below hba)
      clear HM_0 HM_1 HM_2
      replace HCM := Lib.hid (HCM.out.below hbx)
      replace HCL := Lib.hid (HCL.out.below hbx)
      replace HB := Lib.hid (below_via HB.out hbx)
      clear hf hb hba hbx HLOW HM
      go_upto_region 26 with fail
      obtain ⟨lb, hlb⟩ : ∃ lb, lb = w15.heap.size := ⟨_, rfl⟩
      rw [← hlb] at HLO ⊢
      clear hlb
      generalize w15.alloc (.cells #[.int .i64 r, .int .i64 c, .slice (some ⟨ll, 0, none⟩) N N] 24) = w16 at *
      by_cases hk0 : K = 0
      · obtain ⟨e1, e2, e3⟩ := HNO.out hk0
        have hkz : k = 0 := by rw [HKK.out, hk0]; rfl
        have hm1 : p = 1 := by rw [HPQ.out, e1, e2]
        obtain ⟨b2, o2, s2, m2, e4, c0, c1, c3⟩ := HCL.out.get (show 0 < p by omega)
        simp only [Option.some.injEq, Addr.mk.injEq, true_and, and_true] at e4
        obtain ⟨rfl, rfl⟩ := e4
        obtain ⟨a2, n2, p2, rfl⟩ := c3.agg
        rw [e3 0] at c3
        have HY := Lib.hid c3.2
        simp only [Nat.zero_mul, Nat.add_zero] at c0 c1
        have k2 := HCM.out.m2
        have hpi : (p : Int) = 1 := by omega
        have hp1 : (0 : Int) < (p : Int) := by omega
        clear e1 e2 e3 c3 hm1 hk0 HCM HCL HLO HLL
        go_upto_region 27 with fail
        have HSK := Lib.hid (fun (u : World) (hu : Below w16.heap.size w16 u) => (show u.cell? ⟨cb, 2, none⟩ = some (.slice (some ⟨b1, o1, none⟩) p mc) ∧ u.cell? ⟨b1, o1, none⟩ = some (.bool s2) ∧ u.cell? ⟨b1, o1 + 1, none⟩ = some (.slice a2 n2 p2) from ⟨cell_stays hu k2, cell_stays hu c0, cell_stays hu c1⟩))
        refine region_early (fun u => u.cell? ⟨cb, 2, none⟩ = some (.slice (some ⟨b1, o1, none⟩) p mc) ∧ u.cell? ⟨b1, o1, none⟩ = some (.bool s2) ∧ u.cell? ⟨b1, o1 + 1, none⟩ = some (.slice a2 n2 p2)) 10 [0, 1, 2, 3, 4, 5, 6] 4 hmix (by kernel_rfl) rfl (by kernel_rfl) (fun _ _ d _ _ h => by cases d <;> exact h) ⟨k2, c0, c1⟩ ?_
        iterate 1 (refine early_take rfl (by rfl) ?_; apply Exists.intro; refine ⟨fun u hu => ?_, ?_⟩; (obtain ⟨u_1, u_2, u_3⟩ := hu; go_simp; rfl); simp only [Act.put, List.getElem_toArray, List.getElem_cons_zero, List.getElem_cons_succ, List.setIfInBounds_toArray, List.set_cons_zero, List.set_cons_succ])
        refine early_take rfl (by rfl) ?_
        refine ⟨.bool true, fun u hu => ?_, ?_⟩
        · obtain ⟨u_1, u_2, u_3⟩ := hu
          go_simp
          first | done | rfl | omega | (simp; omega) | simp_all
        simp only [Act.put, List.getElem_toArray, List.getElem_cons_zero, List.getElem_cons_succ, List.setIfInBounds_toArray, List.set_cons_zero, List.set_cons_succ]
        iterate 5 (refine early_take rfl (by rfl) ?_; apply Exists.intro; refine ⟨fun u hu => ?_, ?_⟩; (obtain ⟨u_1, u_2, u_3⟩ := hu; go_simp; rfl); simp only [Act.put, List.getElem_toArray, List.getElem_cons_zero, List.getElem_cons_succ, List.setIfInBounds_toArray, List.set_cons_zero, List.set_cons_succ])
        refine early_done ?_
        simp only [marked]
        refine anyL_one (i := 7) (by kernel_rfl) rfl (by rfl) fun J hJ => ?_
        go_simp
        refine (zOf_fr 1 (by omega) (by omega) w16.drew).mono ?_
        rintro e w17 ⟨v, rfl, hf, hb⟩
        have hb' := below_via (bl_drew w16) hb
        have hS := HSK.out _ hb'
        refine hJ _ _ (fun _ => hS) ?_
        have HBI := Lib.hid hb'
        have HV := Lib.hid hf.least
        clear hJ J hb hb' hS hf k2 c0 c1
        refine anyL_one (i := 8) (by kernel_rfl) rfl (by rfl) fun J hJ => ?_
        go_simp
        refine (Like_yes _ _ 1 w17 (RdL1.below HY.out HBI.out) HV.out).mono ?_
        rintro e w18 ⟨rfl, hb⟩
        have hb' := below_via HBI.out hb
        have hS := HSK.out _ hb'
        refine hJ _ _ (fun _ => hS) ?_
        replace HB := Lib.hid (below_via HB.out hb')
        clear hJ J hb hb' HSK HBI HV HY
        refine anyL_yield (i := 9) rfl (by kernel_rfl) (by kernel_rfl) (by kernel_rfl) (by kernel_rfl) (fun _ _ d _ _ h => by cases d <;> exact h) (by rfl) hS ?_
        apply Exists.intro
        refine ⟨fun u => ?_, ?_⟩
        · go_simp
          rfl
        simp only [Act.put, List.getElem_toArray, List.getElem_cons_zero, List.getElem_cons_succ, List.setIfInBounds_toArray, List.set_cons_zero, List.set_cons_succ]
        refine anyL_one (i := 10) (by kernel_rfl) rfl (by rfl) fun J hJ => ?_
        go_simp
        refine hJ _ _ (fun e => absurd e (by decide)) ?_
        clear hJ J
        refine anyL_done (by kernel_rfl) ?_ _
        clear hS
        go_wp2_with fail
        refine bodyPost_ret (v := .bool true) ?_ rfl ⟨rfl, HB.out⟩
        simp [results, Try.results9, go_sem]
      · have hk1 : ¬ k = 0 := by rw [HKK.out]; omega
        by_cases hk2 : K = 1
        · obtain ⟨e1, e2, e3⟩ := HON.out hk2
          have hkz : k = 1 := by rw [HKK.out, hk2]; rfl
          have hmN : p = N := by rw [HPQ.out, e1, e2, HNN.out]
          have hPr : (t : Int) = r := by rw [e1, HRR.out]
          have hQc : (Q : Int) = c := by rw [e2, HCC.out]
          rw [hPr, hQc] at HCM
          obtain rfl := hmN
          have HCE := Lib.hid (HCL.out.congr (fun q hq => e3 q hq))
          clear e1 e2 e3 hPr hQc hk2 hk0 hk1 HCL
          have HCM_0 := HCM.out.m0
          have HCM_1 := HCM.out.m1
          have HCM_2 := HCM.out.m2
          have HLO_0 := HLO.out.m0
          have HLO_1 := HLO.out.m1
          have HLO_2 := HLO.out.m2
          go_wp2_with fail
          (refine (LikeMat_yes r c _ _ p A w16 HCE.out HLL.out).mono ?_)
          rintro e w17 ⟨rfl, hb⟩
          replace HB := Lib.hid (below_via HB.out hb)
          clear HCM_0 HCM_1 HCM_2 HLO_0 HLO_1 HLO_2
          clear hb HCM HLO HLL HCE
          go_wp2_with fail
          refine bodyPost_ret (v := .bool true) ?_ rfl ⟨rfl, HB.out⟩
          simp [results, Try.results9, go_sem]
        · have hk3 : 1 < k := by rw [HKK.out]; omega
          have x2 := HCM.out.m2
          clear HCM HCL HLO HLL hk0 hk2
          go_wp2_with fail
          refine bodyPost_ret (v := .bool true) ?_ rfl ⟨rfl, HB.out⟩
          simp [results, Try.results9, go_sem]
end Go.Proofs.Ytejliecmdkmgiaa

namespace Go.Proofs.Ytejliecmdkmgiaa
open Go.RowKit Go.Shelf

theorem Cm_law (r c : Int) (s : Value) (n : Nat) (x : Nat → Raw) (k : Int) (w : World) (hr : RdL w s n x) (hx : ∀ i, i < n → (x i).n ≤ 1048576) :
    Calls Try.prog 9 #[.agg #[.int .i64 r, .int .i64 c, s], .int .i64 k] w fun e w' => e = .returned (.bool true) ∧ Below w.heap.size w w' := by
  obtain ⟨a, cap, rfl, hcap, hn, -⟩ := id hr
  rcases check_cases r c n with h | ⟨R, C, rfl, rfl, hR, hC, rfl⟩
  · exact Cm_bad r c a n cap k (by omega) h w
  · have hK4 : R * C ≤ 4096 := Nat.mul_le_mul hR hC
    have k1 := checkE_ok hR hC (n := R * C) rfl
    by_cases hk : k < 0 ∨ (R : Int) < k ∨ (C : Int) < k
    · exact Cm_arg R C a (R * C) cap k (by omega) k1 hk w
    · obtain ⟨K, rfl⟩ : ∃ K : Nat, k = K := ⟨k.toNat, by omega⟩
      by_cases hl : 64 < bn R K ∨ 64 < bn C K
      · exact Cm_large R C K a (R * C) cap w rfl hR hC (by omega) (by omega) hl
      · exact Cm_good R C K 1048576 _ _ w hR hC (by omega) (by omega) (by omega) (by omega) (Nat.le_refl _) (hr.rde (by omega) (fun i hi => by have := hx i hi; omega)) (hr.zbs hx)
end Go.Proofs.Ytejliecmdkmgiaa

namespace Go.Proofs.Ytejliecmdkmgiaa.minorsCompound
open Go.ChangeShapes Go.WideShapes Go.ChangeAt Go.RowKit

theorem own : ownKnob Try.prog.godebug = none := by kernel_rfl

set_option maxRecDepth 100000 in
theorem contract (H : Type) (enc : TypeId × Value → H) (W : World) (base : Nat) (args : Array Value) (ds gs : List (DataW H)) (before : List MemPlace)
    (hval : ∀ (j : Nat) t v, Try.f9.params[j]? = some t → args[j]? = some v → Value.okWide Try.prog W .any base t v)
    (hW : DataW.Whole enc Try.prog Try.f9.params.toList Rows.minorsCompoundSpec.vars false W args.toList ds gs before) (hk : Rows.uptoSmall H (ds ++ gs) = true) :
    Calls Try.prog 9 args W fun e W' => ∃ v, e = .returned v ∧ Rows.minorsCompoundSpec.post enc Try.prog Try.f9 false true false false W args v W' := by
  have hW' := hW
  have hlt : ∀ x ∈ before, x.block < W.heap.size := fun x hx => hW.lt x hx
  obtain ⟨p, q, hA0, hV, rfl, hfz, hnd⟩ := hW
  have hA : DataW.TrodAll enc Try.prog W 0 (fun _ => true) true Try.f9.params.toList args.toList ds p := hA0
  rw [Try.params9] at hA hval
  obtain ⟨v0, vs0, d0, ds0, p0, q0, hargs, rfl, rfl, h0, r0⟩ := trodAll_cons hA
  obtain ⟨v1, vs1, d1, ds1, p1, q1, rfl, rfl, rfl, h1, r1⟩ := trodAll_cons r0
  obtain ⟨rfl, rfl, rfl⟩ := trodAll_nil r1
  obtain rfl : args = #[v0, v1] := by cases args; simp_all
  obtain ⟨rfl, rfl⟩ := trodVars_none hV
  have h0k := h0
  obtain ⟨k1, rfl, rfl, rfl, wk1⟩ := open_int Try.underlying3 (hval 1 3 v1 rfl rfl) h1
  clear hA0
  simp only [List.append_nil] at hW' hk hlt
  have hbk : Rows.uptoBulkAll [d0, DataW.lit (.int .i64 k1)] ≤ 1048576 := of_decide_eq_true hk
  simp only [Rows.uptoBulkAll] at hbk
  obtain ⟨R0, C0, s0, n0, x0, rfl, hr0, hn0, hx0, -, -⟩ := open_mat (B := 1048576) (hval 0 24 v0 rfl rfl) h0 (by omega) (by omega)
  have bk1 : -9223372036854775808 ≤ k1 ∧ k1 ≤ 9223372036854775807 := by simp [Lit.wf, IntKind.min, IntKind.max, IntKind.signed, IntKind.bits] at wk1; omega
  refine (Cm_law R0 C0 s0 n0 x0 k1 W hr0 hx0).mono fun e W' ⟨he, hg⟩ => ?_
  subst he
  refine ⟨_, rfl, post_of_below (pa := (p0 ++ ([] ++ []))) (pv := []) hW' (fun _ _ _ => (trodAll_cons_mk (shut_bool Try.underlying4 _) trodAll_mk0)) (fun sp hsp => (trodAll_cons_mk (WideElems.Trod_stays (P := Try.prog) (by kernel_rfl) (by kernel_rfl) (of_decide_eq_true (by kernel_rfl)) h0k (fun x hx => hg.same (hlt x (by simp [hx]))) (fun x hx => hsp x (by simp [hx]))) (trodAll_cons_mk (shut_int Try.underlying3 wk1) trodAll_mk0))) (fun _ _ => rfl) (by simp)
    hg (ok_one (by kernel_rfl) rfl (okWide_bool_mk Try.underlying4 _))⟩

set_option maxRecDepth 100000 in
theorem lifted (os : Os) (started : os.Started) (H : Type) (enc : TypeId × Value → H) (F : Stop.Interp) :
    ReturnsInHanded {} Try.checked os 9 .any ((Rows.OpenSpec.upto Rows.minorsCompoundSpec).pre6 enc Try.prog Try.f9 Rows.minorsCompoundUptoRow.domain false) (((Rows.OpenSpec.upto Rows.minorsCompoundSpec).at F).post enc Try.prog Try.f9 false true false false) := by
  refine returnsInHanded_of_cond (C := Try.checked) (s := Rows.OpenSpec.upto Rows.minorsCompoundSpec) (k := Rows.uptoSmall) rfl own started (by kernel_rfl) Try.func9
    (OpenSpec.witness (enc := enc) (C := Try.checked) (s := Rows.OpenSpec.upto Rows.minorsCompoundSpec) (k := Rows.uptoSmall) rfl false ⟨#[], #[.agg #[.int .i64 0, .int .i64 0, .slice none 0 0], .int .i64 0], []⟩ 8 (by kernel_rfl) (by kernel_rfl) (by kernel_rfl)
      (x := ([.agg [.lit (.int .i64 0), .lit (.int .i64 0), .nil], .lit (.int .i64 0)], [], [])) (by kernel_rfl) rfl (by kernel_rfl)) ?_
  intro W base args ds gs before hval hW _ hk _
  exact contract H enc W base args ds gs before hval hW hk

/-- the statement -/
theorem proved : Rows.MinorsCompoundUptoSaid :=
  OpenClaim.holds_of_cond 9 Try.f9 rfl rfl rfl rfl rfl rfl rfl ⟨rfl, rfl, rfl, rfl, rfl⟩ rfl rfl rfl rfl rfl (by kernel_rfl) Try.func9 (by kernel_rfl)
    (of_decide_eq_true (by kernel_rfl)) (by unfold Func.isWrapper; first | (rw [if_pos (by decide +kernel)]; kernel_rfl) | (rw [if_neg (by decide +kernel)]; exact ⟨rfl, rfl⟩))
    (fun os started H enc _ F => lifted os started H enc F)
#print axioms proved
end Go.Proofs.Ytejliecmdkmgiaa.minorsCompound
