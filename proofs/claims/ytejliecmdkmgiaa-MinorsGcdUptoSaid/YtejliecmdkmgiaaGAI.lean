import Derived.Test.YtejliecmdkmgiaaGAH
set_option linter.unusedVariables false
set_option linter.unusedSimpArgs false
set_option maxHeartbeats 8000000
set_option maxRecDepth 100000
namespace Go.Proofs.Ytejliecmdkmgiaa
open Go.RowKit Go.Shelf
attribute [local go_sem] Oper.semAt_some
theorem Gg_bad (r c : Int) (a : Option Addr) (n cap : Nat) (k i j : Int) (hn : n ≤ 17592186044416) (h1 : checkE r c n = 1) (w : World) :
    Calls Try.prog 10 #[.agg #[.int .i64 r, .int .i64 c, .slice a n cap], .int .i64 k, .int .i64 i, .int .i64 j] w fun e w' => e = .returned (.bool true) ∧ Below w.heap.size w w' := by
  have HC := Lib.hid (fun (u : World) => Gcd_err r c a n cap k 1 hn (by unfold mszE; rw [h1]; rfl) (by decide) u)
  have hck := fun (u : World) => Check09_all r c a n cap hn u
  rw [h1] at hck
  have HK := Lib.hid hck
  clear hck h1
  have HM := Lib.hid (MBox.new w r c (.slice a n cap))
  have HB := Lib.hid (bl_alloc w (.cells #[.int .i64 r, .int .i64 c, .slice a n cap] 24))
  have HM_0 := HM.out.m0
  have HM_1 := HM.out.m1
  have HM_2 := HM.out.m2
  go_enter Try.func10, Try.ntmps10
  go_upto_region 1 with fail
  generalize w.alloc (.cells #[.int .i64 r, .int .i64 c, .slice a n cap] 24) = W at *
  clear HM_0 HM_1 HM_2
  go_wp2_with fail
  (refine (awake14_any W).mono ?_)
  rintro e w1 ⟨rfl, hb⟩
  replace HM := Lib.hid (HM.out.below hb)
  replace HB := Lib.hid (below_via HB.out hb)
  clear hb
  go_upto_region 3 with fail
  have HM_0 := HM.out.m0
  have HM_1 := HM.out.m1
  have HM_2 := HM.out.m2
  go_wp2_with fail
  (refine (HC.out w1).mono ?_)
  rintro e w2 ⟨rfl, hb⟩
  have hbx := below_via hb (bl_alloc w2 (.cells #[.bool false, .slice none 0 0] 49))
  replace HM := Lib.hid (HM.out.below hbx)
  replace HB := Lib.hid (below_via HB.out hbx)
  clear HM_0 HM_1 HM_2
  clear hb hbx HC
  go_upto_region 4 with fail
  generalize w2.alloc (.cells #[.bool false, .slice none 0 0] 49) = w3 at *
  have HM_0 := HM.out.m0
  have HM_1 := HM.out.m1
  have HM_2 := HM.out.m2
  go_wp2_with fail
  (refine (HK.out w3).mono ?_)
  rintro e w4 ⟨rfl, hb⟩
  replace HM := Lib.hid (HM.out.below hb)
  replace HB := Lib.hid (below_via HB.out hb)
  clear HM_0 HM_1 HM_2
  clear hb HK
  clear HM
  go_wp2_with fail
  refine bodyPost_ret (v := .bool true) ?_ rfl ⟨rfl, HB.out⟩
  simp [results, Try.results10, go_sem]
theorem Gg_arg (r c : Int) (a : Option Addr) (n cap : Nat) (k i j : Int) (hn : n ≤ 17592186044416) (h0 : checkE r c n = 0) (hk : k < 0 ∨ r < k ∨ c < k) (w : World) :
    Calls Try.prog 10 #[.agg #[.int .i64 r, .int .i64 c, .slice a n cap], .int .i64 k, .int .i64 i, .int .i64 j] w fun e w' => e = .returned (.bool true) ∧ Below w.heap.size w w' := by
  have HC := Lib.hid (fun (u : World) => Gcd_err r c a n cap k 3 hn (by unfold mszE; rw [h0, if_pos rfl, if_pos hk]) (by decide) u)
  have hck := fun (u : World) => Check09_all r c a n cap hn u
  rw [h0] at hck
  have HK := Lib.hid hck
  have HKK := Lib.hid hk
  clear hck h0 hk
  have HM := Lib.hid (MBox.new w r c (.slice a n cap))
  have HB := Lib.hid (bl_alloc w (.cells #[.int .i64 r, .int .i64 c, .slice a n cap] 24))
  have HM_0 := HM.out.m0
  have HM_1 := HM.out.m1
  have HM_2 := HM.out.m2
  go_enter Try.func10, Try.ntmps10
  go_upto_region 1 with fail
  generalize w.alloc (.cells #[.int .i64 r, .int .i64 c, .slice a n cap] 24) = W at *
  clear HM_0 HM_1 HM_2
  go_wp2_with fail
  (refine (awake14_any W).mono ?_)
  rintro e w1 ⟨rfl, hb⟩
  replace HM := Lib.hid (HM.out.below hb)
  replace HB := Lib.hid (below_via HB.out hb)
  clear hb
  go_upto_region 3 with fail
  have HM_0 := HM.out.m0
  have HM_1 := HM.out.m1
  have HM_2 := HM.out.m2
  go_wp2_with fail
  (refine (HC.out w1).mono ?_)
  rintro e w2 ⟨rfl, hb⟩
  have hbx := below_via hb (bl_alloc w2 (.cells #[.bool false, .slice none 0 0] 49))
  replace HM := Lib.hid (HM.out.below hbx)
  replace HB := Lib.hid (below_via HB.out hbx)
  clear HM_0 HM_1 HM_2
  clear hb hbx HC
  go_upto_region 4 with fail
  generalize w2.alloc (.cells #[.bool false, .slice none 0 0] 49) = w3 at *
  have HM_0 := HM.out.m0
  have HM_1 := HM.out.m1
  have HM_2 := HM.out.m2
  go_wp2_with fail
  (refine (HK.out w3).mono ?_)
  rintro e w4 ⟨rfl, hb⟩
  replace HM := Lib.hid (HM.out.below hb)
  replace HB := Lib.hid (below_via HB.out hb)
  clear HM_0 HM_1 HM_2
  clear hb HK
  have HM_0 := HM.out.m0
  have HM_1 := HM.out.m1
  have HM_2 := HM.out.m2
  by_cases h1 : k < 0
  · clear HKK HM
    go_wp2_with fail
    refine bodyPost_ret (v := .bool true) ?_ rfl ⟨rfl, HB.out⟩
    simp [results, Try.results10, go_sem]
  · by_cases h2 : r < k
    · clear HKK HM
      go_wp2_with fail
      refine bodyPost_ret (v := .bool true) ?_ rfl ⟨rfl, HB.out⟩
      simp [results, Try.results10, go_sem]
    · have h3 : c < k := by have := HKK.out; omega
      clear HKK HM
      go_wp2_with fail
      refine bodyPost_ret (v := .bool true) ?_ rfl ⟨rfl, HB.out⟩
      simp [results, Try.results10, go_sem]
theorem Gg_large (R C K : Nat) (a : Option Addr) (n cap : Nat) (i j : Int) (w : World) (hn : n = R * C) (hR : R ≤ 64) (hC : C ≤ 64) (hKR : K ≤ R) (hKC : K ≤ C) (hl : 4096 < bn R K * bn C K) :
    Calls Try.prog 10 #[.agg #[.int .i64 R, .int .i64 C, .slice a n cap], .int .i64 K, .int .i64 i, .int .i64 j] w fun e w' => e = .returned (.bool true) ∧ Below w.heap.size w w' := by
  have hmix : Try.prog.follows .mixedOrders = true := by kernel_rfl
  have hK4 : R * C ≤ 4096 := Nat.mul_le_mul hR hC
  have h0 := checkE_ok hR hC hn
  have HC := Lib.hid (fun (u : World) => Gcd_large R C K a n cap u (by omega) (by unfold mszE; rw [h0, if_pos rfl, if_neg (by omega)]) hR hC hKR hKC hl)
  have hck := fun (u : World) => Check09_all R C a n cap (by omega) u
  rw [h0] at hck
  have HK := Lib.hid hck
  have HSR := Lib.hid (fun (u : World) => size14_good R K u hR hKR)
  have HSC := Lib.hid (fun (u : World) => size14_good C K u hC hKC)
  have hq0 := bn_pos hKC
  obtain ⟨P, hP⟩ : ∃ P : Int, P = (bn R K : Nat) := ⟨_, rfl⟩
  obtain ⟨Q, hQ⟩ : ∃ Q : Int, Q = (bn C K : Nat) := ⟨_, rfl⟩
  have q0 : ¬ Q = 0 := by omega
  have q1 : ¬ (0 : Int) = Q := by omega
  have hdb : 0 ≤ Int.tdiv 4096 Q ∧ Int.tdiv 4096 Q ≤ 4096 := by
    rw [Int.tdiv_eq_ediv_of_nonneg (by omega)]
    exact ⟨Int.ediv_nonneg (by omega) (by omega), Int.ediv_le_self _ (by omega)⟩
  have hdP : Int.tdiv 4096 Q < P := by
    rw [Int.tdiv_eq_ediv_of_nonneg (by omega)]
    refine Int.ediv_lt_of_lt_mul (by omega) ?_
    rw [hP, hQ, ← Int.natCast_mul]; omega
  have hdw : IntKind.i64.wrap (Int.tdiv 4096 Q) = Int.tdiv 4096 Q := IntWalk.i64_in _ (by omega)
  rw [← hP] at HSR
  rw [← hQ] at HSC
  obtain ⟨r, hr⟩ : ∃ r : Int, r = R := ⟨_, rfl⟩
  obtain ⟨c, hc⟩ : ∃ c : Int, c = C := ⟨_, rfl⟩
  obtain ⟨k, hk⟩ : ∃ k : Int, k = K := ⟨_, rfl⟩
  have l1 : ¬ k < 0 := by omega
  have l2 : ¬ r < k := by omega
  have l3 : ¬ c < k := by omega
  rw [← hr, ← hc] at HK
  rw [← hr, ← hc, ← hk] at HC ⊢
  rw [← hr, ← hk] at HSR
  rw [← hc, ← hk] at HSC
  clear hck h0 hl hr hc hk hn hKR hKC hP hQ hdb hq0 hK4
  have HM := Lib.hid (MBox.new w r c (.slice a n cap))
  have HB := Lib.hid (bl_alloc w (.cells #[.int .i64 r, .int .i64 c, .slice a n cap] 24))
  have HM_0 := HM.out.m0
  have HM_1 := HM.out.m1
  have HM_2 := HM.out.m2
  go_enter Try.func10, Try.ntmps10
  go_upto_region 1 with fail
  generalize w.alloc (.cells #[.int .i64 r, .int .i64 c, .slice a n cap] 24) = W at *
  clear HM_0 HM_1 HM_2
  go_wp2_with fail
  (refine (awake14_any W).mono ?_)
  rintro e w1 ⟨rfl, hb⟩
  replace HM := Lib.hid (HM.out.below hb)
  replace HB := Lib.hid (below_via HB.out hb)
  clear hb
  go_upto_region 3 with fail
  have HM_0 := HM.out.m0
  have HM_1 := HM.out.m1
  have HM_2 := HM.out.m2
  go_wp2_with fail
  (refine (HC.out w1).mono ?_)
  rintro e w2 ⟨rfl, hb⟩
  have hbx := below_via hb (bl_alloc w2 (.cells #[.bool false, .slice none 0 0] 49))
  replace HM := Lib.hid (HM.out.below hbx)
  replace HB := Lib.hid (below_via HB.out hbx)
  clear HM_0 HM_1 HM_2
  clear hb hbx HC
  go_upto_region 4 with fail
  generalize w2.alloc (.cells #[.bool false, .slice none 0 0] 49) = w3 at *
  have HM_0 := HM.out.m0
  have HM_1 := HM.out.m1
  have HM_2 := HM.out.m2
  go_wp2_with fail
  (refine (HK.out w3).mono ?_)
  rintro e w4 ⟨rfl, hb⟩
  replace HM := Lib.hid (HM.out.below hb)
  replace HB := Lib.hid (below_via HB.out hb)
  clear HM_0 HM_1 HM_2
  clear hb HK
  have HM_0 := HM.out.m0
  have HM_1 := HM.out.m1
  have HM_2 := HM.out.m2
  go_upto_region 8 with fail
  clear l1 l2 l3
  refine region_early (fun u => u.cell? ⟨w.heap.size, 0, none⟩ = some (.int .i64 r) ∧ u.cell? ⟨w.heap.size, 1, none⟩ = some (.int .i64 c)) 10 [0, 1, 2, 4, 5, 6] 4 hmix (by kernel_rfl) rfl (by kernel_rfl) (fun _ _ d _ _ h => by cases d <;> exact h) ⟨HM_0, HM_1⟩ ?_
  iterate 6 (refine early_take rfl (by rfl) ?_; apply Exists.intro; refine ⟨fun u hu => ?_, ?_⟩; (obtain ⟨u_1, u_2⟩ := hu; go_simp; rfl); simp only [Act.put, List.getElem_toArray, List.getElem_cons_zero, List.getElem_cons_succ, List.setIfInBounds_toArray, List.set_cons_zero, List.set_cons_succ])
  refine early_done ?_
  simp only [marked]
  refine anyL_one (i := 3) (by kernel_rfl) rfl (by rfl) fun J hJ => ?_
  go_simp
  refine (HSR.out w4.drew).mono ?_
  rintro e w5 ⟨rfl, hb⟩
  have hb' := below_via (bl_drew w4) hb
  have hS := And.intro (cell_stays hb' HM_0) (cell_stays hb' HM_1)
  refine hJ _ _ (fun _ => hS) ?_
  replace HB := Lib.hid (below_via HB.out hb')
  clear hJ J hb hb' HSR
  refine anyL_one (i := 7) (by kernel_rfl) rfl (by rfl) fun J hJ => ?_
  go_simp
  refine (HSC.out w5).mono ?_
  rintro e w6 ⟨rfl, hb⟩
  have hS6 := And.intro (cell_stays hb hS.1) (cell_stays hb hS.2)
  refine hJ _ _ (fun _ => hS6) ?_
  replace HB := Lib.hid (below_via HB.out hb)
  clear hJ J hb hS HSC
  refine anyL_one (i := 8) (by kernel_rfl) rfl (by rfl) fun J hJ => ?_
  go_simp
  refine hJ _ _ (fun _ => hS6) ?_
  clear hJ J
  try rw [hdw]
  refine anyL_one (i := 9) (by kernel_rfl) rfl (by rfl) fun J hJ => ?_
  go_simp
  refine hJ _ _ (fun _ => hS6) ?_
  clear hJ J
  refine anyL_done (by kernel_rfl) ?_ _
  clear hS6 HM HM_0 HM_1 HM_2 hdw
  go_wp2_with fail
  refine bodyPost_ret (v := .bool true) ?_ rfl ⟨rfl, HB.out⟩
  simp [results, Try.results10, go_sem]
end Go.Proofs.Ytejliecmdkmgiaa
