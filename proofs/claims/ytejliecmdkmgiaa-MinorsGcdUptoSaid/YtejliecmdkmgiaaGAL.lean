import Derived.Test.YtejliecmdkmgiaaGAI
import Derived.Test.YtejliecmdkmgiaaGX
set_option linter.unusedVariables false
set_option linter.unusedSimpArgs false
set_option maxHeartbeats 8000000
set_option maxRecDepth 100000
namespace Go.Proofs.Ytejliecmdkmgiaa
open Go.RowKit Go.Shelf
theorem anyL_skip {P : Program} {Q : Exit → Act → World → Prop} {md : Region.Mode} {ops : Array Oper} {S : World → Prop} {f i : Nat} {oi : Oper} {fuel : Nat} {listed : Array Bool} {a : Act} {w : World} (hi : ops[i]? = some oi)
    (hs : Region.noSelect ops = true) (hfr : Region.free md ops listed i = true) (hr : (Region.ready md ops listed).contains i = true) (hf : decide (i < f) = true)
    (hQ : ∀ c (a : Act) (d : Option Tmp) (v : Value) w, Q (.panic c) (a.put d v) w → Q (.panic c) a w) (hw : Region.wanted oi (yielded ops a.tmps) = false) (hS : S w)
    (h : wpAnyL P md ops Q S f fuel (listed.setIfInBounds i true) (a.put oi.dst undef) w) : wpAnyL P md ops Q S f (fuel + 1) listed a w :=
  anyL_pure (v := undef) hi hs hfr hr hf (fun c a w => hQ c a _ _ w) (Or.inr ⟨hw, rfl⟩) hS h
attribute [local go_sem] Oper.semAt_some
theorem Gg_five (R C K S : Nat) (sl : Value) (A : Nat → Int) (i j : Int) (w : World) (hR : R ≤ 64) (hC : C ≤ 64) (hKR : K ≤ R) (hKC : K ≤ C) (hbb : bn R K * bn C K ≤ 4096) (hlc : 64 < bn R K ∨ 64 < bn C K) (hK0 : 0 < K) (hS : S ≤ 1048576) (hr : RdE w sl (R * C) A) (hA : ∀ q, q < R * C → ZB S (A q)) :
    Calls Try.prog 10 #[.agg #[.int .i64 R, .int .i64 C, sl], .int .i64 K, .int .i64 i, .int .i64 j] w fun e w' => e = .returned (.bool true) ∧ Below w.heap.size w w' := by
  have HK0 := Lib.hid hK0
  clear hK0
  have h00 := checkE_ok hR hC (n := R * C) rfl
  obtain ⟨a0, cap0, e0, -⟩ := hr.slice
  have hcp0 := fun (u : World) => (show Calls Try.prog 53 #[.agg #[.int .i64 R, .int .i64 C, sl], .int .i64 K] u fun e w' => e = .returned (.tuple #[.agg #[.int .i64 0, .int .i64 0, .slice none 0 0], .int .i64 5]) ∧ Below u.heap.size u w' by
    rw [e0]; exact Compound_large R C K a0 (R * C) cap0 u (by have := Nat.mul_le_mul hR hC; omega) (by unfold mszE; rw [h00, if_pos rfl, if_neg (by omega)]) hR hC hKR hKC hlc)
  have HCP0 := Lib.hid hcp0
  clear hcp0 h00 e0 hlc
  have hmix : Try.prog.follows .mixedOrders = true := by kernel_rfl
  have hK4 : R * C ≤ 4096 := Nat.mul_le_mul hR hC
  have hK64 : K ≤ 64 := by omega
  obtain ⟨a, cap, rfl, hcap⟩ := hr.slice
  have h0 := checkE_ok hR hC (n := R * C) rfl
  have hck := fun (u : World) => Check09_all R C a (R * C) cap (by omega) u
  rw [h0] at hck
  have hgc := fun (u : World) (hu : Below w.heap.size w u) => Gcd_good R C K S _ A u hR hC hKR hKC hbb (by omega) (hr.below hu) hA
  have hrk := fun (u : World) (hu : Below w.heap.size w u) => (Rank_good R C S _ A u hR hC (by omega) (hr.below hu) hA).mono (R' := fun e w' => ∃ rk : Nat, e = .returned (.tuple #[.int .i64 rk, .int .i64 0]) ∧ (gcM A R C K = 0 ↔ rk < K) ∧ Below u.heap.size u w') (fun e w' ⟨rk, P, h1, h2, h3⟩ => ⟨rk, h1, by rw [gcM_rank (K := K) A h2]; omega, h3⟩)
  have hlow := fun (u : World) (hu : Below w.heap.size w u) => mLeast_good R C _ A u hR hC (hr.below hu)
  have hsr := fun (u : World) => size14_good R K u hR hKR
  have hsc := fun (u : World) => size14_good C K u hC hKC
  have hg2 := fun (I J : Nat) (hI : I < R) (hJ : J < R) (hIJ : I ≠ J) (u : World) (v : Value) (hv : RdE u v (R * C) (stpE A C I J (-1))) => by
    have := Gcd_good R C K (S + 1) v (stpE A C I J (-1)) u hR hC hKR hKC hbb (by omega) hv (stpE_zb rfl hA (fun q hq => by
      have hC0 : 0 < C := Nat.pos_of_ne_zero fun e => by rw [e, Nat.mul_zero] at hq; omega
      exact (idx_lt hJ (Nat.mod_lt q hC0) rfl).1))
    rw [gcM_step A (-1) hI hJ hIJ] at this
    exact this
  have hgz : ZB (64 * (S + 1) + 1) (gcM A R C K : Nat) := by
    unfold gcM
    exact gcdS_zb fun c hc => cpE_zb hKR hKC (by omega) hA c hc
  have hgm := fun (hK0 : 0 < K) => by
    have h1 : K - 1 + 1 = K := by omega
    have := gcM_chain A R C (K - 1) 1
    rw [h1] at this
    exact this
  have hgl := fun (u : World) (hu : Below w.heap.size w u) (hl : bn R (K - 1) * bn C (K - 1) ≤ 4096) => Gcd_good R C (K - 1) S _ A u hR hC (by omega) (by omega) hl (by omega) (hr.below hu) hA
  have hgL := fun (u : World) (hl : 4096 < bn R (K - 1) * bn C (K - 1)) => Gcd_large R C (K - 1) a (R * C) cap u (by omega) (by unfold mszE; rw [h0, if_pos rfl, if_neg (by omega)]) hR hC (by omega) (by omega) hl
  have hlz : ZB (64 * (S + 1) + 1) (gcM A R C (K - 1) : Nat) := by
    unfold gcM
    exact gcdS_zb fun c hc => cpE_zb (by omega) (by omega) (by omega) hA c hc
  obtain ⟨G, hG⟩ : ∃ G, G = gcM A R C K := ⟨_, rfl⟩
  obtain ⟨L, hL⟩ : ∃ L, L = gcM A R C (K - 1) := ⟨_, rfl⟩
  rw [← hG] at hgc hg2 hgz hgm
  simp only [← hG] at hrk
  rw [← hL] at hgl hlz hgm
  have hq0 := bn_pos hKC
  obtain ⟨P, hP⟩ : ∃ P : Int, P = (bn R K : Nat) := ⟨_, rfl⟩
  obtain ⟨Q, hQ⟩ : ∃ Q : Int, Q = (bn C K : Nat) := ⟨_, rfl⟩
  have q0 : ¬ Q = 0 := by omega
  have q1 : ¬ (0 : Int) = Q := by omega
  have hdb : 0 ≤ Int.tdiv 4096 Q ∧ Int.tdiv 4096 Q ≤ 4096 := by
    rw [Int.tdiv_eq_ediv_of_nonneg (by omega)]
    exact ⟨Int.ediv_nonneg (by omega) (by omega), Int.ediv_le_self _ (by omega)⟩
  have hdP : P ≤ Int.tdiv 4096 Q := by
    rw [Int.tdiv_eq_ediv_of_nonneg (by omega)]
    refine Int.le_ediv_of_mul_le (by omega) ?_
    rw [hP, hQ, ← Int.natCast_mul]; omega
  have hdw : IntKind.i64.wrap (Int.tdiv 4096 Q) = Int.tdiv 4096 Q := IntWalk.i64_in _ (by omega)
  rw [← hP] at hsr
  rw [← hQ] at hsc
  obtain ⟨N, hN⟩ : ∃ N, N = R * C := ⟨_, rfl⟩
  rw [← hN] at hck hgc hrk hlow hg2 hgl hgL hA hK4 ⊢
  obtain ⟨r, hrr⟩ : ∃ r : Int, r = R := ⟨_, rfl⟩
  obtain ⟨c, hcc⟩ : ∃ c : Int, c = C := ⟨_, rfl⟩
  obtain ⟨k, hk⟩ : ∃ k : Int, k = K := ⟨_, rfl⟩
  obtain ⟨kp, hkp⟩ : ∃ kp : Int, kp = ((K - 1 : Nat) : Int) := ⟨_, rfl⟩
  rw [← hrr] at hck hgc hrk hlow hg2 hgl hgL hsr ⊢
  rw [← hcc] at hck hgc hrk hlow hg2 hgl hgL hsc ⊢
  rw [← hk] at hgc hg2 hsr hsc ⊢
  rw [← hkp] at hgl hgL
  have l1 : ¬ k < 0 := by omega
  have l2 : ¬ r < k := by omega
  have l3 : ¬ c < k := by omega
  have v5 : 0 < K → IntKind.i64.wrap (k - 1) = kp := fun h => by rw [show k - 1 = kp by omega]; exact IntWalk.i64_in _ (by omega)
  have HCK := Lib.hid hck
  have HGC := Lib.hid hgc
  have HRK := Lib.hid hrk
  have HLOW := Lib.hid hlow
  have HG2 := Lib.hid hg2
  have HGL := Lib.hid hgl
  have HGB := Lib.hid hgL
  have HGM := Lib.hid hgm
  have HLZ := Lib.hid hlz
  have HGZ := Lib.hid hgz
  have HSR := Lib.hid hsr
  have HSC := Lib.hid hsc
  have HV5 := Lib.hid v5
  have HRR := Lib.hid hrr
  have HCC := Lib.hid hcc
  have HKK := Lib.hid hk
  have HNN := Lib.hid hN
  have HN4 := Lib.hid hK4
  have HAZ := Lib.hid hA
  have HGE := Lib.hid hG
  have HS1 := Lib.hid (show S + 1 ≤ 274877906944 by omega)
  have HT := Lib.hid (show 64 * (S + 1) + 1 ≤ 274877906944 by omega)
  have HDD := Lib.hid (show ¬ Q = 0 ∧ ∃ d, IntKind.i64.wrap (Int.tdiv 4096 Q) = d ∧ Int.tdiv 4096 Q = d ∧ ¬ d < P ∧ IntKind.i64.wrap d = d from ⟨q0, _, hdw, rfl, by omega, hdw⟩)
  clear q0 q1 hdP hdw hck hgc hrk hlow hg2 hgl hgL hgm hlz hgz hsr hsc v5 hrr hcc hk hkp hN hA hr hG hL hP hQ hdb hq0 h0 hcap hKR hKC hbb hS
  have hcp := HCP0.out
  simp only [← HNN.out, ← HRR.out, ← HCC.out, ← HKK.out] at hcp
  have HCP := Lib.hid hcp
  clear HCP0 hcp HGE
  have HM := Lib.hid (MBox.new w r c (.slice a N cap))
  have HB := Lib.hid (bl_alloc w (.cells #[.int .i64 r, .int .i64 c, .slice a N cap] 24))
  have HM_0 := HM.out.m0
  have HM_1 := HM.out.m1
  have HM_2 := HM.out.m2
  go_enter Try.func10, Try.ntmps10
  go_upto_region 1 with fail
  generalize w.alloc (.cells #[.int .i64 r, .int .i64 c, .slice a N cap] 24) = W at *
  clear HM_0 HM_1 HM_2
  go_wp2_with fail
  (refine (awake14_any W).mono ?_)
  rintro e w1 ⟨rfl, hb⟩
  replace HM := Lib.hid (HM.out.below hb)
  replace HB := Lib.hid (below_via HB.out hb)
  clear hb
  go_upto_region 3 with fail
  have HM_0 := HM.out.m0
  have HM_1 := HM.out.m1
  have HM_2 := HM.out.m2
  go_wp2_with fail
  (refine (HGC.out w1 HB.out).mono ?_)
  rintro e w2 ⟨v, rfl, hf, hb⟩
  obtain ⟨am, an, ac, rfl, -⟩ := hf.agg
  rw [show decide ((G : Int) < 0) = false from decide_eq_false (by omega)] at hf ⊢
  have hba := bl_alloc w2 (.cells #[.bool false, .slice am an ac] 49)
  have hbx := below_via hb hba
  have ZG := Lib.hid (ZBox.new w2 false (.slice am an ac))
  have HRG := Lib.hid ((hf.below hba).least)
  have HRZ := Lib.hid ((hf.below hba).rd HGZ.out HT.out)
  replace HM := Lib.hid (HM.out.below hbx)
  replace HB := Lib.hid (below_via HB.out hbx)
  clear HM_0 HM_1 HM_2
  clear hf hb hba hbx HGC
  go_upto_region 4 with fail
  obtain ⟨gb, hgb⟩ : ∃ gb, gb = w2.heap.size := ⟨_, rfl⟩
  rw [← hgb] at ZG ⊢
  clear hgb
  generalize w2.alloc (.cells #[.bool false, .slice am an ac] 49) = w3 at *
  have HM_0 := HM.out.m0
  have HM_1 := HM.out.m1
  have HM_2 := HM.out.m2
  go_wp2_with fail
  (refine (HCK.out w3).mono ?_)
  rintro e w4 ⟨rfl, hb⟩
  replace HM := Lib.hid (HM.out.below hb)
  replace ZG := Lib.hid (ZG.out.below hb)
  replace HRG := Lib.hid (HRG.out.below hb)
  replace HRZ := Lib.hid (HRZ.out.below hb)
  replace HB := Lib.hid (below_via HB.out hb)
  clear HM_0 HM_1 HM_2
  clear hb HCK
  have HM_0 := HM.out.m0
  have HM_1 := HM.out.m1
  have HM_2 := HM.out.m2
  have HHH := Lib.hid (show R ≤ 64 ∧ C ≤ 64 ∧ K ≤ 64 ∧ N ≤ 4096 from ⟨hR, hC, hK64, hK4⟩)
  clear hR hC hK64 hK4
  have HLL := Lib.hid (And.intro l1 (And.intro l2 l3))
  clear l1 l2 l3
  go_upto_region 6 with fail
  have l1 : ¬ k < 0 := by have := HLL.out; omega
  have l2 : ¬ r < k := by have := HLL.out; omega
  have l3 : ¬ c < k := by have := HLL.out; omega
  go_upto_region 8 with fail
  clear l1 l2 l3
  refine region_early (fun u => u.cell? ⟨w.heap.size, 0, none⟩ = some (.int .i64 r) ∧ u.cell? ⟨w.heap.size, 1, none⟩ = some (.int .i64 c)) 10 [0, 1, 2, 4, 5, 6] 4 hmix (by kernel_rfl) rfl (by kernel_rfl) (fun _ _ d _ _ h => by cases d <;> exact h) ⟨HM_0, HM_1⟩ ?_
  iterate 6 (refine early_take rfl (by rfl) ?_; apply Exists.intro; refine ⟨fun u hu => ?_, ?_⟩; (obtain ⟨u_1, u_2⟩ := hu; go_simp; rfl); simp only [Act.put, List.getElem_toArray, List.getElem_cons_zero, List.getElem_cons_succ, List.setIfInBounds_toArray, List.set_cons_zero, List.set_cons_succ])
  refine early_done ?_
  simp only [marked]
  refine anyL_one (i := 3) (by kernel_rfl) rfl (by rfl) fun J hJ => ?_
  go_simp
  refine (HSR.out w4.drew).mono ?_
  rintro e w5 ⟨rfl, hb⟩
  have hb' := below_via (bl_drew w4) hb
  have hS := And.intro (cell_stays hb' HM_0) (cell_stays hb' HM_1)
  refine hJ _ _ (fun _ => hS) ?_
  replace HM := Lib.hid (HM.out.below hb')
  replace ZG := Lib.hid (ZG.out.below hb')
  replace HRG := Lib.hid (HRG.out.below hb')
  replace HRZ := Lib.hid (HRZ.out.below hb')
  replace HB := Lib.hid (below_via HB.out hb')
  clear hJ J hb hb' HSR
  refine anyL_one (i := 7) (by kernel_rfl) rfl (by rfl) fun J hJ => ?_
  go_simp
  refine (HSC.out w5).mono ?_
  rintro e w6 ⟨rfl, hb⟩
  have hS6 := And.intro (cell_stays hb hS.1) (cell_stays hb hS.2)
  refine hJ _ _ (fun _ => hS6) ?_
  replace HM := Lib.hid (HM.out.below hb)
  replace ZG := Lib.hid (ZG.out.below hb)
  replace HRG := Lib.hid (HRG.out.below hb)
  replace HRZ := Lib.hid (HRZ.out.below hb)
  replace HB := Lib.hid (below_via HB.out hb)
  clear hJ J hb hS HSC
  obtain ⟨q0, d, hd1, hd2, hdP, hd3⟩ := HDD.out
  refine anyL_one (i := 8) (by kernel_rfl) rfl (by rfl) fun J hJ => ?_
  go_simp
  refine hJ _ _ (fun _ => hS6) ?_
  clear hJ J
  try rw [hd1]
  try rw [hd2]
  try rw [hd3]
  clear hd1 hd2 hd3 q0 HDD
  refine anyL_yield (i := 9) rfl (by kernel_rfl) (by kernel_rfl) (by kernel_rfl) (by kernel_rfl) (fun _ _ d _ _ h => by cases d <;> exact h) (by rfl) hS6 ?_
  refine ⟨.bool false, fun u => ?_, ?_⟩
  · go_simp
    first | done | rfl | omega | (simp; done) | (simp; omega) | (simp [*]; done)
  simp only [Act.put, List.getElem_toArray, List.getElem_cons_zero, List.getElem_cons_succ, List.setIfInBounds_toArray, List.set_cons_zero, List.set_cons_succ]
  clear hdP
  refine anyL_done (by kernel_rfl) ?_ _
  clear HM_0 HM_1 HM_2
  clear hS6
  have HM_0 := HM.out.m0
  have HM_1 := HM.out.m1
  have HM_2 := HM.out.m2
  go_wp2_with fail
  (refine (HCP.out w6).mono ?_)
  rintro e w7 ⟨rfl, hb⟩
  have hbx := below_via hb (bl_alloc w7 (.cells #[.int .i64 0, .int .i64 0, .slice none 0 0] 24))
  replace HM := Lib.hid (HM.out.below hbx)
  replace ZG := Lib.hid (ZG.out.below hbx)
  replace HRG := Lib.hid (HRG.out.below hbx)
  replace HRZ := Lib.hid (HRZ.out.below hbx)
  replace HB := Lib.hid (below_via HB.out hbx)
  clear HM_0 HM_1 HM_2
  clear hb hbx HCP
  go_upto_region 11 with fail
  generalize w7.alloc (.cells #[.int .i64 0, .int .i64 0, .slice none 0 0] 24) = w8 at *
  have HM_0 := HM.out.m0
  have HM_1 := HM.out.m1
  have HM_2 := HM.out.m2
  go_wp2_with fail
  (refine (HRK.out w8 HB.out).mono ?_)
  rintro e w9 ⟨rk, rfl, hrv, hb⟩
  replace HM := Lib.hid (HM.out.below hb)
  replace ZG := Lib.hid (ZG.out.below hb)
  replace HRG := Lib.hid (HRG.out.below hb)
  replace HRZ := Lib.hid (HRZ.out.below hb)
  replace HB := Lib.hid (below_via HB.out hb)
  clear HM_0 HM_1 HM_2
  obtain ⟨bz, hbz⟩ : ∃ bz : Bool, decide (sgZ (G : Int) = 0) = bz := ⟨_, rfl⟩
  have hbz2 : decide ((rk : Int) < k) = bz := by
    rw [← hbz, decide_eq_decide, HKK.out]
    unfold sgZ
    constructor
    · intro h; rw [if_pos (by have := hrv.2 (by omega); omega)]
    · intro h
      have : G = 0 := by
        by_cases e : (G : Int) = 0
        · omega
        · rw [if_neg e, if_neg (by omega)] at h; omega
      have := hrv.1 this
      omega
  have HSG := Lib.hid (fun (u : World) (hu : RdZ u (.agg #[.bool false, .slice am an ac]) (G : Int)) => zSign_any _ _ u hu)
  have hsn : ¬ sgZ (G : Int) < 0 := by unfold sgZ; (repeat' split) <;> omega
  obtain ⟨sg, hsg⟩ : ∃ sg, sg = sgZ (G : Int) := ⟨_, rfl⟩
  rw [← hsg] at hbz hsn
  simp only [← hsg] at HSG
  have HSZ := Lib.hid hsg
  clear hb hrv HRK hsg
  have z0 := ZG.out.m0
  have z1 := ZG.out.m1
  go_upto_region 12 with fail
  have SKF : ∀ u, Below w9.heap.size w9 u → (u.cell? ⟨gb, 0, none⟩ = some (.bool false) ∧ u.cell? ⟨gb, 1, none⟩ = some (.slice am an ac)) := fun u hu => ⟨cell_stays hu z0, cell_stays hu z1⟩
  refine region_early (fun u => u.cell? ⟨gb, 0, none⟩ = some (.bool false) ∧ u.cell? ⟨gb, 1, none⟩ = some (.slice am an ac)) 32 [0, 1, 2, 3, 4, 5, 6, 7, 10, 11, 12] 21 hmix (by kernel_rfl) rfl (by kernel_rfl) (fun _ _ d _ _ h => by cases d <;> exact h) ⟨z0, z1⟩ ?_
  iterate 10 (refine early_take rfl (by rfl) ?_; apply Exists.intro; refine ⟨fun u hu => ?_, ?_⟩; (obtain ⟨u_1, u_2⟩ := hu; go_simp; rfl); simp only [Act.put, List.getElem_toArray, List.getElem_cons_zero, List.getElem_cons_succ, List.setIfInBounds_toArray, List.set_cons_zero, List.set_cons_succ])
  refine early_take rfl (by rfl) ?_
  refine ⟨.bool bz, fun u hu => ?_, ?_⟩
  · obtain ⟨u_1, u_2⟩ := hu
    go_simp
    first | done | rfl | omega | (simp; omega) | simp_all
  simp only [Act.put, List.getElem_toArray, List.getElem_cons_zero, List.getElem_cons_succ, List.setIfInBounds_toArray, List.set_cons_zero, List.set_cons_succ]
  refine early_done ?_
  simp only [marked]
  have HSK := Lib.hid (fun (u : World) (hu : Below w9.heap.size w9 u) => (show u.cell? ⟨gb, 0, none⟩ = some (.bool false) ∧ u.cell? ⟨gb, 1, none⟩ = some (.slice am an ac) from SKF u hu))
  have HBW := Lib.hid (bl_drew w9)
  refine anyL_one (i := 8) (by kernel_rfl) rfl (by rfl) fun J hJ => ?_
  go_simp
  refine (HSG.out w9.drew (HRZ.out.below (bl_drew _))).mono ?_
  rintro e w10 ⟨rfl, hb⟩
  replace HBW := Lib.hid (below_via HBW.out hb)
  have hS := HSK.out _ HBW.out
  refine hJ _ _ (fun _ => hS) ?_
  clear hJ J hb
  refine anyL_yield (i := 9) rfl (by kernel_rfl) (by kernel_rfl) (by kernel_rfl) (by kernel_rfl) (fun _ _ d _ _ h => by cases d <;> exact h) (by rfl) hS ?_
  refine ⟨.bool bz, fun u => ?_, ?_⟩
  · go_simp
    first | done | rfl | omega | (simp; done) | (simp; omega) | (simp [*]; done)
  simp only [Act.put, List.getElem_toArray, List.getElem_cons_zero, List.getElem_cons_succ, List.setIfInBounds_toArray, List.set_cons_zero, List.set_cons_succ]
  refine anyL_yield (i := 13) rfl (by kernel_rfl) (by kernel_rfl) (by kernel_rfl) (by kernel_rfl) (fun _ _ d _ _ h => by cases d <;> exact h) (by rfl) hS ?_
  refine ⟨.bool false, fun u => ?_, ?_⟩
  · go_simp
    first | done | rfl | omega | (simp; done) | (simp; omega) | (simp [*]; done)
  simp only [Act.put, List.getElem_toArray, List.getElem_cons_zero, List.getElem_cons_succ, List.setIfInBounds_toArray, List.set_cons_zero, List.set_cons_succ]
  refine anyL_yield (i := 14) rfl (by kernel_rfl) (by kernel_rfl) (by kernel_rfl) (by kernel_rfl) (fun _ _ d _ _ h => by cases d <;> exact h) (by rfl) hS ?_
  refine ⟨.bool false, fun u => ?_, ?_⟩
  · go_simp
    first | done | rfl | omega | (simp; done) | (simp; omega) | (simp [*]; done)
  simp only [Act.put, List.getElem_toArray, List.getElem_cons_zero, List.getElem_cons_succ, List.setIfInBounds_toArray, List.set_cons_zero, List.set_cons_succ]
  refine anyL_yield (i := 15) rfl (by kernel_rfl) (by kernel_rfl) (by kernel_rfl) (by kernel_rfl) (fun _ _ d _ _ h => by cases d <;> exact h) (by rfl) hS ?_
  refine ⟨.bool false, fun u => ?_, ?_⟩
  · go_simp
    first | done | rfl | omega | (simp; done) | (simp; omega) | (simp [*]; done)
  simp only [Act.put, List.getElem_toArray, List.getElem_cons_zero, List.getElem_cons_succ, List.setIfInBounds_toArray, List.set_cons_zero, List.set_cons_succ]
  refine anyL_read (i := 16) rfl (by kernel_rfl) (by kernel_rfl) (by kernel_rfl) (by kernel_rfl) (fun _ _ d _ _ h => by cases d <;> exact h) (by rfl) hS ?_
  apply Exists.intro
  refine ⟨fun u hu => ?_, ?_⟩
  · obtain ⟨u_1, u_2⟩ := hu
    go_simp
    rfl
  simp only [Act.put, List.getElem_toArray, List.getElem_cons_zero, List.getElem_cons_succ, List.setIfInBounds_toArray, List.set_cons_zero, List.set_cons_succ]
  refine anyL_one (i := 17) (by kernel_rfl) rfl (by rfl) fun J hJ => ?_
  go_simp
  refine (HSG.out w10 (HRZ.out.below HBW.out)).mono ?_
  rintro e w11 ⟨rfl, hb⟩
  replace HBW := Lib.hid (below_via HBW.out hb)
  clear hS
  have hS := HSK.out _ HBW.out
  refine hJ _ _ (fun _ => hS) ?_
  clear hJ J hb
  refine anyL_yield (i := 18) rfl (by kernel_rfl) (by kernel_rfl) (by kernel_rfl) (by kernel_rfl) (fun _ _ d _ _ h => by cases d <;> exact h) (by rfl) hS ?_
  refine ⟨.bool false, fun u => ?_, ?_⟩
  · go_simp
    first | done | rfl | omega | (simp; done) | (simp; omega) | (simp [*]; done)
  simp only [Act.put, List.getElem_toArray, List.getElem_cons_zero, List.getElem_cons_succ, List.setIfInBounds_toArray, List.set_cons_zero, List.set_cons_succ]
  refine anyL_yield (i := 19) rfl (by kernel_rfl) (by kernel_rfl) (by kernel_rfl) (by kernel_rfl) (fun _ _ d _ _ h => by cases d <;> exact h) (by rfl) hS ?_
  refine ⟨.bool false, fun u => ?_, ?_⟩
  · go_simp
    first | done | rfl | omega | (simp; done) | (simp; omega) | (simp [*]; done)
  simp only [Act.put, List.getElem_toArray, List.getElem_cons_zero, List.getElem_cons_succ, List.setIfInBounds_toArray, List.set_cons_zero, List.set_cons_succ]
  refine anyL_yield (i := 20) rfl (by kernel_rfl) (by kernel_rfl) (by kernel_rfl) (by kernel_rfl) (fun _ _ d _ _ h => by cases d <;> exact h) (by rfl) hS ?_
  refine ⟨.bool false, fun u => ?_, ?_⟩
  · go_simp
    first | done | rfl | omega | (simp; done) | (simp; omega) | (simp [*]; done)
  simp only [Act.put, List.getElem_toArray, List.getElem_cons_zero, List.getElem_cons_succ, List.setIfInBounds_toArray, List.set_cons_zero, List.set_cons_succ]
  refine anyL_yield (i := 21) rfl (by kernel_rfl) (by kernel_rfl) (by kernel_rfl) (by kernel_rfl) (fun _ _ d _ _ h => by cases d <;> exact h) (by rfl) hS ?_
  apply Exists.intro
  refine ⟨fun u => ?_, ?_⟩
  · go_simp
    rfl
  simp only [Act.put, List.getElem_toArray, List.getElem_cons_zero, List.getElem_cons_succ, List.setIfInBounds_toArray, List.set_cons_zero, List.set_cons_succ]
  refine anyL_yield (i := 22) rfl (by kernel_rfl) (by kernel_rfl) (by kernel_rfl) (by kernel_rfl) (fun _ _ d _ _ h => by cases d <;> exact h) (by rfl) hS ?_
  refine ⟨.bool false, fun u => ?_, ?_⟩
  · go_simp
    first | done | rfl | omega | (simp; done) | (simp; omega) | (simp [*]; done)
  simp only [Act.put, List.getElem_toArray, List.getElem_cons_zero, List.getElem_cons_succ, List.setIfInBounds_toArray, List.set_cons_zero, List.set_cons_succ]
  refine anyL_yield (i := 23) rfl (by kernel_rfl) (by kernel_rfl) (by kernel_rfl) (by kernel_rfl) (fun _ _ d _ _ h => by cases d <;> exact h) (by rfl) hS ?_
  refine ⟨.bool false, fun u => ?_, ?_⟩
  · go_simp
    first | done | rfl | omega | (simp; done) | (simp; omega) | (simp [*]; done)
  simp only [Act.put, List.getElem_toArray, List.getElem_cons_zero, List.getElem_cons_succ, List.setIfInBounds_toArray, List.set_cons_zero, List.set_cons_succ]
  refine anyL_skip (i := 24) rfl (by kernel_rfl) (by kernel_rfl) (by kernel_rfl) (by kernel_rfl) (fun _ _ d _ _ h => by cases d <;> exact h) (by rfl) hS ?_
  simp only [Act.put, List.getElem_toArray, List.getElem_cons_zero, List.getElem_cons_succ, List.setIfInBounds_toArray, List.set_cons_zero, List.set_cons_succ]
  refine anyL_skip (i := 25) rfl (by kernel_rfl) (by kernel_rfl) (by kernel_rfl) (by kernel_rfl) (fun _ _ d _ _ h => by cases d <;> exact h) (by rfl) hS ?_
  simp only [Act.put, List.getElem_toArray, List.getElem_cons_zero, List.getElem_cons_succ, List.setIfInBounds_toArray, List.set_cons_zero, List.set_cons_succ]
  refine anyL_skip (i := 26) rfl (by kernel_rfl) (by kernel_rfl) (by kernel_rfl) (by kernel_rfl) (fun _ _ d _ _ h => by cases d <;> exact h) (by rfl) hS ?_
  simp only [Act.put, List.getElem_toArray, List.getElem_cons_zero, List.getElem_cons_succ, List.setIfInBounds_toArray, List.set_cons_zero, List.set_cons_succ]
  refine anyL_skip (i := 27) rfl (by kernel_rfl) (by kernel_rfl) (by kernel_rfl) (by kernel_rfl) (fun _ _ d _ _ h => by cases d <;> exact h) (by rfl) hS ?_
  simp only [Act.put, List.getElem_toArray, List.getElem_cons_zero, List.getElem_cons_succ, List.setIfInBounds_toArray, List.set_cons_zero, List.set_cons_succ]
  refine anyL_skip (i := 28) rfl (by kernel_rfl) (by kernel_rfl) (by kernel_rfl) (by kernel_rfl) (fun _ _ d _ _ h => by cases d <;> exact h) (by rfl) hS ?_
  simp only [Act.put, List.getElem_toArray, List.getElem_cons_zero, List.getElem_cons_succ, List.setIfInBounds_toArray, List.set_cons_zero, List.set_cons_succ]
  refine anyL_skip (i := 29) rfl (by kernel_rfl) (by kernel_rfl) (by kernel_rfl) (by kernel_rfl) (fun _ _ d _ _ h => by cases d <;> exact h) (by rfl) hS ?_
  simp only [Act.put, List.getElem_toArray, List.getElem_cons_zero, List.getElem_cons_succ, List.setIfInBounds_toArray, List.set_cons_zero, List.set_cons_succ]
  refine anyL_yield (i := 30) rfl (by kernel_rfl) (by kernel_rfl) (by kernel_rfl) (by kernel_rfl) (fun _ _ d _ _ h => by cases d <;> exact h) (by rfl) hS ?_
  refine ⟨.bool false, fun u => ?_, ?_⟩
  · go_simp
    first | done | rfl | omega | (simp; done) | (simp; omega) | (simp [*]; done)
  simp only [Act.put, List.getElem_toArray, List.getElem_cons_zero, List.getElem_cons_succ, List.setIfInBounds_toArray, List.set_cons_zero, List.set_cons_succ]
  refine anyL_yield (i := 31) rfl (by kernel_rfl) (by kernel_rfl) (by kernel_rfl) (by kernel_rfl) (fun _ _ d _ _ h => by cases d <;> exact h) (by rfl) hS ?_
  refine ⟨.bool false, fun u => ?_, ?_⟩
  · go_simp
    first | done | rfl | omega | (simp; done) | (simp; omega) | (simp [*]; done)
  simp only [Act.put, List.getElem_toArray, List.getElem_cons_zero, List.getElem_cons_succ, List.setIfInBounds_toArray, List.set_cons_zero, List.set_cons_succ]
  refine anyL_done (by kernel_rfl) ?_ _
  clear hS
  have hbw := HBW.out
  replace HM := Lib.hid (HM.out.below hbw)
  replace ZG := Lib.hid (ZG.out.below hbw)
  replace HRG := Lib.hid (HRG.out.below hbw)
  replace HRZ := Lib.hid (HRZ.out.below hbw)
  replace HB := Lib.hid (below_via HB.out hbw)
  clear hbw HBW HSK SKF HSG hbz hbz2 hsn HSZ z0 z1
  go_upto_region 14 with fail
  have hk0 : (0 : Int) < k := by rw [HKK.out]; have := HK0.out; omega
  have v5 := HV5.out HK0.out
  have HM_0 := HM.out.m0
  have HM_1 := HM.out.m1
  have HM_2 := HM.out.m2
  by_cases hl : 4096 < bn R (K - 1) * bn C (K - 1)
  · go_wp2_with fail
    (refine (HGB.out w11 hl).mono ?_)
    rintro e w40 ⟨rfl, hb⟩
    have hbx := below_via hb (bl_alloc w40 (.cells #[.bool false, .slice none 0 0] 49))
    replace HB := Lib.hid (below_via HB.out hbx)
    clear HM_0 HM_1 HM_2
    clear hb hbx HM ZG HRG HGB
    go_upto_region 16 with fail
    generalize w40.alloc (.cells #[.bool false, .slice none 0 0] 49) = w41 at *
    go_wp2_with fail
    refine bodyPost_ret (v := .bool true) ?_ rfl ⟨rfl, HB.out⟩
    simp [results, Try.results10, go_sem]
  · go_wp2_with fail
    (refine (HGL.out w11 HB.out (by omega)).mono ?_)
    rintro e w40 ⟨v, rfl, hf, hb⟩
    obtain ⟨ax, nx, cx, rfl, -⟩ := hf.agg
    rw [show decide ((L : Int) < 0) = false from decide_eq_false (by omega)] at hf ⊢
    have hba := bl_alloc w40 (.cells #[.bool false, .slice ax nx cx] 49)
    have hbx := below_via hb hba
    obtain ⟨y0, y1, -, -⟩ := two_cells w40 (.bool false) (.slice ax nx cx) 49
    have HRL := Lib.hid ((hf.below hba).rd HLZ.out HT.out)
    replace HM := Lib.hid (HM.out.below hbx)
    replace ZG := Lib.hid (ZG.out.below hbx)
    replace HRG := Lib.hid (HRG.out.below hbx)
    replace HRZ := Lib.hid (HRZ.out.below hbx)
    replace HB := Lib.hid (below_via HB.out hbx)
    clear HM_0 HM_1 HM_2
    clear hf hb hba hbx HGL HGB
    go_upto_region 16 with fail
    obtain ⟨xb, hxb⟩ : ∃ xb, xb = w40.heap.size := ⟨_, rfl⟩
    rw [← hxb] at y0 y1 ⊢
    clear hxb
    generalize w40.alloc (.cells #[.bool false, .slice ax nx cx] 49) = w41 at *
    go_wp2_with fail
    (refine (zSign_any _ _ w41 HRL.out).mono ?_)
    rintro e w42 ⟨rfl, hb⟩
    replace HM := Lib.hid (HM.out.below hb)
    replace ZG := Lib.hid (ZG.out.below hb)
    replace HRG := Lib.hid (HRG.out.below hb)
    replace HRZ := Lib.hid (HRZ.out.below hb)
    replace HRL := Lib.hid (HRL.out.below hb)
    replace HB := Lib.hid (below_via HB.out hb)
    replace y0 := cell_stays hb y0
    replace y1 := cell_stays hb y1
    clear hb
    have hdv := HGM.out HK0.out
    have x0 := ZG.out.m0
    have x1 := ZG.out.m1
    by_cases hL0 : L = 0
    · have hs : sgZ (L : Int) = 0 := by unfold sgZ; rw [if_pos (by omega)]
      have hG0 : sgZ (G : Int) = 0 := by
        have h1 : (G : Int) = 0 := by rw [hL0] at hdv; exact Int.zero_dvd.1 hdv
        unfold sgZ; rw [if_pos h1]
      rw [hs]
      go_wp2_with fail
      (refine (zSign_any _ _ w42 HRZ.out).mono ?_)
      rintro e w43 ⟨rfl, hb⟩
      rw [hG0]
      replace HB := Lib.hid (below_via HB.out hb)
      clear hb HM ZG HRG HRZ HRL
      go_wp2_with fail
      refine bodyPost_ret (v := .bool true) ?_ rfl ⟨rfl, HB.out⟩
      simp [results, Try.results10, go_sem]
    · have hs : sgZ (L : Int) = 1 := by unfold sgZ; rw [if_neg (by omega), if_neg (by omega)]
      rw [hs]
      have hL1 : (L : Int) ≠ 0 := by omega
      have hm0 : (G : Int).tmod L = 0 := Int.tmod_eq_zero_of_dvd hdv
      have HMO := Lib.hid (zMod_nn _ _ (G : Int) (L : Int) w42 hL1 (by rw [hm0]; decide) HRZ.out HRL.out)
      rw [hm0] at HMO
      clear hdv hm0 hL1 hL0 hs
      go_wp2_with fail
      (refine HMO.out.mono ?_)
      rintro e w43 ⟨v, rfl, hf, hb⟩
      obtain ⟨a4, n4, c4, rfl, -⟩ := hf.agg
      rw [show decide ((0 : Int) < 0) = false from rfl] at hf ⊢
      have hba := bl_alloc w43 (.cells #[.bool false, .slice a4 n4 c4] 49)
      have hbx := below_via hb hba
      obtain ⟨z0, z1, -, -⟩ := two_cells w43 (.bool false) (.slice a4 n4 c4) 49
      have HRQ := Lib.hid ((hf.below hba).rd (show ZB 1 0 by unfold ZB; decide) (by omega))
      replace HM := Lib.hid (HM.out.below hbx)
      replace ZG := Lib.hid (ZG.out.below hbx)
      replace HRG := Lib.hid (HRG.out.below hbx)
      replace HB := Lib.hid (below_via HB.out hbx)
      clear hf hb hba hbx HMO y0 y1 x0 x1 HRZ HRL
      go_upto_region 23 with fail
      obtain ⟨qb, hqb⟩ : ∃ qb, qb = w43.heap.size := ⟨_, rfl⟩
      rw [← hqb] at z0 z1 ⊢
      clear hqb
      generalize w43.alloc (.cells #[.bool false, .slice a4 n4 c4] 49) = w44 at *
      go_wp2_with fail
      (refine (zSign_any _ _ w44 HRQ.out).mono ?_)
      rintro e w45 ⟨rfl, hb⟩
      rw [show sgZ 0 = 0 from rfl]
      replace HM := Lib.hid (HM.out.below hb)
      replace ZG := Lib.hid (ZG.out.below hb)
      replace HRG := Lib.hid (HRG.out.below hb)
      replace HB := Lib.hid (below_via HB.out hb)
      clear hb z0 z1 HRQ
      go_upto_region 25 with fail
      have HM_0 := HM.out.m0
      have HM_1 := HM.out.m1
      have HM_2 := HM.out.m2
      by_cases g1 : i < 0
      · skip
        go_wp2_with fail
        refine bodyPost_ret (v := .bool true) ?_ rfl ⟨rfl, HB.out⟩
        simp [results, Try.results10, go_sem]
      · by_cases g2 : j < 0
        · skip
          go_wp2_with fail
          refine bodyPost_ret (v := .bool true) ?_ rfl ⟨rfl, HB.out⟩
          simp [results, Try.results10, go_sem]
        · by_cases g3 : r ≤ i
          · skip
            go_wp2_with fail
            refine bodyPost_ret (v := .bool true) ?_ rfl ⟨rfl, HB.out⟩
            simp [results, Try.results10, go_sem]
          · by_cases g4 : r ≤ j
            · skip
              go_wp2_with fail
              refine bodyPost_ret (v := .bool true) ?_ rfl ⟨rfl, HB.out⟩
              simp [results, Try.results10, go_sem]
            · by_cases g5 : i = j
              · skip
                go_wp2_with fail
                refine bodyPost_ret (v := .bool true) ?_ rfl ⟨rfl, HB.out⟩
                simp [results, Try.results10, go_sem]
              · have HIJ := Lib.hid (show 0 ≤ i ∧ 0 ≤ j ∧ i < r ∧ j < r ∧ i ≠ j by omega)
                have g6 : (i == j) = false := beq_eq_false_iff_ne.2 g5
                clear g5
                go_upto_region 27 with fail
                clear g1 g2 g3 g4 g6
                obtain ⟨h1, h2, h3, h4, h5⟩ := HIJ.out
                obtain ⟨I, rfl⟩ := Int.eq_ofNat_of_zero_le h1
                obtain ⟨Yr, rfl⟩ := Int.eq_ofNat_of_zero_le h2
                have hI : I < R := by have := HRR.out; omega
                have hJJ : Yr < R := by have := HRR.out; omega
                have hIJ : I ≠ Yr := fun e => h5 (by rw [e])
                clear h1 h2 h3 h4 h5 HIJ
                go_wp2_with fail
                (refine (HLOW.out w45 HB.out).mono ?_)
                rintro e w20 ⟨ll, rfl, hf, hb⟩
                have HGR := Lib.hid ((GgR.start (r := r) (c := c) hb hf).congr (F := stI A C I Yr 0) (fun q _ => (stI_zero A C I Yr q).symm))
                clear hf hb HLOW
                clear HM_0 HM_1 HM_2
                go_upto_region 28 with fail
                obtain ⟨mb, hmb⟩ : ∃ mb, mb = w20.heap.size := ⟨_, rfl⟩
                rw [← hmb] at HGR ⊢
                clear hmb
                generalize w20.alloc (.cells #[.int .i64 r, .int .i64 c, .slice (some ⟨ll, 0, none⟩) N N] 24) = w21 at *
                go_wp2_with fail
                go_loopw [21] (fun cv wr => ∃ t : Nat, t ≤ C ∧ cv = .int .i64 t ∧ GgR w45 wr mb ll N r c (stI A C I Yr t)) (fun cv _ => C - (intOf cv).toNat)
                case atStart => exact ⟨0, Nat.zero_le _, rfl, HGR.out⟩
                case round =>
                  clear HGR
                  obtain ⟨t, ht, rfl, hrel⟩ := hrel
                  by_cases htC : t < C
                  · have hcn := HCC.out
                    have hn4 := HN4.out
                    have ht1 : (t : Int) < c := by omega
                    obtain ⟨p, hp⟩ : ∃ p, p = I * C + t := ⟨_, rfl⟩
                    obtain ⟨q, hq⟩ : ∃ q, q = Yr * C + t := ⟨_, rfl⟩
                    have hpN : p < N := by have := (idx_lt hI htC rfl).1; rw [hp, HNN.out]; exact this
                    have hqN : q < N := by have := (idx_lt hJJ htC rfl).1; rw [hq, HNN.out]; exact this
                    have v0 : IntKind.i64.wrap ((I : Int) * c) = (I : Int) * (C : Int) := by rw [hcn]; exact IntWalk.i64_in _ (by rw [← Int.natCast_mul]; omega)
                    have v1 : IntKind.i64.wrap ((I : Int) * (C : Int) + (t : Int)) = (p : Int) := by rw [hp, Int.natCast_add, Int.natCast_mul]; exact IntWalk.i64_in _ (by rw [← Int.natCast_mul]; omega)
                    have v2 : IntKind.i64.wrap ((Yr : Int) * c) = (Yr : Int) * (C : Int) := by rw [hcn]; exact IntWalk.i64_in _ (by rw [← Int.natCast_mul]; omega)
                    have v3 : IntKind.i64.wrap ((Yr : Int) * (C : Int) + (t : Int)) = (q : Int) := by rw [hq, Int.natCast_add, Int.natCast_mul]; exact IntWalk.i64_in _ (by rw [← Int.natCast_mul]; omega)
                    have v4 : IntKind.i64.wrap ((t : Int) + 1) = (t : Int) + 1 := IntWalk.i64_in _ (by omega)
                    have hp1 : (p : Int) < (N : Int) := by omega
                    have hp0 : (0 : Int) ≤ (p : Int) := by omega
                    have hq1 : (q : Int) < (N : Int) := by omega
                    have hq0 : (0 : Int) ≤ (q : Int) := by omega
                    obtain ⟨s1, m1, d1, d2, d3, d4⟩ := hrel.l.cells p hpN
                    obtain ⟨s2, m2, e1, e2, e3, e4⟩ := hrel.l.cells q hqN
                    rw [stI_at A htC hp] at d3
                    rw [stI_off A htC hIJ hq] at e3
                    obtain ⟨a1, n1, p1, rfl⟩ := d3.agg
                    obtain ⟨a2, n2, p2, rfl⟩ := e3.agg
                    have hbr := hrel.b.m2
                    have hmr := (HM.out.below hrel.below).m1
                    have HSU := Lib.hid (zSub_any _ _ (A p) (A q) wr.drew (d3.1.below (bl_drew _)) (e3.1.below (bl_drew _)))
                    have HRL := Lib.hid hrel
                    have HPP := Lib.hid hp
                    have HQQ := Lib.hid hq
                    clear hrel d3 d4 e3 e4 hp hq hcn hn4
                    go_upto_region 31 with fail
                    refine region_early (fun u => u.cell? ⟨mb, 2, none⟩ = some (.slice (some ⟨ll, 0, none⟩) N N) ∧ u.cell? ⟨w.heap.size, 1, none⟩ = some (.int .i64 c) ∧ u.cell? ⟨ll, p * 2, none⟩ = some (.bool s1) ∧ u.cell? ⟨ll, p * 2 + 1, none⟩ = some (.slice a1 n1 p1) ∧ u.cell? ⟨ll, q * 2, none⟩ = some (.bool s2) ∧ u.cell? ⟨ll, q * 2 + 1, none⟩ = some (.slice a2 n2 p2)) 29 [0, 1, 2, 3, 4, 5, 6, 7, 8, 9, 10, 11, 12, 13, 14, 15, 16, 17, 18, 19, 20, 21, 22, 23, 24, 25, 26, 27] 3 hmix (by kernel_rfl) rfl (by kernel_rfl) (fun _ _ d _ _ h => by cases d <;> exact h) ⟨hbr, hmr, d1, d2, e1, e2⟩ ?_
                    iterate 28 (refine early_take rfl (by rfl) ?_; apply Exists.intro; refine ⟨fun u hu => ?_, ?_⟩; (obtain ⟨u_1, u_2, u_3, u_4, u_5, u_6⟩ := hu; go_simp; rfl); simp only [Act.put, List.getElem_toArray, List.getElem_cons_zero, List.getElem_cons_succ, List.setIfInBounds_toArray, List.set_cons_zero, List.set_cons_succ])
                    refine early_done ?_
                    simp only [marked]
                    refine anyL_one (i := 28) (by kernel_rfl) rfl (by rfl) fun J hJ => ?_
                    go_simp
                    refine HSU.out.mono ?_
                    rintro e w22 ⟨v8, rfl, hf8, hb8⟩
                    have hb' := below_via (bl_drew wr) hb8
                    have hr8 := HRL.out.on hb'
                    have hllt : ll < wr.heap.size := PaE.lt HRL.out.l
                    obtain ⟨u3, u4, g1, g2, g3, g4⟩ := hr8.l.ready hpN
                    obtain ⟨s7, a7, n7, p7, rfl, hp8⟩ := hr8.putz hpN hf8 (zb_maxs (HAZ.out p hpN) (HAZ.out q hqN) (Nat.le_refl _) (Nat.le_refl _)) HS1.out hllt
                    refine hJ _ _ (fun _ => ⟨cell_stays hb' hbr, cell_stays hb' hmr, cell_stays hb' d1, cell_stays hb' d2, cell_stays hb' e1, cell_stays hb' e2⟩) ?_
                    have HP8 := Lib.hid (hp8.congr (F := stI A C I Yr (t + 1)) (fun k _ => stI_next A htC HPP.out HQQ.out k))
                    clear hJ J hf8 hb8 hb' hr8 hp8 HSU HRL hbr hmr d1 d2 e1 e2
                    refine anyL_one (i := 29) (by kernel_rfl) rfl (by rfl) fun J hJ => ?_
                    go_simp
                    refine hJ _ _ (fun e => absurd e (by decide)) ?_
                    clear hJ J
                    refine anyL_one (i := 30) (by kernel_rfl) rfl (by rfl) fun J hJ => ?_
                    go_simp
                    refine hJ _ _ (fun e => absurd e (by decide)) ?_
                    clear hJ J
                    refine anyL_done (by kernel_rfl) ?_ _
                    clear g3 g4
                    go_wp2_with fail
                    go_roundw
                    case rel => exact ⟨t + 1, by omega, by go_num, HP8.out⟩
                    case measure => simp [intOf]; omega
                  · have htC2 : t = C := by omega
                    subst htC2
                    have hl := hrel.congr (F := stpE A t I Yr (-1)) (fun q hq => stI_end A (Nat.pos_of_ne_zero fun e => by have := HNN.out; rw [e, Nat.mul_zero] at this; omega) I Yr q)
                    have hn4 := HN4.out
                    have HGC2 := Lib.hid (HG2.out I Yr hI hJJ hIJ wr _ (hl.l.rd (Nat.le_refl _) (by omega)))
                    have b0 := hl.b.m0
                    have b1 := hl.b.m1
                    have b2 := hl.b.m2
                    have ZW := Lib.hid (ZG.out.below hl.below)
                    have HRW := Lib.hid (HRG.out.below hl.below)
                    have HBW := Lib.hid (below_via HB.out hl.below)
                    have hmr := (HM.out.below hl.below).m1
                    have hc1 : ¬ (t : Int) < c := by have := HCC.out; omega
                    clear hrel hl hn4 HG2 HM HB ZG HRG
                    go_wp2_with fail
                    (refine HGC2.out.mono ?_)
                    rintro e w30 ⟨v, rfl, hf, hb⟩
                    obtain ⟨ax, nx, cx, rfl, -⟩ := hf.agg
                    rw [show decide ((G : Int) < 0) = false from decide_eq_false (by omega)] at hf ⊢
                    have hba := bl_alloc w30 (.cells #[.bool false, .slice ax nx cx] 49)
                    have hbx := below_via hb hba
                    obtain ⟨y0, y1, -, -⟩ := two_cells w30 (.bool false) (.slice ax nx cx) 49
                    have HRX := Lib.hid ((hf.below hba).least)
                    replace ZW := Lib.hid (ZW.out.below hbx)
                    replace HRW := Lib.hid (HRW.out.below hbx)
                    replace HBW := Lib.hid (below_via HBW.out hbx)
                    clear hf hb hba hbx HGC2 b0 b1 b2 hmr
                    go_upto_region 33 with fail
                    obtain ⟨xb, hxb⟩ : ∃ xb, xb = w30.heap.size := ⟨_, rfl⟩
                    rw [← hxb] at y0 y1 ⊢
                    clear hxb
                    generalize w30.alloc (.cells #[.bool false, .slice ax nx cx] 49) = w31 at *
                    have x0 := ZW.out.m0
                    have x1 := ZW.out.m1
                    go_wp2_with fail
                    (refine (Like_yes _ _ (G : Int) w31 HRX.out HRW.out).mono ?_)
                    rintro e w32 ⟨rfl, hb⟩
                    replace HBW := Lib.hid (below_via HBW.out hb)
                    clear hb HRX HRW ZW x0 x1 y0 y1
                    go_wp2_with fail
                    refine bodyPost_ret (v := .bool true) ?_ rfl ⟨rfl, HBW.out⟩
                    simp [results, Try.results10, go_sem]
end Go.Proofs.Ytejliecmdkmgiaa
