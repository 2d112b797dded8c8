import Derived.Test.YtejliecmdkmgiaaGAG
import Derived.Test.YtejliecmdkmgiaaGAE
import Derived.Test.YtejliecmdkmgiaaGAD
import Derived.Test.YtejliecmdkmgiaaGX
import Derived.Test.YtejliecmdkmgiaaGE
set_option linter.unusedVariables false
set_option linter.unusedSimpArgs false
set_option maxHeartbeats 8000000
set_option maxRecDepth 100000
namespace Go.Proofs.Ytejliecmdkmgiaa
open Go.RowKit Go.Shelf
attribute [local go_sem] Oper.semAt_some
theorem Gcd_good (R C K S : Nat) (sl : Value) (A : Nat → Int) (w : World) (hR : R ≤ 64) (hC : C ≤ 64) (hKR : K ≤ R) (hKC : K ≤ C) (hbb : bn R K * bn C K ≤ 4096) (hS : S ≤ 268435456) (hr : RdE w sl (R * C) A) (hA : ∀ q, q < R * C → ZB S (A q)) :
    Calls Try.prog 60 #[.agg #[.int .i64 R, .int .i64 C, sl], .int .i64 K] w fun e w' => ∃ v, e = .returned (.tuple #[v, .int .i64 0]) ∧ FrZ w' w.heap.size v (gcM A R C K : Nat) ∧ Below w.heap.size w w' := by
  have hmix : Try.prog.follows .mixedOrders = true := by kernel_rfl
  have hK4 : R * C ≤ 4096 := Nat.mul_le_mul hR hC
  have hK64 : K ≤ 64 := by omega
  obtain ⟨a, cap, rfl, hcap⟩ := hr.slice
  have hms := fun (u : World) => msize_any R C a (R * C) cap K (by omega) u
  have hmz : mszE R C (R * C) K = 0 := by
    unfold mszE
    rw [checkE_ok hR hC rfl, if_pos rfl, if_neg (by omega)]
  rw [hmz] at hms
  have hmi := fun (u : World) (t j : Nat) (rv cv : Value) (hu : Below w.heap.size w u) (ht : t < bn R K) (hj : j < bn C K) (h1 : RdI64 u rv K (setS R K t)) (h2 : RdI64 u cv K (setS C K j)) => by
    have := Minor_good R C K S _ rv cv (setS C K j) (setS R K t) A u hR hC (by omega) hS (fun i hi => setS_lt hKR (no_last hKR ht) hi) (fun i hi => setS_lt hKC (no_last hKC hj) hi) (hr.below hu) hA h1 h2
    rw [← cpE_at hj] at this
    exact this
  have hrk := fun (u : World) (hu : Below w.heap.size w u) => Rank_good R C S _ A u hR hC hS (hr.below hu) hA
  have hez := cpE_zb hKR hKC (by omega) hA
  have hgz : ∀ q, q ≤ bn R K * bn C K → ZB (64 * (S + 1) + 1) (gcdS q (cpE A R C K) : Int) := fun q hq => gcdS_zb fun c hc => hez c (by omega)
  obtain ⟨N, hN⟩ : ∃ N, N = R * C := ⟨_, rfl⟩
  rw [← hN] at hms hmi hrk ⊢
  have HMS := Lib.hid hms
  have HMI := Lib.hid hmi
  have HRK := Lib.hid hrk
  have HEZ := Lib.hid hez
  have HGZ := Lib.hid hgz
  have HCR := Lib.hid (fun (u : World) => choices_good R K u hR hKR)
  have HCC := Lib.hid (fun (u : World) => choices_good C K u hC hKC)
  have HMU := Lib.hid (fun (u : World) => Mul64_nat (bn R K) (bn C K) (by have := bn_64 K hR; omega) (by have := bn_64 K hC; omega) u)
  rw [Nat.div_eq_of_lt (by omega), Nat.mod_eq_of_lt (by omega)] at HMU
  have HBB := Lib.hid hbb
  obtain ⟨hm, hk, hrr, he, hb, hs⟩ := boxes_gc w R C (.slice a N cap) (.int .i64 K)
  have HM := Lib.hid hm
  have HKC := Lib.hid hk
  have HRR := Lib.hid hrr
  have HEE := Lib.hid he
  have HB := Lib.hid hb
  have HS0 := Lib.hid hs
  have HKR := Lib.hid hKR
  have HKL := Lib.hid hKC
  have HPR := Lib.hid (bn_pos hKR)
  have HPC := Lib.hid (bn_pos hKC)
  obtain ⟨lo, hlo⟩ : ∃ lo : Int, lo = ((bn R K * bn C K : Nat) : Int) := ⟨_, rfl⟩
  have l1 : ¬ (4096 : Int) < lo := by omega
  rw [← hlo] at HMU
  clear hms hmi hez hgz hrk hm hk hrr he hb hs hr hA hN hmz hcap hKR hKC hK4 hbb hlo
  refine (callsIn_wide (n := 9)).1 ?_
  refine callsIn_of_wp_marks Try.func60 rfl trivial ?_ rfl
  simp only [Try.ntmps60, List.size_toArray, List.length_cons, List.length_nil, Nat.reduceAdd, Nat.reduceSub, Array.replicate_succ, Array.replicate_zero, List.push_toArray, List.append_toArray, List.nil_append, List.cons_append]
  refine wpIn_wide.2 ?_
  have HM_0 := HM.out.m0
  have HM_1 := HM.out.m1
  have HM_2 := HM.out.m2
  have k0 := HKC.out
  go_upto_region 1 with fail
  generalize (((w.alloc (.cells #[.int .i64 R, .int .i64 C, .slice a N cap] 24)).alloc (.cells #[.int .i64 K] 3)).alloc (.cells #[.bool false, .slice none 0 0] 49)).alloc (.cells #[.int .i64 0] 26) = W at *
  go_wp2_with fail
  (refine (HMS.out W).mono ?_)
  rintro e w1 ⟨rfl, hb⟩
  replace HM := Lib.hid (HM.out.below hb)
  replace HRR := Lib.hid (HRR.out.below hb)
  replace HB := Lib.hid (below_via HB.out hb)
  replace HKC := Lib.hid (cell_stays hb HKC.out)
  replace HEE := Lib.hid (And.intro (cell_stays hb HEE.out.1) (froz_stays hb HEE.out.1 HEE.out.2))
  replace HS0 := Lib.hid (show w.heap.size + 4 ≤ w1.heap.size by have := HS0.out; have := hb.size; omega)
  clear HM_0 HM_1 HM_2
  clear hb HMS k0
  have HM_0 := HM.out.m0
  have HM_1 := HM.out.m1
  have HM_2 := HM.out.m2
  have k0 := HKC.out
  go_upto_region 4 with fail
  refine Code.wp_mono (Q := Exit.then _ (fun _ _ _ => False)) (fun e a w h => by cases e <;> first | exact h | exact h.elim) ?_
  refine region_early (fun u => u.cell? ⟨w.heap.size, 0, none⟩ = some (.int .i64 R) ∧ u.cell? ⟨w.heap.size, 1, none⟩ = some (.int .i64 C) ∧ u.cell? ⟨w.heap.size + 1, 0, none⟩ = some (.int .i64 K)) 14 [0, 1, 2, 4, 5, 6] 8 hmix (by kernel_rfl) rfl (by kernel_rfl) (fun _ _ d _ _ h => by cases d <;> exact h) ⟨HM_0, HM_1, k0⟩ ?_
  iterate 6 (refine early_take rfl (by rfl) ?_; apply Exists.intro; refine ⟨fun u hu => ?_, ?_⟩; (obtain ⟨u_1, u_2, u_3⟩ := hu; go_simp; rfl); simp only [Act.put, List.getElem_toArray, List.getElem_cons_zero, List.getElem_cons_succ, List.setIfInBounds_toArray, List.set_cons_zero, List.set_cons_succ])
  refine early_done ?_
  simp only [marked]
  refine anyL_one (i := 3) (by kernel_rfl) rfl (by rfl) fun J hJ => ?_
  go_simp
  refine (HCR.out w1.drew).mono ?_
  rintro e w2 ⟨rfl, hb⟩
  have hb' := below_via (bl_drew w1) hb
  have hS := And.intro (cell_stays hb' HM_0) (And.intro (cell_stays hb' HM_1) (cell_stays hb' k0))
  refine hJ _ _ (fun _ => hS) ?_
  have HB2 := Lib.hid hb'
  clear hJ J hb hb'
  refine anyL_one (i := 7) (by kernel_rfl) rfl (by rfl) fun J hJ => ?_
  go_simp
  refine (HCC.out w2).mono ?_
  rintro e w3 ⟨rfl, hb⟩
  have hb' := below_via HB2.out hb
  have hS3 := And.intro (cell_stays hb' HM_0) (And.intro (cell_stays hb' HM_1) (cell_stays hb' k0))
  refine hJ _ _ (fun _ => hS3) ?_
  replace HM := Lib.hid (HM.out.below hb')
  replace HRR := Lib.hid (HRR.out.below hb')
  replace HB := Lib.hid (below_via HB.out hb')
  replace HKC := Lib.hid (cell_stays hb' HKC.out)
  replace HEE := Lib.hid (And.intro (cell_stays hb' HEE.out.1) (froz_stays hb' HEE.out.1 HEE.out.2))
  replace HS0 := Lib.hid (Nat.le_trans HS0.out hb'.size)
  clear HM_0 HM_1 HM_2
  clear hJ J hb hb' hS k0 HCR HCC HB2
  refine anyL_one (i := 8) (by kernel_rfl) rfl (by rfl) fun J hJ => ?_
  go_simp
  refine (HMU.out w3).mono ?_
  rintro e w4 ⟨rfl, rfl⟩
  refine hJ _ _ (fun _ => hS3) ?_
  clear hJ J
  refine anyL_yield (i := 9) rfl (by kernel_rfl) (by kernel_rfl) (by kernel_rfl) (by kernel_rfl) (fun _ _ d _ _ h => by cases d <;> exact h) (by rfl) hS3 ?_
  apply Exists.intro
  refine ⟨fun u => ?_, ?_⟩
  · go_simp
    rfl
  simp only [Act.put, List.getElem_toArray, List.getElem_cons_zero, List.getElem_cons_succ, List.setIfInBounds_toArray, List.set_cons_zero, List.set_cons_succ]
  refine anyL_yield (i := 10) rfl (by kernel_rfl) (by kernel_rfl) (by kernel_rfl) (by kernel_rfl) (fun _ _ d _ _ h => by cases d <;> exact h) (by rfl) hS3 ?_
  apply Exists.intro
  refine ⟨fun u => ?_, ?_⟩
  · go_simp
    rfl
  simp only [Act.put, List.getElem_toArray, List.getElem_cons_zero, List.getElem_cons_succ, List.setIfInBounds_toArray, List.set_cons_zero, List.set_cons_succ]
  refine anyL_yield (i := 11) rfl (by kernel_rfl) (by kernel_rfl) (by kernel_rfl) (by kernel_rfl) (fun _ _ d _ _ h => by cases d <;> exact h) (by rfl) hS3 ?_
  apply Exists.intro
  refine ⟨fun u => ?_, ?_⟩
  · go_simp
    rfl
  simp only [Act.put, List.getElem_toArray, List.getElem_cons_zero, List.getElem_cons_succ, List.setIfInBounds_toArray, List.set_cons_zero, List.set_cons_succ]
  refine anyL_one (i := 12) (by kernel_rfl) rfl (by rfl) fun J hJ => ?_
  go_simp
  refine hJ _ _ (fun _ => hS3) ?_
  clear hJ J
  refine anyL_one (i := 13) (by kernel_rfl) rfl (by rfl) fun J hJ => ?_
  go_simp
  refine hJ _ _ (fun _ => hS3) ?_
  clear hJ J
  refine anyL_done (by kernel_rfl) ?_ _
  clear hS3 HMU
  go_wp2_with fail
  (refine (zOf_fr 1 (by omega) (by omega) w4).mono ?_)
  rintro e w5 ⟨v, rfl, hf, hb⟩
  obtain ⟨am, an, ac, rfl, hao⟩ := hf.agg
  rw [show decide ((1 : Int) < 0) = false from rfl] at hf ⊢
  obtain ⟨ho1, ho2, hbo, hso⟩ := two_zb w5 false false (.slice none 0 0) (.slice am an ac)
  have hbx := below_via hb hbo
  replace HM := Lib.hid (HM.out.below hbx)
  replace HRR := Lib.hid (HRR.out.below hbx)
  replace HB := Lib.hid (below_via HB.out hbx)
  replace HKC := Lib.hid (cell_stays hbx HKC.out)
  replace HEE := Lib.hid (And.intro (cell_stays hbx HEE.out.1) (froz_stays hbx HEE.out.1 HEE.out.2))
  replace HS0 := Lib.hid (show w.heap.size + 4 ≤ w5.heap.size from Nat.le_trans HS0.out hb.size)
  have HZG := Lib.hid ho1
  have HZO := Lib.hid ho2
  have HO1 := Lib.hid ((hf.below hbo).rd (S := 1) (show ZB 1 1 by unfold ZB; decide) (by omega))
  have HFG := Lib.hid (hf.below hbo)
  have HO2 := Lib.hid (show ∀ b, (Value.slice am an ac).ownBlock = some b → b < w5.heap.size from fun b e => (hao b e).2)
  have HS1 := Lib.hid hso
  clear hf hao hbo hbx ho1 ho2 hb hso
  go_upto_region 8 with fail
  have HS2 := Lib.hid (show ((w5.alloc (.cells #[.bool false, .slice none 0 0] 49)).alloc (.cells #[.bool false, .slice am an ac] 49)).heap.size = w5.heap.size + 2 from HS1.out)
  clear HS1
  obtain ⟨gb, hgb⟩ : ∃ gb, gb = w5.heap.size := ⟨_, rfl⟩
  rw [← hgb] at HZG HZO HO2 HS2 HS0 ⊢
  clear hgb
  generalize (w5.alloc (.cells #[.bool false, .slice none 0 0] 49)).alloc (.cells #[.bool false, .slice am an ac] 49) = w6 at *
  clear HFG
  have HM_0 := HM.out.m0
  have HM_1 := HM.out.m1
  have HM_2 := HM.out.m2
  go_wp2_with fail
  (refine (HRK.out w6 HB.out).mono ?_)
  rintro e w7 ⟨rk, P, rfl, hpv, hb⟩
  have HRV := Lib.hid (gcM_rank (K := K) A hpv)
  replace HM := Lib.hid (HM.out.below hb)
  replace HRR := Lib.hid (HRR.out.below hb)
  replace HZG := Lib.hid (HZG.out.below hb)
  replace HZO := Lib.hid (HZO.out.below hb)
  replace HO1 := Lib.hid (HO1.out.below hb)
  replace HB := Lib.hid (below_via HB.out hb)
  replace HKC := Lib.hid (cell_stays hb HKC.out)
  replace HEE := Lib.hid (And.intro (cell_stays hb HEE.out.1) (froz_stays hb HEE.out.1 HEE.out.2))
  replace HS2 := Lib.hid (show gb + 2 ≤ w7.heap.size by have := HS2.out; have := hb.size; omega)
  clear HM_0 HM_1 HM_2
  clear hb HRK hpv
  have HM_0 := HM.out.m0
  have HM_1 := HM.out.m1
  have HM_2 := HM.out.m2
  have k0 := HKC.out
  go_upto_region 9 with fail
  by_cases hrkK : (rk : Int) < (K : Int)
  · have z0 := HZG.out.m0
    have z1 := HZG.out.m1
    have r0 := HRR.out.m0
    have r1 := HRR.out.m1
    have r2 := HRR.out.f0
    have r3 := HRR.out.f1
    have e0 := HEE.out.1
    have e1 := HEE.out.2
    have g1 := stored2_gb w7 (w.heap.size + 1 + 1) (.bool false) (.slice none 0 0)
    have hr1 := HRR.out.store (s' := false) (v' := .slice none 0 0)
    have hb1 := HB.out.grown g1 HB.out.size (fun b e => by cases e; omega)
    have he1 := g1.cell HEE.out.1 (fun e => by injection e with e; have e2 : w.heap.size + 1 + 1 + 1 = w.heap.size + 1 + 1 := e; omega)
    have hf1 := froz_grown g1 (show w.heap.size + 1 + 1 + 1 ≠ w.heap.size + 1 + 1 by omega) HEE.out.1 HEE.out.2
    have g2 : (stored2 w7 (w.heap.size + 1 + 1) (.bool false) (.slice none 0 0)).grownBy ((stored2 w7 (w.heap.size + 1 + 1) (.bool false) (.slice none 0 0)).setCell ⟨w.heap.size + 1 + 1 + 1, 0, none⟩ (.int .i64 0)) (some (w.heap.size + 1 + 1 + 1)) := gb_set _ _ _
    have hr2 := hr1.grown g2 (by omega)
    have HB2 := Lib.hid (hb1.grown g2 hb1.size (fun b e => by cases e; omega))
    have q0 := World.cell?_setCell_same _ _ (Value.int .i64 0) he1
    have p0 := hr2.m0
    have p1 := hr2.m1
    unfold stored2 at he1 hf1 p0 p1 q0 HB2
    have HG0 := Lib.hid (HRV.out.2 (Or.inl (by omega)))
    clear g1 g2 hr1 hr2 hb1 HRR HEE HB HM HZG HZO HO1 HO2 HRV
    go_wp2_with fail
    refine ⟨.tuple #[.agg #[.bool false, .slice none 0 0], .int .i64 0], ?_, _, rfl, ?_, HB2.out⟩
    · simp [results, Try.results60, go_sem, p0, p1, q0]
    · rw [HG0.out]
      exact frz_nil _ _
  have HGN := Lib.hid (show gcM A R C K ≠ 0 from fun e => by
    have hk := HKR.out
    have hl := HKL.out
    rcases HRV.out.1 e with h | h | h <;> omega)
  clear HRV
  go_wp2_with fail
  (refine (Sets_any R K w7).mono ?_)
  rintro e w8 ⟨rfl, hw8⟩
  obtain ⟨n0, n1, hb8, hs8⟩ := two_boxes' w7 (.int .i64 R) (.int .i64 K) 3 3
  rw [← hw8] at n0 n1 hb8 hs8
  have hC0 : GcB w R C (.slice a N cap) K w7.heap.size (w7.heap.size + 1) gb (.slice am an ac) (fun b => w8.heap.size + 2 < b) (.slice none 0 0) 0 w8 :=
    ⟨below_via HB.out hb8, HM.out.below hb8, cell_stays hb8 HKC.out, HRR.out.below hb8, ⟨cell_stays hb8 HEE.out.1, froz_stays hb8 HEE.out.1 HEE.out.2⟩, ⟨HZG.out.below hb8, frz_nil _ _, fun b e => by simp [Value.ownBlock] at e⟩, HZO.out.below hb8, HO1.out.below hb8, HO2.out, n0, n1, HS0.out, by have := HS2.out; omega, by omega⟩
  have HC0 := Lib.hid hC0
  have HS8 := Lib.hid hs8
  clear hC0 hs8 hb8 n0 n1 hw8 HB HM HKC HRR HEE HZG HZO HO1 HO2 HS2 HS0 HM_0 HM_1 HM_2 k0
  go_wp2_with fail
  obtain ⟨nb, hnb⟩ : ∃ nb, nb = w7.heap.size := ⟨_, rfl⟩
  obtain ⟨kb, hkb⟩ : ∃ kb, kb = w7.heap.size + 1 := ⟨_, rfl⟩
  rw [← hkb, ← hnb] at HC0
  rw [← hkb, ← hnb]
  have HKB := Lib.hid (show kb < w8.heap.size by have := HS8.out; omega)
  clear hnb hkb HS8
  refine (wpIn_wide (n := 9)).1 ?_
  refine range_boxed (n := 9) (by omega) (gf := 167) (lb := #[.pointer (some ⟨nb, 0, none⟩), .pointer (some ⟨kb, 0, none⟩)]) rfl (enters_of Try.func167 (by kernel_rfl) rfl) rfl
    (fun t => ∃ s, t = s + 1 ∧ (∀ r, r < s → ¬ LastS R K r) ∧ LastS R K s) (fun g => .slice (some ⟨g, 0, none⟩) K K) (fun t W0 W g => RowS (w8.heap.size + 1) R K t W0 W (.slice (some ⟨g, 0, none⟩) K K))
    (fun t W => ∃ mg, GcB w R C (.slice a N cap) K nb kb gb (.slice am an ac) (fun b => w8.heap.size + 2 < b) mg (gcdS (t * bn C K) (cpE A R C K)) W) (fun c W => c = .ret ∧ gcM A R C K = 1 ∧ GcX w (fun b => w8.heap.size + 2 < b) W)
    (fun t W0 v bx W => (∀ s, s < t → ¬ LastS R K s) ∧ w8.heap.size + 2 < W0.heap.size ∧ W0.heap.size < bx ∧ bx < W.heap.size ∧ W.cell? ⟨bx, 0, none⟩ = some (.slice (some ⟨v, 0, none⟩) K K) ∧ v = W0.heap.size ∧ NumL W W0.heap.size (.slice (some ⟨v, 0, none⟩) K K) K (setS R K t) ∧ W0.grownBy W (some (w8.heap.size + 1)))
    ?ax ?inv ?invx ?seq ⟨_, by rw [Nat.zero_mul]; exact HC0.out⟩ ?round ?done ?stop
  case ax =>
    rintro t W0 v bx W W' ⟨h1, h2, h3, h4, h5, rfl, h6, h7⟩ hg
    exact ⟨h1, h2, h3, Nat.lt_of_lt_of_le h4 hg.size, hg.cell h5 (fun e => by injection e with e; have h : bx = w8.heap.size + 1 := e; omega), rfl, World.ownsRow.kept h6 hg (Or.inr fun e => by simp [Value.ownBlock] at e; omega), gb_trans h7 hg⟩
  case inv =>
    rintro t W W' r ⟨mv, h1⟩ hg hr
    have hk := HKB.out
    exact ⟨mv, h1.grown hg (fun b e => by rcases hr b e with h | h <;> exact ⟨by omega, by omega⟩)⟩
  case invx =>
    rintro c W W' r ⟨h1, h2, h3⟩ hg hr
    have hk := HKB.out
    have hl := HC0.out.lm
    have hn := HC0.out.ln
    have hk2 := HC0.out.lk
    exact ⟨h1, h2, h3.grown hg (fun b e => by have := hr b e; exact ⟨by omega, by omega⟩)⟩
  case seq =>
    intro l J Jx W hW j1 j2 j3 j4
    refine (sets1_in 8 (by omega) nb kb R K (w8.heap.size + 2) hR HKR.out l J Jx W hW.symm j1 (fun t W h => ?_) (fun t W0 W h1 h2 h3 h4 h5 h6 h7 => j3 t W0 W W0.heap.size ⟨h1, h4, h6, rfl, h7, gb_below h5 _⟩ h2 h3) j4).mono ?_
    · obtain ⟨mv, h⟩ := j2 t W h
      exact ⟨h.nn, h.kk⟩
    · rintro e W' ⟨hv, (⟨t, h1, h2, h3⟩ | h)⟩
      · exact ⟨hv, Or.inl ⟨t + 1, ⟨t, rfl, h1, h2⟩, h3⟩⟩
      · exact ⟨hv, Or.inr h⟩
  case stop =>
    rintro D c W rfl ⟨rfl, h1, h2⟩ hD
    have hk := HKB.out
    have hlm := HC0.out.lm
    have hln := HC0.out.ln
    have hlk := HC0.out.lk
    have gq := grownBy_putObj' W w8.heap.size (.deferred none)
    have h3 := h2.grown gq (fun b e => by cases e; exact ⟨by omega, by omega⟩)
    obtain ⟨mg, hv⟩ := h3.v
    have p0 := hv.1.m0
    have p1 := hv.1.m1
    have q0 := h3.e
    refine wpIn_ret ?_
    refine ⟨by simp, .inl ⟨_, _, rfl, run_takeDeferred hD, ?_⟩⟩
    refine ⟨.tuple #[.agg #[.bool false, mg], .int .i64 0], ?_, _, rfl, by rw [h1]; exact hv.2.1, h3.bel⟩
    simp [results, Try.results60, go_sem, p0, p1, q0]
  case done =>
    rintro D t W rfl ⟨s, rfl, hls, hlast⟩ ⟨mg, hc⟩ hD
    have ht := last_bn HKR.out hls hlast
    rw [ht] at hc
    obtain ⟨n, hn⟩ : ∃ n, n = gcdS (bn R K * bn C K) (cpE A R C K) := ⟨_, rfl⟩
    rw [← hn] at hc
    have HNN := Lib.hid (show gcM A R C K = n from hn.symm)
    obtain ⟨ga, gn, gc, rfl⟩ := hc.g.slice
    have hk := HKB.out
    have hlm := hc.lm
    have hln := hc.ln
    have hlk := hc.lk
    have g1 := stored2_gb W (w.heap.size + 1 + 1) (.bool false) (.slice ga gn gc)
    have hr1 := hc.r.store (s' := false) (v' := .slice ga gn gc)
    have hz1 := hc.g.2.1.gap g1 (fun d hd e => by cases hd; have := hc.g.2.2 _ e; omega)
    have hb1 := hc.bel.grown g1 hc.bel.size (fun b e => by cases e; omega)
    have he1 := g1.cell hc.e.1 (fun e => by injection e with e; have e2 : w.heap.size + 1 + 1 + 1 = w.heap.size + 1 + 1 := e; omega)
    have hf1 := froz_grown g1 (show w.heap.size + 1 + 1 + 1 ≠ w.heap.size + 1 + 1 by omega) hc.e.1 hc.e.2
    have hd1 := (g1.block w8.heap.size (Array.getElem?_eq_some_iff.1 hD).1 (fun e => by injection e with e; omega)).trans hD
    have g2 : (stored2 W (w.heap.size + 1 + 1) (.bool false) (.slice ga gn gc)).grownBy ((stored2 W (w.heap.size + 1 + 1) (.bool false) (.slice ga gn gc)).setCell ⟨w.heap.size + 1 + 1 + 1, 0, none⟩ (.int .i64 0)) (some (w.heap.size + 1 + 1 + 1)) := gb_set _ _ _
    have hr2 := hr1.grown g2 (by omega)
    have hz2 := hz1.gap g2 (fun d hd e => by cases hd; have := hc.g.2.2 _ e; omega)
    have hb2 := hb1.grown g2 hb1.size (fun b e => by cases e; omega)
    have he2 := World.cell?_setCell_same _ _ (Value.int .i64 0) he1
    have hd2 := (g2.block w8.heap.size (Array.getElem?_eq_some_iff.1 hd1).1 (fun e => by injection e with e; omega)).trans hd1
    have x0 := hc.g.1.m0
    have x1 := hc.g.1.m1
    have r0 := hc.r.m0
    have r1 := hc.r.m1
    have r2 := hc.r.f0
    have r3 := hc.r.f1
    have e0 := hc.e.1
    have e1 := hc.e.2
    have HF1 := hf1
    have HZ2 := Lib.hid hz2
    have HB2 := Lib.hid hb2
    have HD2 := Lib.hid hd2
    have HR2 := Lib.hid hr2
    have HE2 := Lib.hid he2
    have HE1 := he1
    have HGO := Lib.hid hc.g.2.2
    have HSM := Lib.hid (show w.heap.size + 1 + 1 + 1 < w8.heap.size by omega)
    clear hls hlast hc hD ht hk hlm hln hlk g1 g2 hr1 hr2 hz1 hz2 hb1 hb2 he1 he2 hf1 hd1 hd2 hn
    unfold stored2 at HF1 HE1
    go_wp2_with fail
    unfold stored2 at HZ2 HB2 HD2 HR2 HE2
    generalize (((W.setCell ⟨w.heap.size + 1 + 1, 0, none⟩ (.bool false)).setCell ⟨w.heap.size + 1 + 1, 1, none⟩ (.slice ga gn gc))).setCell ⟨w.heap.size + 1 + 1 + 1, 0, none⟩ (.int .i64 0) = W9 at *
    have gq := grownBy_putObj' W9 w8.heap.size (.deferred none)
    have hsm := HSM.out
    have hr3 := HR2.out.grown gq (by omega)
    have p0 := hr3.m0
    have p1 := hr3.m1
    have q0 := gq.cell HE2.out (fun e => by injection e with e; have e2 : w.heap.size + 1 + 1 + 1 = w8.heap.size := e; omega)
    have hz3 := HZ2.out.gap gq (fun d hd e => by cases hd; have := HGO.out _ e; omega)
    have hb3 := HB2.out.grown gq HB2.out.size (fun b e => by cases e; omega)
    refine ⟨by simp, .inl ⟨_, _, rfl, run_takeDeferred HD2.out, ?_⟩⟩
    refine ⟨.tuple #[.agg #[.bool false, .slice ga gn gc], .int .i64 0], ?_, _, rfl, by rw [HNN.out]; exact hz3, hb3⟩
    simp [results, Try.results60, go_sem, p0, p1, q0]
  case round =>
    intro l t v hlrec
    refine ⟨_, fun W0 W K0 i0 i1 hrow hK => by
      obtain ⟨g1, g2, g3, g4, g5, g6⟩ := hrow
      obtain ⟨mv, h1⟩ := i1
      have hba := bl_alloc W (.cells #[.slice (some ⟨v, 0, none⟩) K K] 70)
      have hone := (one_cell' W (.slice (some ⟨v, 0, none⟩) K K) 70).1
      have hlt : W.heap.size < (W.alloc (.cells #[.slice (some ⟨v, 0, none⟩) K K] 70)).heap.size := by simp
      have hX := hba.block (w8.heap.size + 2) (by omega)
      have HG4 := Lib.hid (show v = W0.heap.size by injection g4 with e _ _; injection e with e; injection e)
      clear g4
      gi_wp2
      generalize hbx : W.heap.size = bx at *
      exact hK bx _ (KeepsOthers.alloc _ _) hX ⟨mv, h1.grown (gb_below (hbx.symm ▸ hba) none) (fun _ e => by cases e)⟩ ⟨g1, g2, by omega, hlt, hone, HG4.out, g5.below (hbx.symm ▸ hba), gb_trans g6 (gb_below (hbx.symm ▸ hba) _)⟩, ?_⟩
    rintro W0 W bx ⟨r0, hr0⟩ ⟨mv0, hc0⟩ - ⟨hl, hX, hb0, hb1, hbc, rfl, hnum, hgr⟩
    have ht := lt_bn HKR.out hl
    have hk := HKB.out
    have HC1 := Lib.hid ((hc0.imp (P' := fun b => w8.heap.size + 2 < b ∧ b < W0.heap.size) (fun b _ h1 h2 => ⟨h2, h1⟩)).grown hgr (fun b e => by cases e; exact ⟨by omega, by omega⟩))
    have HNU := Lib.hid hnum
    have HBC := Lib.hid hbc
    have HXX := Lib.hid (show w8.heap.size + 2 < W0.heap.size ∧ W0.heap.size < bx ∧ bx < W.heap.size from ⟨hX, hb0, hb1⟩)
    have HT := Lib.hid ht
    have HL0 := Lib.hid hr0
    clear hc0 hnum hbc hX hb0 hb1 ht hr0 hgr hl
    have x1 := HC1.out.a.m1
    have k0 := HC1.out.k
    gi_wp2
    refine ⟨trivial, (CallsIn.inRound _ (callsIn_wide.2 (Sets_any C K W))).mono ?_⟩
    rintro e W1 ⟨rfl, hw1⟩
    obtain ⟨n0, n1, hb1, hs1⟩ := two_boxes' W (.int .i64 C) (.int .i64 K) 3 3
    rw [← hw1] at n0 n1 hb1 hs1
    have hxx := HXX.out
    have hlw := (Array.getElem?_eq_some_iff.1 HL0.out).1
    have HL1 := Lib.hid ((hb1.block _ hlw).trans HL0.out)
    have hI0 : GcI w R C (.slice a N cap) K nb kb gb (.slice am an ac) (w8.heap.size + 2) W0.heap.size bx W.heap.size (W.heap.size + 1) (W1.heap.size + 1) t W mv0 (gcdS (t * bn C K) (cpE A R C K)) W1 :=
      { b := (HC1.out.below hb1).imp (fun b _ _ h => ⟨h.1, Or.inl h.2⟩), r := cell_stays hb1 HBC.out, c2 := n0, c3 := n1, nu := HNU.out.below hb1, kx := Kx.below hb1 (by omega)
        h1 := by have := HKB.out; omega, h2 := hxx.1, h3 := hxx.2.1, h4 := hxx.2.2, h5 := by omega, h6 := by omega, h7 := rfl }
    have HI0 := Lib.hid hI0
    have HS1 := Lib.hid hs1
    clear hw1 n0 n1 hb1 hs1 hxx hlw x1 k0 HL0 HC1 HNU HBC hI0
    gi_wp2
    refine range_inner (n := 7) (r₀ := r0) HL1.out (by omega) (gf := 167) (lb := #[.pointer (some ⟨W.heap.size, 0, none⟩), .pointer (some ⟨W.heap.size + 1, 0, none⟩)]) rfl (enters_of Try.func167 (by kernel_rfl) rfl) rfl
      (fun j => ∃ s, j = s + 1 ∧ (∀ r, r < s → ¬ LastS C K r) ∧ LastS C K s) (RowS W1.heap.size C K) (fun t W0 W W' v h hg => h.put hg)
      (fun j V => ∃ mg, GcI w R C (.slice a N cap) K nb kb gb (.slice am an ac) (w8.heap.size + 2) W0.heap.size bx W.heap.size (W.heap.size + 1) (W1.heap.size + 1) t W mg (gcdS (t * bn C K + j) (cpE A R C K)) V)
      (fun c V => c = .ret ∧ gcM A R C K = 1 ∧ KeepsOthers W V ∧ GcX w (fun b => w8.heap.size + 2 < b ∧ (b < W0.heap.size ∨ W1.heap.size + 1 < b)) V)
      ?inv2 ?invx2 ?seq2 ⟨_, HI0.out⟩ ?round2 ?done2 ?stop2
    case inv2 =>
      rintro j V V' r ⟨mg, h1⟩ hg hr
      exact ⟨mg, h1.grown hg (fun b e => by rcases hr b e with h | h; exact Or.inr (by omega); exact Or.inl h)⟩
    case invx2 =>
      rintro c V V' r ⟨h1, h2, h3, h4⟩ hg hr
      have hx := HXX.out
      have hl := HC0.out.lm
      have hn := HC0.out.ln
      have hk2 := HC0.out.lk
      have hk := HKB.out
      have hs1 := HS1.out
      exact ⟨h1, h2, KeepsOthers.grow h3 hg (fun b e => by have := hr b e; omega), h4.grown hg (fun b e => by have := hr b e; exact ⟨by omega, by omega⟩)⟩
    case seq2 =>
      intro l2 J Jx V hV j1 j2 j3 j4
      refine (sets1_in 6 (by omega) W.heap.size (W.heap.size + 1) C K (W1.heap.size + 1) hC HKL.out l2 J Jx V hV.symm j1 (fun j V h => ?_) (fun j V0 V h1 h2 h3 h4 h5 h6 h7 => j3 j V0 V _ ⟨h1, h4, h6, rfl, h7, gb_below h5 _⟩ h2 h3) j4).mono ?_
      · obtain ⟨mg, h⟩ := j2 j V h
        exact ⟨h.c2, h.c3⟩
      · rintro e V' ⟨hv, (⟨j, h1, h2, h3⟩ | h)⟩
        · exact ⟨hv, Or.inl ⟨j + 1, ⟨j, rfl, h1, h2⟩, h3⟩⟩
        · exact ⟨hv, Or.inr h⟩
    case stop2 =>
      rintro c V ⟨rfl, h1, h2, h3⟩
      exact wpIn_ret ⟨h2, rfl, h1, h3.imp (fun b _ _ h => h.1)⟩
    case done2 =>
      rintro j V ⟨s, rfl, hls, hlast⟩ ⟨mg, hi⟩
      have hj := last_bn HKL.out hls hlast
      have he : (t + 1) * bn C K = t * bn C K + (s + 1) := by rw [Nat.add_mul, Nat.one_mul, hj]
      exact ⟨hi.kx.1, hi.kx.2.1, mg, by rw [he]; exact hi.b.imp (fun b _ _ h => h.1)⟩
    case round2 =>
      intro l2 j v
      refine ⟨_, fun V K0 hK => by gi_wp2; exact hK, ?_⟩
      rintro V0 V - ⟨mg, hi⟩ ⟨g1, g2, g3, rfl, g5, g6⟩
      have hj := lt_bn HKL.out g1
      have hmi := HMI.out V t j _ _ hi.b.bel HT.out hj (hi.nu.read (by omega)) (g5.read (by omega))
      have hjt : t * bn C K + j < bn R K * bn C K := (idx_lt HT.out hj rfl).1
      have hez := HEZ.out _ hjt
      obtain ⟨n, hn⟩ : ∃ n, n = t * bn C K + j := ⟨_, rfl⟩
      rw [← hn] at hmi hez hjt hi
      obtain ⟨z, hz⟩ : ∃ z, z = cpE A R C K n := ⟨_, rfl⟩
      rw [← hz] at hmi hez
      obtain ⟨ga, gn, gc, rfl⟩ := hi.b.g.slice
      have HNN := Lib.hid hn
      have HMC := Lib.hid hmi
      have HZZ := Lib.hid hz
      have HZB := Lib.hid hez
      have HI := Lib.hid hi
      have HV := Lib.hid (show W1.heap.size + 1 < V.heap.size by omega)
      have HVV := HV
      have HJT := Lib.hid hjt
      have x0 := hi.b.a.m0
      have x1 := hi.b.a.m1
      have x2 := hi.b.a.m2
      have r0 := hi.r
      clear hmi hz hez hi hj hjt hn g1 g2 g3 g5 g6
      gi_wp2
      refine ⟨trivial, (CallsIn.inRound _ (callsIn_wide.2 HMC.out)).mono ?_⟩
      rintro e V2 ⟨v, rfl, hf, hb2⟩
      obtain ⟨xm, xn, xc, rfl, hao⟩ := hf.agg
      have hba := bl_alloc V2 (.cells #[.bool (decide (z < 0)), .slice xm xn xc] 49)
      have hbx := below_via hb2 hba
      obtain ⟨y0, y1, -, -⟩ := two_cells V2 (.bool (decide (z < 0))) (.slice xm xn xc) 49
      have HI2 := Lib.hid (HI.out.below hbx)
      have HV2 := Lib.hid (Nat.lt_of_lt_of_le HV.out hbx.size)
      have HKV := Lib.hid (Kx.below (X := W1.heap.size + 1) hbx HV.out)
      have HX2 := Lib.hid ((hf.below hba).rd HZB.out (by omega))
      clear hf hao hba hbx hb2 HMC HI HV x0 x1 x2 r0
      gi_upto_region 16 with fail
      obtain ⟨xb, hxb⟩ : ∃ xb, xb = V2.heap.size := ⟨_, rfl⟩
      rw [← hxb] at y0 y1 ⊢
      clear hxb
      generalize V2.alloc (.cells #[.bool (decide (z < 0)), .slice xm xn xc] 49) = V3 at *
      have hfg := HI2.out.b.g.2.1
      have HGR := Lib.hid (hfg.rd (HGZ.out n (by have := HJT.out; omega)) (by omega))
      have HGC := Lib.hid (bGcd_any _ _ _ _ V3 HGR.out HX2.out)
      have z0 := HI2.out.b.g.1.m0
      have z1 := HI2.out.b.g.1.m1
      clear hfg HGR HX2
      gi_wp2
      refine ⟨trivial, (CallsIn.inRound _ (callsIn_wide.2 HGC.out)).mono ?_⟩
      rintro e V4 ⟨v, rfl, hf, hb4⟩
      obtain ⟨m, hm⟩ : ∃ m, m = Int.gcd (gcdS n (cpE A R C K) : Int) z := ⟨_, rfl⟩
      have HMV := Lib.hid (show m = gcdS (n + 1) (cpE A R C K) by rw [hm, HZZ.out]; rfl)
      rw [← hm] at hf
      obtain ⟨ma, mn, mc, rfl, hao⟩ := hf.agg
      rw [show decide ((m : Int) < 0) = false from decide_eq_false (by omega)] at hf ⊢
      have hi4 := HI2.out.below hb4
      have hv4 := Nat.lt_of_lt_of_le HV2.out hb4.size
      obtain ⟨p1, p2⟩ := hi4.put hv4 (hf.mono HI2.out.b.bel.size) (fun b e => by have := (hao b e).1; have := HV2.out; omega)
      have HP1 := Lib.hid p1
      have HP2 := Lib.hid ((HKV.out.trans (Kx.below hb4 HV2.out)).trans p2)
      have q0 := hi4.b.g.1.m0
      have q1 := hi4.b.g.1.m1
      have q2 := hi4.b.g.1.f0
      have q3 := hi4.b.g.1.f1
      clear hm hf hao hi4 hv4 p1 p2 hb4 HI2 HKV HV2 HGC z0 z1 y0 y1
      gi_upto_region 19 with fail
      replace HP1 := Lib.hid HP1.out
      unfold stored2 at HP1 HP2
      generalize (V4.setCell ⟨gb, 0, none⟩ (.bool false)).setCell ⟨gb, 1, none⟩ (.slice ma mn mc) = V5 at *
      clear q0 q1 q2 q3
      have hfg := HP1.out.b.g.2.1
      have HGR := Lib.hid (hfg.rd (by rw [HMV.out]; exact HGZ.out (n + 1) (by have := HJT.out; omega)) (by omega))
      have HCM := Lib.hid (zCmp_any _ _ _ _ V5 HGR.out HP1.out.b.o1)
      have z0 := HP1.out.b.g.1.m0
      have z1 := HP1.out.b.g.1.m1
      have o0 := HP1.out.b.o.m0
      have o1 := HP1.out.b.o.m1
      clear hfg HGR
      gi_wp2_with fail
      (refine ⟨trivial, (CallsIn.inRound _ (callsIn_wide.2 HCM.out)).mono ?_⟩)
      rintro e V6 ⟨rfl, hb6⟩
      have HI6 := Lib.hid (HP1.out.below hb6)
      have hkv := HP2.out.trans (Kx.below hb6 (Nat.lt_of_lt_of_le HVV.out HP2.out.2.2))
      have HK6 := Lib.hid hkv
      clear hb6 hkv HP1 HP2 HCM z0 z1 o0 o1
      by_cases hm1 : m = 1
      · have hcz := cmpZ_one.2 hm1
        rw [hcz]
        rw [hm1] at HI6
        have z0 := HI6.out.b.g.1.m0
        have z1 := HI6.out.b.g.1.m1
        have r0 := HI6.out.b.r.m0
        have r1 := HI6.out.b.r.m1
        have r2 := HI6.out.b.r.f0
        have r3 := HI6.out.b.r.f1
        have e0 := HI6.out.b.e.1
        have e1 := HI6.out.b.e.2
        have g1 := stored2_gb V6 (w.heap.size + 1 + 1) (.bool false) (.slice ma mn mc)
        have he1 := g1.cell e0 (fun e => by injection e with e; have e2 : w.heap.size + 1 + 1 + 1 = w.heap.size + 1 + 1 := e; omega)
        have hf1 := froz_grown g1 (show w.heap.size + 1 + 1 + 1 ≠ w.heap.size + 1 + 1 by omega) e0 e1
        have hX := GcX.mk' HI6.out.b (fun b hb => by have := HI6.out.h1; omega)
        have HGX := Lib.hid hX
        have HKO := Lib.hid (((HK6.out.1.trans (KeepsOthers.setCell V6 ⟨w.heap.size + 1 + 1, 0, none⟩ (.bool false))).trans (KeepsOthers.setCell _ ⟨w.heap.size + 1 + 1, 1, none⟩ (.slice ma mn mc))).trans (KeepsOthers.setCell _ ⟨w.heap.size + 1 + 1 + 1, 0, none⟩ (.int .i64 0)))
        have HKW := Lib.hid (HI6.out.kx.1)
        have HM1 := Lib.hid (show gcM A R C K = 1 by
          have h1 : gcdS (n + 1) (cpE A R C K) = 1 := HMV.out ▸ hm1
          have h2 := gcdS_one h1 (bn R K * bn C K - (n + 1))
          rw [show n + 1 + (bn R K * bn C K - (n + 1)) = bn R K * bn C K by have := HJT.out; omega] at h2
          exact h2)
        have HKW2 := Lib.hid (((HKW.out.trans (KeepsOthers.setCell V6 ⟨w.heap.size + 1 + 1, 0, none⟩ (.bool false))).trans (KeepsOthers.setCell _ ⟨w.heap.size + 1 + 1, 1, none⟩ (.slice ma mn mc))).trans (KeepsOthers.setCell _ ⟨w.heap.size + 1 + 1 + 1, 0, none⟩ (.int .i64 0)))
        unfold stored2 at he1 hf1 HGX
        clear g1 hX hcz hm1 HI6 HK6 HKW
        gi_wp2_with fail
        generalize ((V6.setCell ⟨w.heap.size + 1 + 1, 0, none⟩ (.bool false)).setCell ⟨w.heap.size + 1 + 1, 1, none⟩ (.slice ma mn mc)).setCell ⟨w.heap.size + 1 + 1 + 1, 0, none⟩ (.int .i64 0) = V7 at *
        exact ⟨HKO.out, rfl, HM1.out, HKW2.out, HGX.out⟩
      · have hcz : ¬ cmpZ (m : Int) 1 = 0 := fun e => hm1 (cmpZ_one.1 e)
        have HNX := Lib.hid (show t * bn C K + (j + 1) = n + 1 by have := HNN.out; omega)
        obtain ⟨cz, hcz'⟩ : ∃ cz, cz = cmpZ (m : Int) 1 := ⟨_, rfl⟩
        rw [← hcz'] at hcz ⊢
        clear hcz'
        have hi7 := HI6.out
        rw [HMV.out, ← HNX.out] at hi7
        have HI7 := Lib.hid hi7
        clear hi7 HI6 hm1 HNX HMV HNN HZZ HJT HZB
        gi_wp2_with fail
        exact ⟨HK6.out.1, HK6.out.2.1, _, HI7.out⟩
end Go.Proofs.Ytejliecmdkmgiaa
namespace Go.Proofs.Ytejliecmdkmgiaa
open Go.RowKit Go.Shelf
attribute [local go_sem] Oper.semAt_some
theorem Gcd_err (r c : Int) (a : Option Addr) (n cap : Nat) (k E : Int) (hn : n ≤ 17592186044416) (hE : mszE r c n k = E) (h0 : ¬ E = 0) (w : World) :
    Calls Try.prog 60 #[.agg #[.int .i64 r, .int .i64 c, .slice a n cap], .int .i64 k] w fun e w' => e = .returned (.tuple #[.agg #[.bool false, .slice none 0 0], .int .i64 E]) ∧ Below w.heap.size w w' := by
  have HMS := Lib.hid (fun (u : World) => msize_any r c a n cap k hn u)
  obtain ⟨hm, hk, hrr, he, hb, hs⟩ := boxes_gc w r c (.slice a n cap) (.int .i64 k)
  have HM := Lib.hid hm
  have HKC := Lib.hid hk
  have HRR := Lib.hid hrr
  have HEE := Lib.hid he
  have HB := Lib.hid hb
  clear hm hk hrr he hb hs
  have HM_0 := HM.out.m0
  have HM_1 := HM.out.m1
  have HM_2 := HM.out.m2
  have k0 := HKC.out
  go_enter Try.func60, Try.ntmps60
  go_upto_region 1 with fail
  generalize (((w.alloc (.cells #[.int .i64 r, .int .i64 c, .slice a n cap] 24)).alloc (.cells #[.int .i64 k] 3)).alloc (.cells #[.bool false, .slice none 0 0] 49)).alloc (.cells #[.int .i64 0] 26) = W at *
  go_wp2_with fail
  (refine (HMS.out W).mono ?_)
  rintro e w1 ⟨rfl, hb⟩
  rw [hE]
  replace HM := Lib.hid (HM.out.below hb)
  replace HRR := Lib.hid (HRR.out.below hb)
  replace HB := Lib.hid (below_via HB.out hb)
  replace HKC := Lib.hid (cell_stays hb HKC.out)
  replace HEE := Lib.hid (And.intro (cell_stays hb HEE.out.1) (froz_stays hb HEE.out.1 HEE.out.2))
  clear HM_0 HM_1 HM_2
  clear hb HMS k0
  clear hE HM HKC
  have r0 := HRR.out.m0
  have r1 := HRR.out.m1
  have r2 := HRR.out.f0
  have r3 := HRR.out.f1
  have e0 := HEE.out.1
  have e1 := HEE.out.2
  have g1 := stored2_gb w1 (w.heap.size + 1 + 1) (.bool false) (.slice none 0 0)
  have hr1 := HRR.out.store (s' := false) (v' := .slice none 0 0)
  have hb1 := HB.out.grown g1 HB.out.size (fun b e => by cases e; omega)
  have he1 := g1.cell HEE.out.1 (fun e => by injection e with e; have e2 : w.heap.size + 1 + 1 + 1 = w.heap.size + 1 + 1 := e; omega)
  have hf1 := froz_grown g1 (show w.heap.size + 1 + 1 + 1 ≠ w.heap.size + 1 + 1 by omega) HEE.out.1 HEE.out.2
  have g2 : (stored2 w1 (w.heap.size + 1 + 1) (.bool false) (.slice none 0 0)).grownBy ((stored2 w1 (w.heap.size + 1 + 1) (.bool false) (.slice none 0 0)).setCell ⟨w.heap.size + 1 + 1 + 1, 0, none⟩ (.int .i64 E)) (some (w.heap.size + 1 + 1 + 1)) := gb_set _ _ _
  have hr2 := hr1.grown g2 (by omega)
  have HB2 := Lib.hid (hb1.grown g2 hb1.size (fun b e => by cases e; omega))
  have q0 := World.cell?_setCell_same _ _ (Value.int .i64 E) he1
  have p0 := hr2.m0
  have p1 := hr2.m1
  unfold stored2 at he1 hf1 p0 p1 q0 HB2
  clear g1 g2 hr1 hr2 hb1 HRR HEE HB
  go_wp2_with fail
  refine bodyPost_ret (v := .tuple #[.agg #[.bool false, .slice none 0 0], .int .i64 E]) ?_ rfl ⟨rfl, HB2.out⟩
  simp [results, Try.results60, go_sem, p0, p1, q0]
theorem Gcd_large (R C K : Nat) (a : Option Addr) (n cap : Nat) (w : World) (hn : n ≤ 17592186044416) (hE : mszE R C n K = 0) (hR : R ≤ 64) (hC : C ≤ 64) (hKR : K ≤ R) (hKC : K ≤ C) (hl : 4096 < bn R K * bn C K) :
    Calls Try.prog 60 #[.agg #[.int .i64 R, .int .i64 C, .slice a n cap], .int .i64 K] w fun e w' => e = .returned (.tuple #[.agg #[.bool false, .slice none 0 0], .int .i64 5]) ∧ Below w.heap.size w w' := by
  have hmix : Try.prog.follows .mixedOrders = true := by kernel_rfl
  have HMU := Lib.hid (fun (u : World) => Mul64_nat (bn R K) (bn C K) (by have := bn_64 K hR; omega) (by have := bn_64 K hC; omega) u)
  obtain ⟨hi, hhi⟩ : ∃ hi : Nat, hi = bn R K * bn C K / 18446744073709551616 := ⟨_, rfl⟩
  obtain ⟨lo, hlo⟩ : ∃ lo : Nat, lo = bn R K * bn C K % 18446744073709551616 := ⟨_, rfl⟩
  rw [← hhi, ← hlo] at HMU
  obtain ⟨hi', hhi'⟩ : ∃ hi' : Int, hi' = (hi : Int) := ⟨_, rfl⟩
  obtain ⟨lo', hlo'⟩ : ∃ lo' : Int, lo' = (lo : Int) := ⟨_, rfl⟩
  rw [← hhi', ← hlo'] at HMU
  have HL := Lib.hid (show ¬ hi' = 0 ∨ 4096 < lo' by omega)
  obtain ⟨r, hr⟩ : ∃ r : Int, r = R := ⟨_, rfl⟩
  obtain ⟨c, hc⟩ : ∃ c : Int, c = C := ⟨_, rfl⟩
  obtain ⟨k, hk⟩ : ∃ k : Int, k = K := ⟨_, rfl⟩
  have HCR := Lib.hid (fun (u : World) => choices_good R K u hR hKR)
  have HCC := Lib.hid (fun (u : World) => choices_good C K u hC hKC)
  rw [← hr, ← hc, ← hk] at hE ⊢
  rw [← hr, ← hk] at HCR
  rw [← hc, ← hk] at HCC
  clear hr hc hk hl hhi hlo hhi' hlo'
  have HMS := Lib.hid (fun (u : World) => msize_any r c a n cap k hn u)
  obtain ⟨hm, hk, hrr, he, hb, hs⟩ := boxes_gc w r c (.slice a n cap) (.int .i64 k)
  have HM := Lib.hid hm
  have HKC := Lib.hid hk
  have HRR := Lib.hid hrr
  have HEE := Lib.hid he
  have HB := Lib.hid hb
  clear hm hk hrr he hb hs
  have HM_0 := HM.out.m0
  have HM_1 := HM.out.m1
  have HM_2 := HM.out.m2
  have k0 := HKC.out
  go_enter Try.func60, Try.ntmps60
  go_upto_region 1 with fail
  generalize (((w.alloc (.cells #[.int .i64 r, .int .i64 c, .slice a n cap] 24)).alloc (.cells #[.int .i64 k] 3)).alloc (.cells #[.bool false, .slice none 0 0] 49)).alloc (.cells #[.int .i64 0] 26) = W at *
  go_wp2_with fail
  (refine (HMS.out W).mono ?_)
  rintro e w1 ⟨rfl, hb⟩
  rw [hE]
  replace HM := Lib.hid (HM.out.below hb)
  replace HRR := Lib.hid (HRR.out.below hb)
  replace HB := Lib.hid (below_via HB.out hb)
  replace HKC := Lib.hid (cell_stays hb HKC.out)
  replace HEE := Lib.hid (And.intro (cell_stays hb HEE.out.1) (froz_stays hb HEE.out.1 HEE.out.2))
  clear HM_0 HM_1 HM_2
  clear hb HMS k0
  clear hE
  have HM_0 := HM.out.m0
  have HM_1 := HM.out.m1
  have HM_2 := HM.out.m2
  have k0 := HKC.out
  go_upto_region 4 with fail
  refine region_early (fun u => u.cell? ⟨w.heap.size, 0, none⟩ = some (.int .i64 r) ∧ u.cell? ⟨w.heap.size, 1, none⟩ = some (.int .i64 c) ∧ u.cell? ⟨w.heap.size + 1, 0, none⟩ = some (.int .i64 k)) 14 [0, 1, 2, 4, 5, 6] 8 hmix (by kernel_rfl) rfl (by kernel_rfl) (fun _ _ d _ _ h => by cases d <;> exact h) ⟨HM_0, HM_1, k0⟩ ?_
  iterate 6 (refine early_take rfl (by rfl) ?_; apply Exists.intro; refine ⟨fun u hu => ?_, ?_⟩; (obtain ⟨u_1, u_2, u_3⟩ := hu; go_simp; rfl); simp only [Act.put, List.getElem_toArray, List.getElem_cons_zero, List.getElem_cons_succ, List.setIfInBounds_toArray, List.set_cons_zero, List.set_cons_succ])
  refine early_done ?_
  simp only [marked]
  refine anyL_one (i := 3) (by kernel_rfl) rfl (by rfl) fun J hJ => ?_
  go_simp
  refine (HCR.out w1.drew).mono ?_
  rintro e w2 ⟨rfl, hb⟩
  have hb' := below_via (bl_drew w1) hb
  have hS := And.intro (cell_stays hb' HM_0) (And.intro (cell_stays hb' HM_1) (cell_stays hb' k0))
  refine hJ _ _ (fun _ => hS) ?_
  have HB2 := Lib.hid hb'
  clear hJ J hb hb'
  refine anyL_one (i := 7) (by kernel_rfl) rfl (by rfl) fun J hJ => ?_
  go_simp
  refine (HCC.out w2).mono ?_
  rintro e w3 ⟨rfl, hb⟩
  have hb' := below_via HB2.out hb
  have hS3 := And.intro (cell_stays hb' HM_0) (And.intro (cell_stays hb' HM_1) (cell_stays hb' k0))
  refine hJ _ _ (fun _ => hS3) ?_
  replace HRR := Lib.hid (HRR.out.below hb')
  replace HB := Lib.hid (below_via HB.out hb')
  replace HEE := Lib.hid (And.intro (cell_stays hb' HEE.out.1) (froz_stays hb' HEE.out.1 HEE.out.2))
  clear HM_0 HM_1 HM_2
  clear hJ J hb hb' hS k0 HCR HCC HB2 HM HKC
  refine anyL_one (i := 8) (by kernel_rfl) rfl (by rfl) fun J hJ => ?_
  go_simp
  refine (HMU.out w3).mono ?_
  rintro e w4 ⟨rfl, rfl⟩
  refine hJ _ _ (fun _ => hS3) ?_
  clear hJ J
  refine anyL_yield (i := 9) rfl (by kernel_rfl) (by kernel_rfl) (by kernel_rfl) (by kernel_rfl) (fun _ _ d _ _ h => by cases d <;> exact h) (by rfl) hS3 ?_
  apply Exists.intro
  refine ⟨fun u => ?_, ?_⟩
  · go_simp
    rfl
  simp only [Act.put, List.getElem_toArray, List.getElem_cons_zero, List.getElem_cons_succ, List.setIfInBounds_toArray, List.set_cons_zero, List.set_cons_succ]
  refine anyL_yield (i := 10) rfl (by kernel_rfl) (by kernel_rfl) (by kernel_rfl) (by kernel_rfl) (fun _ _ d _ _ h => by cases d <;> exact h) (by rfl) hS3 ?_
  apply Exists.intro
  refine ⟨fun u => ?_, ?_⟩
  · go_simp
    rfl
  simp only [Act.put, List.getElem_toArray, List.getElem_cons_zero, List.getElem_cons_succ, List.setIfInBounds_toArray, List.set_cons_zero, List.set_cons_succ]
  refine anyL_yield (i := 11) rfl (by kernel_rfl) (by kernel_rfl) (by kernel_rfl) (by kernel_rfl) (fun _ _ d _ _ h => by cases d <;> exact h) (by rfl) hS3 ?_
  apply Exists.intro
  refine ⟨fun u => ?_, ?_⟩
  · go_simp
    rfl
  simp only [Act.put, List.getElem_toArray, List.getElem_cons_zero, List.getElem_cons_succ, List.setIfInBounds_toArray, List.set_cons_zero, List.set_cons_succ]
  refine anyL_one (i := 12) (by kernel_rfl) rfl (by rfl) fun J hJ => ?_
  go_simp
  refine hJ _ _ (fun _ => hS3) ?_
  clear hJ J
  refine anyL_one (i := 13) (by kernel_rfl) rfl (by rfl) fun J hJ => ?_
  go_simp
  refine hJ _ _ (fun _ => hS3) ?_
  clear hJ J
  refine anyL_done (by kernel_rfl) ?_ _
  clear hS3 HMU
  by_cases hz : hi' = 0
  · have h2 : 4096 < lo' := by have := HL.out; omega
    clear HL
    subst hz
    have r0 := HRR.out.m0
    have r1 := HRR.out.m1
    have r2 := HRR.out.f0
    have r3 := HRR.out.f1
    have e0 := HEE.out.1
    have e1 := HEE.out.2
    have g1 := stored2_gb w4 (w.heap.size + 1 + 1) (.bool false) (.slice none 0 0)
    have hr1 := HRR.out.store (s' := false) (v' := .slice none 0 0)
    have hb1 := HB.out.grown g1 HB.out.size (fun b e => by cases e; omega)
    have he1 := g1.cell HEE.out.1 (fun e => by injection e with e; have e2 : w.heap.size + 1 + 1 + 1 = w.heap.size + 1 + 1 := e; omega)
    have hf1 := froz_grown g1 (show w.heap.size + 1 + 1 + 1 ≠ w.heap.size + 1 + 1 by omega) HEE.out.1 HEE.out.2
    have g2 : (stored2 w4 (w.heap.size + 1 + 1) (.bool false) (.slice none 0 0)).grownBy ((stored2 w4 (w.heap.size + 1 + 1) (.bool false) (.slice none 0 0)).setCell ⟨w.heap.size + 1 + 1 + 1, 0, none⟩ (.int .i64 5)) (some (w.heap.size + 1 + 1 + 1)) := gb_set _ _ _
    have hr2 := hr1.grown g2 (by omega)
    have HB2 := Lib.hid (hb1.grown g2 hb1.size (fun b e => by cases e; omega))
    have q0 := World.cell?_setCell_same _ _ (Value.int .i64 5) he1
    have p0 := hr2.m0
    have p1 := hr2.m1
    unfold stored2 at he1 hf1 p0 p1 q0 HB2
    clear g1 g2 hr1 hr2 hb1 HRR HEE HB
    go_wp2_with fail
    refine bodyPost_ret (v := .tuple #[.agg #[.bool false, .slice none 0 0], .int .i64 5]) ?_ rfl ⟨rfl, HB2.out⟩
    simp [results, Try.results60, go_sem, p0, p1, q0]
  · clear HL
    have r0 := HRR.out.m0
    have r1 := HRR.out.m1
    have r2 := HRR.out.f0
    have r3 := HRR.out.f1
    have e0 := HEE.out.1
    have e1 := HEE.out.2
    have g1 := stored2_gb w4 (w.heap.size + 1 + 1) (.bool false) (.slice none 0 0)
    have hr1 := HRR.out.store (s' := false) (v' := .slice none 0 0)
    have hb1 := HB.out.grown g1 HB.out.size (fun b e => by cases e; omega)
    have he1 := g1.cell HEE.out.1 (fun e => by injection e with e; have e2 : w.heap.size + 1 + 1 + 1 = w.heap.size + 1 + 1 := e; omega)
    have hf1 := froz_grown g1 (show w.heap.size + 1 + 1 + 1 ≠ w.heap.size + 1 + 1 by omega) HEE.out.1 HEE.out.2
    have g2 : (stored2 w4 (w.heap.size + 1 + 1) (.bool false) (.slice none 0 0)).grownBy ((stored2 w4 (w.heap.size + 1 + 1) (.bool false) (.slice none 0 0)).setCell ⟨w.heap.size + 1 + 1 + 1, 0, none⟩ (.int .i64 5)) (some (w.heap.size + 1 + 1 + 1)) := gb_set _ _ _
    have hr2 := hr1.grown g2 (by omega)
    have HB2 := Lib.hid (hb1.grown g2 hb1.size (fun b e => by cases e; omega))
    have q0 := World.cell?_setCell_same _ _ (Value.int .i64 5) he1
    have p0 := hr2.m0
    have p1 := hr2.m1
    unfold stored2 at he1 hf1 p0 p1 q0 HB2
    clear g1 g2 hr1 hr2 hb1 HRR HEE HB
    go_wp2_with fail
    refine bodyPost_ret (v := .tuple #[.agg #[.bool false, .slice none 0 0], .int .i64 5]) ?_ rfl ⟨rfl, HB2.out⟩
    simp [results, Try.results60, go_sem, p0, p1, q0]
end Go.Proofs.Ytejliecmdkmgiaa
namespace Go.Proofs.Ytejliecmdkmgiaa
open Go.RowKit Go.Shelf
theorem truncZ2 (p q : Bool) {N M : Int} (hN : 0 ≤ N) (hM : 0 < M) :
    (if p then -N else N).tdiv (if q then -M else M) = (if (!(p == q)) = true then -(N / M) else N / M) ∧ (if p then -N else N).tmod (if q then -M else M) = (if p then -(N % M) else N % M) := by
  have e1 : N.tdiv M = N / M := Int.tdiv_eq_ediv_of_nonneg hN
  have e2 : N.tmod M = N % M := Int.tmod_eq_emod_of_nonneg hN
  cases p <;> cases q <;> simp [Int.neg_tdiv, Int.tdiv_neg, Int.neg_tmod, Int.tmod_neg, e1, e2]
theorem four_zb (w : World) (s t : Bool) (a b : Value) :
    let W := (((w.alloc (.cells #[.bool s, a] 49)).alloc (.cells #[.bool t, b] 49)).alloc (.cells #[.bool false, .slice none 0 0] 49)).alloc (.cells #[.bool false, .slice none 0 0] 49)
    ZBox W w.heap.size s a ∧ ZBox W (w.heap.size + 1) t b ∧ ZBox W (w.heap.size + 1 + 1) false (.slice none 0 0) ∧ ZBox W (w.heap.size + 1 + 1 + 1) false (.slice none 0 0) ∧ Below w.heap.size w W ∧ W.heap.size = w.heap.size + 4 := by
  intro W
  obtain ⟨W', hW⟩ : ∃ W', W' = W := ⟨_, rfl⟩
  rw [← hW]
  have hW2 : W' = (((w.alloc (.cells #[.bool s, a] 49)).alloc (.cells #[.bool t, b] 49)).alloc (.cells #[.bool false, .slice none 0 0] 49)).alloc (.cells #[.bool false, .slice none 0 0] 49) := hW
  clear hW
  clear W
  obtain ⟨h1, h2, hb, hs⟩ := two_zb w s t a b
  generalize (w.alloc (.cells #[.bool s, a] 49)).alloc (.cells #[.bool t, b] 49) = w2 at *
  obtain ⟨h3, h4, hb2, hs2⟩ := two_zb w2 false false (.slice none 0 0) (.slice none 0 0)
  rw [← hW2] at h3 h4 hb2 hs2
  rw [hs] at h3 h4 hs2
  exact ⟨h1.below hb2, h2.below hb2, h3, h4, below_via hb hb2, hs2⟩
theorem FrZ.agg' {w : World} {base : Nat} {s : Bool} {m : Value} {z : Int} (h : FrZ w base (.agg #[.bool s, m]) z) : ∀ b, m.ownBlock = some b → base ≤ b ∧ b < w.heap.size := by
  obtain ⟨a, c, d, e, ho⟩ := h.agg
  simp only [Value.agg.injEq, Array.mk.injEq, List.cons.injEq, and_true, true_and] at e
  rw [e.2]; exact ho
theorem two_fin {w W w4 : World} {s t : Bool} {a b : Value} {z y : Int} (hB : Below w.heap.size w W) (hs : W.heap.size = w.heap.size + 4) (hb : Below W.heap.size W w4) (z1 : ZBox w4 (w.heap.size + 1 + 1) false (.slice none 0 0)) (z2 : ZBox w4 (w.heap.size + 1 + 1 + 1) false (.slice none 0 0))
    (h1 : FrZ w4 W.heap.size (.agg #[.bool s, a]) z) (h2 : FrZ w4 W.heap.size (.agg #[.bool t, b]) y) :
    let V := (((w4.setCell ⟨w.heap.size + 1 + 1, 0, none⟩ (.bool s)).setCell ⟨w.heap.size + 1 + 1, 1, none⟩ a).setCell ⟨w.heap.size + 1 + 1 + 1, 0, none⟩ (.bool t)).setCell ⟨w.heap.size + 1 + 1 + 1, 1, none⟩ b
    FrZ V w.heap.size (.agg #[.bool s, a]) z ∧ FrZ V w.heap.size (.agg #[.bool t, b]) y ∧ Below w.heap.size w V ∧ ZBox V (w.heap.size + 1 + 1) s a ∧ ZBox V (w.heap.size + 1 + 1 + 1) t b := by
  intro V
  have o1 := h1.agg'
  have o2 := h2.agg'
  have g1 := stored2_gb w4 (w.heap.size + 1 + 1) (.bool s) a
  have g2 := stored2_gb (stored2 w4 (w.heap.size + 1 + 1) (.bool s) a) (w.heap.size + 1 + 1 + 1) (.bool t) b
  have k1 := (h1.gap g1 (fun d hd e => by cases hd; have := (o1 _ e).1; omega)).gap g2 (fun d hd e => by cases hd; have := (o1 _ e).1; omega)
  have k2 := (h2.gap g1 (fun d hd e => by cases hd; have := (o2 _ e).1; omega)).gap g2 (fun d hd e => by cases hd; have := (o2 _ e).1; omega)
  have hB4 := below_via hB hb
  have b1 := hB4.grown g1 hB4.size (fun k hk => by cases hk; omega)
  have b2 := b1.grown g2 b1.size (fun k hk => by cases hk; omega)
  exact ⟨k1.mono hB.size, k2.mono hB.size, b2, (z1.store (s' := s) (v' := a)).grown g2 (by omega), (z2.grown g1 (by omega)).store⟩
theorem zTrunc_any (x y : Value) (a b : Int) (w : World) (hb0 : b ≠ 0) (hx : RdZ w x a) (hy : RdZ w y b) :
    Calls Try.prog 171 #[x, y] w fun e w' => ∃ v1 v2, e = .returned (.tuple #[v1, v2, .int .i64 0]) ∧ FrZ w' w.heap.size v1 (a.tdiv b) ∧ FrZ w' w.heap.size v2 (a.tmod b) ∧ Below w.heap.size w w' := by
  have hmix : Try.prog.follows .mixedOrders = true := by kernel_rfl
  obtain ⟨p, am, n, ca, f, rfl, hr, ha, hn⟩ := hx.parts
  obtain ⟨q, bm, m, cb, g, rfl, hs, hb, hm⟩ := hy.parts
  obtain ⟨h1, h2, h3, h4, hB, hsz⟩ := four_zb w p q (.slice am n ca) (.slice bm m cb)
  have hM : natFrom g 0 m ≠ 0 := fun e => hb0 (by rw [hb, e]; cases q <;> rfl)
  have hM0 : 0 < natFrom g 0 m := by have := (natFrom_bd hs.2).1; omega
  have hl := fun (u : World) (hu : Below w.heap.size w u) => DivMod_any _ _ n m f g u (by omega) hM (hr.below hu) (hs.below hu)
  obtain ⟨e1, e2⟩ := truncZ2 p q (natFrom_bd hr.2).1 hM0
  rw [← ha, ← hb] at e1 e2
  generalize natFrom f 0 n / natFrom g 0 m = P at *
  generalize natFrom f 0 n % natFrom g 0 m = T at *
  have HL := Lib.hid hl
  have HB := Lib.hid hB
  have HSZ := Lib.hid hsz
  have E1 := Lib.hid e1
  have E2 := Lib.hid e2
  have Z1 := Lib.hid h1
  have Z2 := Lib.hid h2
  have Z3 := Lib.hid h3
  have Z4 := Lib.hid h4
  have x1 := h1.m1
  have y1 := h2.m1
  clear hl hB hsz hr hs ha hb hx hy hM hM0 hb0 e1 e2 h1 h2 h3 h4
  go_enter Try.func171, Try.ntmps171
  go_upto_region 1 with fail
  generalize (((w.alloc (.cells #[.bool p, .slice am n ca] 49)).alloc (.cells #[.bool q, .slice bm m cb] 49)).alloc (.cells #[.bool false, .slice none 0 0] 49)).alloc (.cells #[.bool false, .slice none 0 0] 49) = W at *
  go_wp2_with fail
  (refine (HL.out W HB.out).mono ?_)
  rintro e w3 ⟨v1, v2, rfl, hf1, hf2, hb3⟩
  obtain ⟨a3, n3, c3, f3, rfl, k1, d1⟩ := hf1.nat
  obtain ⟨a4, n4, c4, f4, rfl, k2, d2⟩ := hf2.nat
  replace Z1 := Lib.hid (Z1.out.below hb3)
  replace Z2 := Lib.hid (Z2.out.below hb3)
  replace Z3 := Lib.hid (Z3.out.below hb3)
  replace Z4 := Lib.hid (Z4.out.below hb3)
  have K1 := Lib.hid k1
  have K2 := Lib.hid k2
  have D1 := Lib.hid d1
  have D2 := Lib.hid d2
  have HB3 := Lib.hid hb3
  have x0 := Z1.out.m0
  have y0 := Z2.out.m0
  clear hf1 hf2 hb3 k1 k2 d1 d2 HL x1 y1
  go_upto_region 4 with fail
  refine region_early (fun u => u.cell? ⟨w.heap.size, 0, none⟩ = some (.bool p) ∧ u.cell? ⟨w.heap.size + 1, 0, none⟩ = some (.bool q)) 13 [0, 1, 2, 3, 4, 5, 7, 8, 9] 5 hmix (by kernel_rfl) rfl (by kernel_rfl) (fun _ _ d _ _ h => by cases d <;> exact h) ⟨x0, y0⟩ ?_
  iterate 9 (refine early_take rfl (by rfl) ?_; apply Exists.intro; refine ⟨fun u hu => ?_, ?_⟩; (obtain ⟨u_1, u_2⟩ := hu; go_simp; rfl); simp only [Act.put, List.getElem_toArray, List.getElem_cons_zero, List.getElem_cons_succ, List.setIfInBounds_toArray, List.set_cons_zero, List.set_cons_succ])
  refine early_done ?_
  simp only [marked]
  refine anyL_one (i := 6) (by kernel_rfl) rfl (by rfl) fun J hJ => ?_
  go_simp
  refine (zof_any _ _ n3 _ w3.drew).mono ?_
  rintro e w5 ⟨rfl, hb⟩
  have hb' := below_via (bl_drew w3) hb
  have hS5 := And.intro (cell_stays hb' x0) (cell_stays hb' y0)
  refine hJ _ _ (fun _ => hS5) ?_
  have HB5 := Lib.hid hb'
  clear hJ J hb hb'
  refine anyL_one (i := 10) (by kernel_rfl) rfl (by rfl) fun J hJ => ?_
  go_simp
  refine (zof_any _ _ n4 _ w5).mono ?_
  rintro e w6 ⟨rfl, hb⟩
  have hb' := below_via HB5.out hb
  have hS := And.intro (cell_stays hb' x0) (cell_stays hb' y0)
  refine hJ _ _ (fun _ => hS) ?_
  replace Z3 := Lib.hid (Z3.out.below hb')
  replace Z4 := Lib.hid (Z4.out.below hb')
  have hf1 := frz_of (K1.out.below hb') D1.out (!(p == q))
  have hf2 := frz_of (K2.out.below hb') D2.out p
  rw [← E1.out] at hf1
  rw [← E2.out] at hf2
  obtain ⟨k1, k2, k3, k4, k5⟩ := two_fin HB.out HSZ.out (below_via HB3.out hb') Z3.out Z4.out hf1 hf2
  have HF1 := Lib.hid k1
  have HF2 := Lib.hid k2
  have HF3 := Lib.hid k3
  have HF4 := Lib.hid k4
  have HF5 := Lib.hid k5
  clear hJ J hb hb' hS5 HB5 hf1 hf2 k1 k2 k3 k4 k5 K1 K2 D1 D2
  have z0 := Z3.out.m0
  have z1 := Z3.out.m1
  have z2 := Z3.out.f0
  have z3 := Z3.out.f1
  have t0 := Z4.out.m0
  have t1 := Z4.out.m1
  have t2 := Z4.out.f0
  have t3 := Z4.out.f1
  have hSx : True := trivial
  refine anyL_one (i := 11) (by kernel_rfl) rfl (by rfl) fun J hJ => ?_
  go_simp
  refine hJ _ _ (fun _ => ⟨two_far hS.1 (by omega), two_far hS.2 (by omega)⟩) ?_
  clear hJ J
  refine anyL_one (i := 12) (by kernel_rfl) rfl (by rfl) fun J hJ => ?_
  go_simp
  refine hJ _ _ (fun _ => ⟨two_far (two_far hS.1 (by omega)) (by omega), two_far (two_far hS.2 (by omega)) (by omega)⟩) ?_
  clear hJ J
  refine anyL_one (i := 13) (by kernel_rfl) rfl (by rfl) fun J hJ => ?_
  go_simp
  refine hJ _ _ (fun e => absurd e (by decide)) ?_
  clear hJ J
  refine anyL_done (by kernel_rfl) ?_ _
  have q0 := HF4.out.m0
  have q1 := HF4.out.m1
  have q2 := HF5.out.m0
  have q3 := HF5.out.m1
  clear hS z0 z1 z2 z3 t0 t1 t2 t3 x0 y0
  go_wp2_with fail
  refine bodyPost_ret (v := .tuple #[.agg #[.bool (!(p == q) && decide (0 < n3)), .slice a3 n3 c3], .agg #[.bool (p && decide (0 < n4)), .slice a4 n4 c4], .int .i64 0]) ?_ rfl ⟨_, _, rfl, HF1.out, HF2.out, HF3.out⟩
  simp [results, Try.results171, go_sem, q0, q1, q2, q3]
theorem zEuclid_nn (x y : Value) (a b : Int) (w : World) (hb0 : b ≠ 0) (h0 : 0 ≤ a.tmod b) (hx : RdZ w x a) (hy : RdZ w y b) :
    Calls Try.prog 127 #[x, y] w fun e w' => ∃ v1 v2, e = .returned (.tuple #[v1, v2, .int .i64 0]) ∧ FrZ w' w.heap.size v1 (a.tdiv b) ∧ FrZ w' w.heap.size v2 (a.tmod b) ∧ Below w.heap.size w w' := by
  have hmix : Try.prog.follows .mixedOrders = true := by kernel_rfl
  obtain ⟨p, am, n, ca, f, rfl, -⟩ := hx.parts
  obtain ⟨q, bm, m, cb, g, rfl, -⟩ := hy.parts
  obtain ⟨h1, h2, h3, h4, hB, hsz⟩ := four_zb w p q (.slice am n ca) (.slice bm m cb)
  have hl := fun (u : World) (hu : Below w.heap.size w u) => zTrunc_any _ _ a b u hb0 (hx.below hu) (hy.below hu)
  obtain ⟨P, hP⟩ : ∃ P, P = a.tdiv b := ⟨_, rfl⟩
  obtain ⟨T, hT⟩ : ∃ T, T = a.tmod b := ⟨_, rfl⟩
  rw [← hP, ← hT] at hl
  rw [← hT] at h0
  rw [← hP, ← hT]
  have HL := Lib.hid hl
  have HB := Lib.hid hB
  have HSZ := Lib.hid hsz
  have Z3 := Lib.hid h3
  have Z4 := Lib.hid h4
  have x0 := h1.m0
  have x1 := h1.m1
  have y0 := h2.m0
  have y1 := h2.m1
  have HD := decide_eq_false (show ¬ T < 0 by omega)
  clear hl hB hsz hx hy hb0 h0 h1 h2 h3 h4 hP hT
  go_enter Try.func127, Try.ntmps127
  go_upto_region 1 with fail
  generalize (((w.alloc (.cells #[.bool p, .slice am n ca] 49)).alloc (.cells #[.bool q, .slice bm m cb] 49)).alloc (.cells #[.bool false, .slice none 0 0] 49)).alloc (.cells #[.bool false, .slice none 0 0] 49) = W at *
  go_wp2_with fail
  (refine (HL.out W HB.out).mono ?_)
  rintro e w3 ⟨v1, v2, rfl, hf1, hf2, hb3⟩
  obtain ⟨a3, n3, c3, rfl, ho1⟩ := hf1.agg
  obtain ⟨a4, n4, c4, rfl, ho2⟩ := hf2.agg
  rw [HD] at hf2 ⊢
  obtain ⟨u1, u2, hbu, hsu⟩ := two_zb w3 (decide (P < 0)) false (.slice a3 n3 c3) (.slice a4 n4 c4)
  have hbx := below_via hb3 hbu
  replace Z3 := Lib.hid (Z3.out.below hbx)
  replace Z4 := Lib.hid (Z4.out.below hbx)
  have k1 := hf1.below hbu
  have k2 := hf2.below hbu
  obtain ⟨k1, k2, k3, k4, k5⟩ := two_fin HB.out HSZ.out hbx Z3.out Z4.out k1 k2
  have HF1 := Lib.hid k1
  have HF2 := Lib.hid k2
  have HF3 := Lib.hid k3
  have HF4 := Lib.hid k4
  have HF5 := Lib.hid k5
  have HSW := Lib.hid (show w.heap.size + 4 ≤ w3.heap.size by have := HSZ.out; have := hb3.size; omega)
  have a0 := u1.m0
  have a1 := u1.m1
  have b0 := u2.m0
  have b1 := u2.m1
  have z0 := Z3.out.m0
  have z1 := Z3.out.m1
  have z2 := Z3.out.f0
  have z3 := Z3.out.f1
  have t0 := Z4.out.m0
  have t1 := Z4.out.m1
  have t2 := Z4.out.f0
  have t3 := Z4.out.f1
  clear hf1 hf2 hb3 hbx hbu hsu u1 u2 ho1 ho2 k1 k2 k3 k4 k5 HL x0 x1 y0 y1 Z3 Z4
  go_upto_region 2 with fail
  obtain ⟨qb, hqb⟩ : ∃ qb, qb = w3.heap.size := ⟨_, rfl⟩
  rw [← hqb] at a0 a1 b0 b1 HSW ⊢
  clear hqb
  have hsw := HSW.out
  have n1 : w.heap.size + 1 + 1 ≠ qb := by omega
  have n2 : w.heap.size + 1 + 1 ≠ qb + 1 := by omega
  generalize (w3.alloc (.cells #[.bool (decide (P < 0)), .slice a3 n3 c3] 49)).alloc (.cells #[.bool false, .slice a4 n4 c4] 49) = w4 at *
  go_upto_region 3 with fail
  go_region
  clear a0 a1 b0 b1 z0 z1 z2 z3 t0 t1 t2 t3
  generalize (((w4.setCell ⟨w.heap.size + 1 + 1, 0, none⟩ (.bool (decide (P < 0)))).setCell ⟨w.heap.size + 1 + 1, 1, none⟩ (.slice a3 n3 c3)).setCell ⟨w.heap.size + 1 + 1 + 1, 0, none⟩ (.bool false)).setCell ⟨w.heap.size + 1 + 1 + 1, 1, none⟩ (.slice a4 n4 c4) = W9 at *
  have q0 := cell_stays (bl_drew W9) HF4.out.m0
  have q1 := cell_stays (bl_drew W9) HF4.out.m1
  have q2 := cell_stays (bl_drew W9) HF5.out.m0
  have q3 := cell_stays (bl_drew W9) HF5.out.m1
  have HG1 := Lib.hid (HF1.out.below (bl_drew W9))
  have HG2 := Lib.hid (HF2.out.below (bl_drew W9))
  have HG3 := Lib.hid (below_via HF3.out (bl_drew W9))
  generalize W9.drew = W10 at *
  go_wp2_with fail
  refine bodyPost_ret (v := .tuple #[.agg #[.bool (decide (P < 0)), .slice a3 n3 c3], .agg #[.bool false, .slice a4 n4 c4], .int .i64 0]) ?_ rfl ⟨_, _, rfl, HG1.out, HG2.out, HG3.out⟩
  simp [results, Try.results127, go_sem, q0, q1, q2, q3]
theorem zMod_nn (x y : Value) (a b : Int) (w : World) (hb0 : b ≠ 0) (h0 : 0 ≤ a.tmod b) (hx : RdZ w x a) (hy : RdZ w y b) :
    Calls Try.prog 63 #[x, y] w fun e w' => ∃ v, e = .returned (.tuple #[v, .int .i64 0]) ∧ FrZ w' w.heap.size v (a.tmod b) ∧ Below w.heap.size w w' := by
  obtain ⟨p, am, n, ca, f, rfl, -⟩ := hx.parts
  obtain ⟨q, bm, m, cb, g, rfl, -⟩ := hy.parts
  obtain ⟨⟨⟨x0, x1, y0, y1⟩, -, z0, z1, z2, z3⟩, hB, hsz⟩ := boxes3' w (.bool p) (.slice am n ca) (.bool q) (.slice bm m cb) (.bool false) (.slice none 0 0) 49
  have hl := fun (u : World) (hu : Below w.heap.size w u) => zEuclid_nn _ _ a b u hb0 h0 (hx.below hu) (hy.below hu)
  obtain ⟨P, hP⟩ : ∃ P, P = a.tdiv b := ⟨_, rfl⟩
  obtain ⟨T, hT⟩ : ∃ T, T = a.tmod b := ⟨_, rfl⟩
  rw [← hP, ← hT] at hl
  rw [← hT]
  have HL := Lib.hid hl
  have HB := Lib.hid hB
  have HSZ := Lib.hid hsz
  clear hl hB hsz hx hy hb0 h0 hP hT
  go_enter Try.func63, Try.ntmps63
  go_upto_region 1 with fail
  generalize ((w.alloc (.cells #[.bool p, .slice am n ca] 49)).alloc (.cells #[.bool q, .slice bm m cb] 49)).alloc (.cells #[.bool false, .slice none 0 0] 49) = W at *
  go_wp2_with fail
  (refine (HL.out W HB.out).mono ?_)
  rintro e w3 ⟨v1, v2, rfl, hf1, hf2, hb3⟩
  obtain ⟨a3, n3, c3, rfl, ho1⟩ := hf1.agg
  obtain ⟨a4, n4, c4, rfl, ho2⟩ := hf2.agg
  obtain ⟨u1, u2, hbu, hsu⟩ := two_zb w3 (decide (P < 0)) (decide (T < 0)) (.slice a3 n3 c3) (.slice a4 n4 c4)
  have hbx := below_via hb3 hbu
  have HF2 := Lib.hid (hf2.below hbu)
  have HBX := Lib.hid hbx
  have v2 := froz_stays hbx z0 z2
  have v3 := froz_stays hbx z1 z3
  have v0 := cell_stays hbx z0
  have v1 := cell_stays hbx z1
  have b0 := u2.m0
  have b1 := u2.m1
  have HO := Lib.hid ho2
  have HSW := Lib.hid (show w.heap.size + 3 ≤ w3.heap.size by have := HSZ.out; have := hb3.size; omega)
  clear hf1 hf2 hb3 hbx hbu hsu u1 u2 ho1 ho2 HL x0 x1 y0 y1 z0 z1 z2 z3
  go_upto_region 2 with fail
  generalize (w3.alloc (.cells #[.bool (decide (P < 0)), .slice a3 n3 c3] 49)).alloc (.cells #[.bool (decide (T < 0)), .slice a4 n4 c4] 49) = w4 at *
  go_wp2_with fail
  have g1 := stored2_gb w4 (w.heap.size + 1 + 1) (.bool (decide (T < 0))) (.slice a4 n4 c4)
  have hB4 := below_via HB.out HBX.out
  have b2 := hB4.grown g1 hB4.size (fun k hk => by cases hk; omega)
  have k2 := (HF2.out.gap g1 (fun d hd e => by cases hd; have := (HF2.out.agg' _ e).1; have := HSZ.out; omega)).mono HB.out.size
  obtain ⟨q0, q1⟩ : (stored2 w4 (w.heap.size + 1 + 1) (.bool (decide (T < 0))) (.slice a4 n4 c4)).cell? ⟨w.heap.size + 1 + 1, 0, none⟩ = some (.bool (decide (T < 0))) ∧ (stored2 w4 (w.heap.size + 1 + 1) (.bool (decide (T < 0))) (.slice a4 n4 c4)).cell? ⟨w.heap.size + 1 + 1, 1, none⟩ = some (.slice a4 n4 c4) :=
    have hz := (ZBox.store (s' := decide (T < 0)) (v' := .slice a4 n4 c4) (show ZBox w4 (w.heap.size + 1 + 1) false (.slice none 0 0) from ⟨v0, v1, v2, v3⟩))
    ⟨hz.m0, hz.m1⟩
  unfold stored2 at q0 q1 b2 k2
  refine bodyPost_ret (v := .tuple #[.agg #[.bool (decide (T < 0)), .slice a4 n4 c4], .int .i64 0]) ?_ rfl ⟨_, rfl, k2, b2⟩
  simp [results, Try.results63, go_sem, q0, q1]
end Go.Proofs.Ytejliecmdkmgiaa
namespace Go.Proofs.Ytejliecmdkmgiaa
open Go.RowKit Go.Shelf
def stI (A : Nat → Int) (C i j t q : Nat) : Int := if q / C = i ∧ q % C < t then A q - A (j * C + q % C) else A q
theorem stI_zero (A : Nat → Int) (C i j q : Nat) : stI A C i j 0 q = A q := if_neg (by omega)
theorem stI_end (A : Nat → Int) {C : Nat} (hC : 0 < C) (i j q : Nat) : stI A C i j C q = stpE A C i j (-1) q := by
  unfold stI stpE
  by_cases h : q / C = i
  · rw [if_pos ⟨h, Nat.mod_lt _ hC⟩, if_pos h]; omega
  · rw [if_neg (fun e => h e.1), if_neg h]
theorem stI_at (A : Nat → Int) {C i j t p : Nat} (ht : t < C) (hp : p = i * C + t) : stI A C i j t p = A p := by
  obtain ⟨h1, h2⟩ := idx_dm (i := i) ht
  unfold stI
  rw [hp, h1, h2, if_neg (by omega)]
theorem stI_off (A : Nat → Int) {C i j t p : Nat} (ht : t < C) (hij : i ≠ j) (hp : p = j * C + t) : stI A C i j t p = A p := by
  obtain ⟨h1, h2⟩ := idx_dm (i := j) ht
  unfold stI
  rw [hp, h1, h2, if_neg (fun e => hij e.1.symm)]
theorem stI_next (A : Nat → Int) {C i j t p q : Nat} (ht : t < C) (hp : p = i * C + t) (hq : q = j * C + t) (k : Nat) : (if k = p then A p - A q else stI A C i j t k) = stI A C i j (t + 1) k := by
  obtain ⟨h1, h2⟩ := idx_dm (i := i) ht
  unfold stI
  by_cases e : k = p
  · rw [if_pos e, e, hp, h1, h2, if_pos ⟨rfl, by omega⟩, hq]
  · rw [if_neg e]
    by_cases e2 : k / C = i ∧ k % C < t
    · rw [if_pos e2, if_pos ⟨e2.1, by omega⟩]
    · rw [if_neg e2, if_neg (fun e3 => ?_)]
      have h3 : k % C = t := by
        have := e3.2
        by_cases h4 : k % C < t
        · exact absurd ⟨e3.1, h4⟩ e2
        · omega
      have h5 := Nat.div_add_mod k C
      rw [e3.1, h3, Nat.mul_comm] at h5
      omega
theorem stpE_zb {A : Nat → Int} {N S C i j : Nat} {u : Int} (hu : u = -1) (hA : ∀ q, q < N → ZB S (A q)) (hj : ∀ q, q < N → j * C + q % C < N) : ∀ q, q < N → ZB (S + 1) (stpE A C i j u q) := fun q hq => by
  unfold stpE
  split
  · rw [hu, show A q + -1 * A (j * C + q % C) = A q - A (j * C + q % C) by omega]
    exact zb_maxs (hA q hq) (hA _ (hj q hq)) (Nat.le_refl _) (Nat.le_refl _)
  · exact (hA q hq).mono (by omega)
structure GgR (u0 wr : World) (mb ll N : Nat) (r c : Int) (E : Nat → Int) : Prop where
  below : Below u0.heap.size u0 wr
  l : PaE wr u0.heap.size (fun b => b ≤ ll) ll N N E
  b : MBox wr mb r c (.slice (some ⟨ll, 0, none⟩) N N)
  ne : ll < mb
section
variable {u0 wr w' : World} {mb ll N : Nat} {r c : Int} {E F : Nat → Int}
theorem GgR.on (h : GgR u0 wr mb ll N r c E) (hb : Below wr.heap.size wr w') : GgR u0 w' mb ll N r c E := ⟨below_via h.below hb, h.l.below hb, h.b.below hb, h.ne⟩
theorem GgR.congr (h : GgR u0 wr mb ll N r c E) (e : ∀ i, i < N → E i = F i) : GgR u0 wr mb ll N r c F := ⟨h.below, h.l.congr e, h.b, h.ne⟩
theorem GgR.start {w : World} (hb : Below u0.heap.size u0 w) (hf : FrE w u0.heap.size (fun b => b ≤ ll) ll N E) :
    GgR u0 (w.alloc (.cells #[.int .i64 r, .int .i64 c, .slice (some ⟨ll, 0, none⟩) N N] 24)) w.heap.size ll N r c E :=
  have hba := bl_alloc w (.cells #[.int .i64 r, .int .i64 c, .slice (some ⟨ll, 0, none⟩) N N] 24)
  ⟨below_via hb hba, PaE.below hf hba, MBox.new w r c _, PaE.lt hf⟩
theorem GgR.putz (h : GgR u0 wr mb ll N r c E) {i : Nat} (hi : i < N) {v : Value} {b : Nat} {z : Int} (hf : FrZ wr b v z) {S : Nat} (hz : ZB S z) (hS : S ≤ 274877906944) (hb : ll < b) :
    ∃ s a c' d, v = .agg #[.bool s, .slice a c' d] ∧ GgR u0 ((wr.setCell ⟨ll, i * 2, none⟩ (.bool s)).setCell ⟨ll, i * 2 + 1, none⟩ (.slice a c' d)) mb ll N r c (fun t => if t = i then z else E t) := by
  obtain ⟨s, a, c', d, rfl, hp⟩ := h.l.putz hi (Nat.le_refl _) hf hz hS (fun k h1 h2 h3 => by omega)
  have hg := gb_two wr ll (i * 2) (i * 2 + 1) (.bool s) (.slice a c' d)
  exact ⟨s, a, c', d, rfl, ⟨h.below.grown hg h.below.size (fun k hk => by injection hk with hk; have := h.l.own; omega), hp, h.b.grown hg (by have := h.ne; omega), h.ne⟩⟩
end
end Go.Proofs.Ytejliecmdkmgiaa
