/- The walk of the law CharpolyTurns. The law CharpolyTurns for all matrices. 'CharpolyTurns', where what it reads is of bulk at most 1,048,576: for all matrices a and b the law returns true and its arguments read as before. -/
import Derived.Test.YtejliecmdkmgiaaGR
import Derived.Test.YtejliecmdkmgiaaGS
import Derived.Test.YtejliecmdkmgiaaGK
import Derived.Test.YtejliecmdkmgiaaRows
import Derived.Test.YtejliecmdkmgiaaGH
import Derived.ProofKit
import Derived.OpenShut
import Derived.Carry
import Derived.JoinedCond
set_option linter.unusedVariables false
set_option linter.unusedSimpArgs false
namespace Go.Proofs.Ytejliecmdkmgiaa
open Go.RowKit Go.Shelf

/-- what a product answers when it is refused, or whatever it is -/
def MulAns (a b : Value) (E : Int) (u : World) : Prop := Calls Try.prog 16 #[a, b] u fun e w' => ∃ (r s : Int) (l : Option Addr) (n c : Nat), e = .returned (.tuple #[.agg #[.int .i64 r, .int .i64 s, .slice l n c], .int .i64 E]) ∧ Below u.heap.size u w'

set_option maxHeartbeats 4000000 in
set_option maxRecDepth 100000 in
theorem Turns_out (r c r' c' : Int) (s s' : Value) (w : World) (E1 E2 : Int) (h1 : ∀ u, Below w.heap.size w u → MulAns (.agg #[.int .i64 r, .int .i64 c, s]) (.agg #[.int .i64 r', .int .i64 c', s']) E1 u) (h2 : ∀ u, Below w.heap.size w u → MulAns (.agg #[.int .i64 r', .int .i64 c', s']) (.agg #[.int .i64 r, .int .i64 c, s]) E2 u) (hE : (E1 != 0) = true ∨ ((E1 != 0) = false ∧ (E2 != 0) = true)) :
    Calls Try.prog 3 #[.agg #[.int .i64 r, .int .i64 c, s], .agg #[.int .i64 r', .int .i64 c', s']] w fun e w' => e = .returned (.bool true) ∧ Below w.heap.size w w' := by
  obtain ⟨⟨c0, c1, c2⟩, ⟨d0, d1, d2⟩, hB⟩ := boxes2M w (.int .i64 r) (.int .i64 c) s (.int .i64 r') (.int .i64 c') s'
  have H1 := Lib.hid h1
  have H2 := Lib.hid h2
  have HB := Lib.hid hB
  clear h1 h2 hB
  go_enter Try.func3, Try.ntmps3
  go_upto_region 1 with fail
  generalize (w.alloc (.cells #[.int .i64 r, .int .i64 c, s] 24)).alloc (.cells #[.int .i64 r', .int .i64 c', s'] 24) = W at *
  go_wp2_with fail
  (refine (awake16_any W).mono ?_)
  rintro e w1 ⟨rfl, hb1⟩
  replace c0 := cell_stays hb1 c0
  replace c1 := cell_stays hb1 c1
  replace c2 := cell_stays hb1 c2
  replace d0 := cell_stays hb1 d0
  replace d1 := cell_stays hb1 d1
  replace d2 := cell_stays hb1 d2
  replace HB := Lib.hid (below_via HB.out hb1)
  clear hb1
  go_wp2_with fail
  (refine (H1.out w1 HB.out).mono ?_)
  rintro e w2 ⟨i1, i2, l1, n1, cc1, rfl, hb2⟩
  have hb3 := below_via hb2 (bl_alloc w2 (.cells #[.int .i64 i1, .int .i64 i2, .slice l1 n1 cc1] 24))
  replace c0 := cell_stays hb3 c0
  replace c1 := cell_stays hb3 c1
  replace c2 := cell_stays hb3 c2
  replace d0 := cell_stays hb3 d0
  replace d1 := cell_stays hb3 d1
  replace d2 := cell_stays hb3 d2
  replace HB := Lib.hid (below_via HB.out hb3)
  clear hb2 hb3
  go_upto_region 4 with fail
  generalize w2.alloc (.cells #[.int .i64 i1, .int .i64 i2, .slice l1 n1 cc1] 24) = w3 at *
  go_wp2_with fail
  (refine (H2.out w3 HB.out).mono ?_)
  rintro e w4 ⟨j1, j2, l2, n2, cc2, rfl, hb4⟩
  replace HB := Lib.hid (below_via HB.out (below_via hb4 (bl_alloc w4 (.cells #[.int .i64 j1, .int .i64 j2, .slice l2 n2 cc2] 24))))
  clear hb4
  rcases hE with hE | ⟨hE, hE2⟩
  · go_wp2_with fail
    go_ret
    exact ⟨rfl, HB.out⟩
  · go_wp2_with fail
    go_ret
    exact ⟨rfl, HB.out⟩

set_option maxHeartbeats 8000000 in
set_option maxRecDepth 100000 in
theorem Turns_good (R K S T : Nat) (sa sb : Value) (a b : Nat → Int) (w : World) (hR : R ≤ 64) (hK : K ≤ 64) (hS : S ≤ 2000000) (hT : T ≤ 2000000) (hr : RdE w sa (R * K) a) (hr' : RdE w sb (K * R) b) (hA : ∀ q, q < R * K → ZB S (a q)) (hB' : ∀ q, q < K * R → ZB T (b q)) :
    Calls Try.prog 3 #[.agg #[.int .i64 R, .int .i64 K, sa], .agg #[.int .i64 K, .int .i64 R, sb]] w fun e w' => e = .returned (.bool true) ∧ Below w.heap.size w w' := by
  have hmix : Try.prog.follows .mixedOrders = true := by kernel_rfl
  have hK4 : R * K ≤ 4096 := Nat.mul_le_mul hR hK
  have hK5 : R * R ≤ 4096 := Nat.mul_le_mul hR hR
  have hK6 : K * K ≤ 4096 := Nat.mul_le_mul hK hK
  obtain ⟨aa, cap, rfl, hcap⟩ := hr.slice
  obtain ⟨ab, cap', rfl, hcap'⟩ := hr'.slice
  obtain ⟨⟨c0, c1, c2⟩, ⟨d0, d1, d2⟩, hB⟩ := boxes2M w (.int .i64 R) (.int .i64 K) (.slice aa (R * K) cap) (.int .i64 K) (.int .i64 R) (.slice ab (K * R) cap')
  have hm1 := fun (u : World) (hu : Below w.heap.size w u) => Mul_good R K R S T _ _ a b u hR hK hR (by omega) (hr.below hu) (hr'.below hu) hA hB'
  have hm2 := fun (u : World) (hu : Below w.heap.size w u) => Mul_good K R K T S _ _ b a u hK hR hK (by omega) (hr'.below hu) (hr.below hu) hB' hA
  have hz1 : ∀ q, q < R * R → ZB (S + T + 1) (mulE a b K R q) := mulE_zb hK hA hB'
  have hz2 : ∀ q, q < K * K → ZB (T + S + 1) (mulE b a R K q) := mulE_zb hR hB' hA
  have htl := fun (k : Nat) (hk : k < R + 1 + (K + 1) - 1) => turn_left R K a b hk
  have htr := fun (k : Nat) (hk : k < K + 1 + (R + 1) - 1) => turn_right R K a b hk
  obtain ⟨X, hX⟩ : ∃ X, X = mulE a b K R := ⟨_, rfl⟩
  obtain ⟨Y, hY⟩ : ∃ Y, Y = mulE b a R K := ⟨_, rfl⟩
  rw [← hX] at hz1
  rw [← hY] at hz2
  simp only [← hX] at hm1 htl htr
  simp only [← hY] at hm2 htr
  have hch := fun (n Z : Nat) (G : Nat → Int) (sl : Value) (u : World) (hn : n ≤ 64) (hZ : Z ≤ 2000000000) (h1 : RdE u sl (n * n) G) (h2 : ∀ q, q < n * n → ZB Z (G q)) => Char_good n Z sl G u hn hZ h1 h2
  obtain ⟨KA, hKA⟩ : ∃ KA, KA = R * K := ⟨_, rfl⟩
  obtain ⟨KB, hKB⟩ : ∃ KB, KB = K * R := ⟨_, rfl⟩
  obtain ⟨RR, hRR⟩ : ∃ RR, RR = R * R := ⟨_, rfl⟩
  obtain ⟨KK, hKK⟩ : ∃ KK, KK = K * K := ⟨_, rfl⟩
  rw [← hKA] at hK4
  simp only [← hKA, ← hKB] at c0 c1 c2 d0 d1 d2 hB
  rw [← hRR] at hK5
  rw [← hKK] at hK6
  simp only [← hKA, ← hKB, ← hRR, ← hKK] at hm1 hm2 ⊢
  have HM1 := Lib.hid hm1
  have HM2 := Lib.hid hm2
  have HZ1 := Lib.hid hz1
  have HZ2 := Lib.hid hz2
  have HTL := Lib.hid htl
  have HTR := Lib.hid htr
  have HCH := Lib.hid hch
  have HRR := Lib.hid hRR
  have HKK := Lib.hid hKK
  have HB := Lib.hid hB
  clear hm1 hm2 hz1 hz2 htl htr hch hRR hKK hB hr hr' hA hB' hX hY hKA hKB
  go_enter Try.func3, Try.ntmps3
  go_upto_region 1 with fail
  generalize (w.alloc (.cells #[.int .i64 R, .int .i64 K, .slice aa KA cap] 24)).alloc (.cells #[.int .i64 K, .int .i64 R, .slice ab KB cap'] 24) = W at *
  go_wp2_with fail
  (refine (awake16_any W).mono ?_)
  rintro e w1 ⟨rfl, hb_w1⟩
  replace c0 := cell_stays hb_w1 c0
  replace c1 := cell_stays hb_w1 c1
  replace c2 := cell_stays hb_w1 c2
  replace d0 := cell_stays hb_w1 d0
  replace d1 := cell_stays hb_w1 d1
  replace d2 := cell_stays hb_w1 d2
  replace HB := Lib.hid (below_via HB.out hb_w1)
  clear hb_w1
  go_wp2_with fail
  (refine (HM1.out w1 HB.out).mono ?_)
  rintro e w2 ⟨l1, rfl, hf2, hb_w2⟩
  have ba_w2 := bl_alloc w2 (.cells #[.int .i64 R, .int .i64 R, .slice (some ⟨l1, 0, none⟩) RR RR] 24)
  replace hb_w2 := below_via hb_w2 ba_w2
  have bk_w2 := three_cells w2 (.int .i64 R) (.int .i64 R) (.slice (some ⟨l1, 0, none⟩) RR RR) 24
  have x0 := (bk_w2 0 _ rfl).1
  have x1 := (bk_w2 1 _ rfl).1
  have x2 := (bk_w2 2 _ rfl).1
  have RX := Lib.hid (show RdE _ _ (R * R) X by rw [← HRR.out]; exact (hf2.rd (Nat.le_refl _) (by omega)).below ba_w2)
  replace c0 := cell_stays hb_w2 c0
  replace c1 := cell_stays hb_w2 c1
  replace c2 := cell_stays hb_w2 c2
  replace d0 := cell_stays hb_w2 d0
  replace d1 := cell_stays hb_w2 d1
  replace d2 := cell_stays hb_w2 d2
  replace HB := Lib.hid (below_via HB.out hb_w2)
  clear hb_w2 ba_w2 bk_w2 hf2 HM1
  go_upto_region 4 with fail
  generalize hq_w2 : w2.heap.size = q_w2 at *
  generalize w2.alloc (.cells #[.int .i64 R, .int .i64 R, .slice (some ⟨l1, 0, none⟩) RR RR] 24) = v_w2 at *
  clear hq_w2
  go_wp2_with fail
  (refine (HM2.out v_w2 HB.out).mono ?_)
  rintro e w3 ⟨l2, rfl, hf3, hb_w3⟩
  have ba_w3 := bl_alloc w3 (.cells #[.int .i64 K, .int .i64 K, .slice (some ⟨l2, 0, none⟩) KK KK] 24)
  replace hb_w3 := below_via hb_w3 ba_w3
  have bk_w3 := three_cells w3 (.int .i64 K) (.int .i64 K) (.slice (some ⟨l2, 0, none⟩) KK KK) 24
  have y0 := (bk_w3 0 _ rfl).1
  have y1 := (bk_w3 1 _ rfl).1
  have y2 := (bk_w3 2 _ rfl).1
  have RY := Lib.hid (show RdE _ _ (K * K) Y by rw [← HKK.out]; exact (hf3.rd (Nat.le_refl _) (by omega)).below ba_w3)
  replace c0 := cell_stays hb_w3 c0
  replace c1 := cell_stays hb_w3 c1
  replace c2 := cell_stays hb_w3 c2
  replace x0 := cell_stays hb_w3 x0
  replace x1 := cell_stays hb_w3 x1
  replace x2 := cell_stays hb_w3 x2
  replace RX := Lib.hid (RX.out.below hb_w3)
  replace HB := Lib.hid (below_via HB.out hb_w3)
  clear hb_w3 ba_w3 bk_w3 hf3 HM2
  clear d0 d1 d2
  go_upto_region 5 with fail
  generalize hq_w3 : w3.heap.size = q_w3 at *
  generalize w3.alloc (.cells #[.int .i64 K, .int .i64 K, .slice (some ⟨l2, 0, none⟩) KK KK] 24) = v_w3 at *
  clear hq_w3
  have hc1 := HCH.out R (S + T + 1) X _ v_w3 hR (by omega) RX.out HZ1.out
  have HC1 := Lib.hid hc1
  clear hc1
  go_wp2_with fail
  (refine (HC1.out).mono ?_)
  rintro e w4 ⟨lp, rfl, hf4, hb_w4⟩
  replace c0 := cell_stays hb_w4 c0
  replace c1 := cell_stays hb_w4 c1
  replace x0 := cell_stays hb_w4 x0
  replace x1 := cell_stays hb_w4 x1
  replace x2 := cell_stays hb_w4 x2
  replace y0 := cell_stays hb_w4 y0
  replace y1 := cell_stays hb_w4 y1
  replace y2 := cell_stays hb_w4 y2
  have LP := Lib.hid (show LeE _ _ _ (chE R X) from hf4.lee (Nat.le_refl _) (Nat.le_refl _) (by omega))
  replace RX := Lib.hid (RX.out.below hb_w4)
  replace RY := Lib.hid (RY.out.below hb_w4)
  replace HB := Lib.hid (below_via HB.out hb_w4)
  clear hb_w4 hf4 HC1
  clear c2
  have hc2 := HCH.out K (T + S + 1) Y _ w4 hK (by omega) RY.out HZ2.out
  have HC2 := Lib.hid hc2
  clear hc2
  go_wp2_with fail
  (refine (HC2.out).mono ?_)
  rintro e w5 ⟨lq, rfl, hf5, hb_w5⟩
  replace c0 := cell_stays hb_w5 c0
  replace c1 := cell_stays hb_w5 c1
  replace x0 := cell_stays hb_w5 x0
  replace x1 := cell_stays hb_w5 x1
  replace x2 := cell_stays hb_w5 x2
  have LQ := Lib.hid (show LeE _ _ _ (chE K Y) from hf5.lee (Nat.le_refl _) (Nat.le_refl _) (by omega))
  replace RX := Lib.hid (RX.out.below hb_w5)
  replace LP := Lib.hid (LP.out.below hb_w5)
  replace HB := Lib.hid (below_via HB.out hb_w5)
  clear hb_w5 hf5 HC2
  clear RY y0 y1 y2
  go_upto_region 9 with fail
  refine region_early (fun u => u.cell? ⟨w.heap.size, 0, none⟩ = some (.int .i64 R) ∧ u.cell? ⟨w.heap.size, 1, none⟩ = some (.int .i64 K)) 20 [0, 1, 2, 3, 4, 5, 6, 7, 8, 9, 12, 13, 14] 7 hmix (by kernel_rfl) rfl (by kernel_rfl) (fun _ _ d _ _ h => by cases d <;> exact h) ⟨c0, c1⟩ ?_
  iterate 13 (refine early_take rfl (by rfl) ?_; apply Exists.intro; refine ⟨fun u hu => ?_, ?_⟩; (obtain ⟨u1, u2⟩ := hu; go_simp; rfl); simp only [Act.put, List.getElem_toArray, List.getElem_cons_zero, List.getElem_cons_succ, List.setIfInBounds_toArray, List.set_cons_zero, List.set_cons_succ])
  refine early_done ?_
  simp only [marked]
  refine anyL_one (i := 10) (by kernel_rfl) rfl (by rfl) fun J hJ => ?_
  go_simp
  refine (power_any K _ (by omega)).mono ?_
  rintro e w6 ⟨la, rfl, hf6, hb6⟩
  replace hb6 := below_via (bl_drew w5) hb6
  have LA := hf6.lee (Nat.le_refl _) (Nat.le_refl _) (by omega)
  replace c0 := cell_stays hb6 c0
  replace c1 := cell_stays hb6 c1
  replace x0 := cell_stays hb6 x0
  replace x1 := cell_stays hb6 x1
  replace x2 := cell_stays hb6 x2
  replace RX := Lib.hid (RX.out.below hb6)
  replace LP := Lib.hid (LP.out.below hb6)
  replace LQ := Lib.hid (LQ.out.below hb6)
  replace HB := Lib.hid (below_via HB.out hb6)
  refine hJ _ _ (fun _ => ⟨c0, c1⟩) ?_
  have hp1 := Mul_poly _ _ (R + 1) (K + 1) (64 * (S + T + 1 + 1) + 1) 1 (chE R X) (powX K) w6 LP.out.rd LA.rd (by omega) (by omega) (fun i hi => chE_zb hR HZ1.out i hi) (fun i _ => powX_zb K i)
  rw [chE_sz, powX_sz, if_neg (by omega)] at hp1
  have HP1 := Lib.hid hp1
  clear hJ J hf6 hb6 LA hp1
  refine anyL_one (i := 11) (by kernel_rfl) rfl (by rfl) fun J hJ => ?_
  go_simp
  refine HP1.out.mono ?_
  rintro e w7 ⟨v7, rfl, hl7, hb7⟩
  obtain ⟨p1, p2, rfl, -⟩ := hl7.slice
  have LM := Lib.hid (hl7.congr HTL.out)
  replace c0 := cell_stays hb7 c0
  replace c1 := cell_stays hb7 c1
  replace x0 := cell_stays hb7 x0
  replace x1 := cell_stays hb7 x1
  replace x2 := cell_stays hb7 x2
  replace RX := Lib.hid (RX.out.below hb7)
  replace LP := Lib.hid (LP.out.below hb7)
  replace LQ := Lib.hid (LQ.out.below hb7)
  replace HB := Lib.hid (below_via HB.out hb7)
  refine hJ _ _ (fun _ => ⟨c0, c1⟩) ?_
  clear hJ J hl7 hb7 HP1 HTL
  refine anyL_one (i := 15) (by kernel_rfl) rfl (by rfl) fun J hJ => ?_
  go_simp
  refine (power_any R _ (by omega)).mono ?_
  rintro e w8 ⟨lc, rfl, hf8, hb8⟩
  have LA := hf8.lee (Nat.le_refl _) (Nat.le_refl _) (by omega)
  replace c0 := cell_stays hb8 c0
  replace c1 := cell_stays hb8 c1
  replace x0 := cell_stays hb8 x0
  replace x1 := cell_stays hb8 x1
  replace x2 := cell_stays hb8 x2
  replace RX := Lib.hid (RX.out.below hb8)
  replace LP := Lib.hid (LP.out.below hb8)
  replace LQ := Lib.hid (LQ.out.below hb8)
  replace LM := Lib.hid (LM.out.below hb8)
  replace HB := Lib.hid (below_via HB.out hb8)
  refine hJ _ _ (fun _ => ⟨c0, c1⟩) ?_
  have hp1 := Mul_poly _ _ (K + 1) (R + 1) (64 * (T + S + 1 + 1) + 1) 1 (chE K Y) (powX R) w8 LQ.out.rd LA.rd (by omega) (by omega) (fun i hi => chE_zb hK HZ2.out i hi) (fun i _ => powX_zb R i)
  rw [chE_sz, powX_sz, if_neg (by omega)] at hp1
  have HP1 := Lib.hid hp1
  clear hJ J hf8 hb8 LA hp1
  refine anyL_one (i := 16) (by kernel_rfl) rfl (by rfl) fun J hJ => ?_
  go_simp
  refine HP1.out.mono ?_
  rintro e w9 ⟨v9, rfl, hl9, hb9⟩
  obtain ⟨p3, p4, rfl, -⟩ := hl9.slice
  have LN := hl9.congr HTR.out
  rw [show K + 1 + (R + 1) - 1 = R + 1 + (K + 1) - 1 by omega] at LN
  replace c0 := cell_stays hb9 c0
  replace c1 := cell_stays hb9 c1
  replace x0 := cell_stays hb9 x0
  replace x1 := cell_stays hb9 x1
  replace x2 := cell_stays hb9 x2
  replace RX := Lib.hid (RX.out.below hb9)
  replace LP := Lib.hid (LP.out.below hb9)
  replace LM := Lib.hid (LM.out.below hb9)
  replace HB := Lib.hid (below_via HB.out hb9)
  refine hJ _ _ (fun _ => ⟨c0, c1⟩) ?_
  have HSR := Lib.hid (SameRow_yes _ _ _ _ w9 LM.out LN)
  rw [show K + 1 + (R + 1) - 1 = R + 1 + (K + 1) - 1 by omega]
  clear hJ J hl9 hb9 LM LN HP1 HTR LQ
  refine anyL_one (i := 17) (by kernel_rfl) rfl (by rfl) fun J hJ => ?_
  go_simp
  refine HSR.out.mono ?_
  rintro e w10 ⟨rfl, hb10⟩
  replace c0 := cell_stays hb10 c0
  replace c1 := cell_stays hb10 c1
  replace x0 := cell_stays hb10 x0
  replace x1 := cell_stays hb10 x1
  replace x2 := cell_stays hb10 x2
  replace RX := Lib.hid (RX.out.below hb10)
  replace LP := Lib.hid (LP.out.below hb10)
  replace HB := Lib.hid (below_via HB.out hb10)
  refine hJ _ _ (fun _ => ⟨c0, c1⟩) ?_
  clear hJ J hb10 HSR
  refine anyL_yield (i := 18) rfl (by kernel_rfl) (by kernel_rfl) (by kernel_rfl) (by kernel_rfl) (fun _ _ d _ _ h => by cases d <;> exact h) (by rfl) ⟨c0, c1⟩ ?_
  apply Exists.intro
  refine ⟨fun u => ?_, ?_⟩
  · go_simp
    rfl
  simp only [Act.put, List.getElem_toArray, List.getElem_cons_zero, List.getElem_cons_succ, List.setIfInBounds_toArray, List.set_cons_zero, List.set_cons_succ]
  refine anyL_yield (i := 19) rfl (by kernel_rfl) (by kernel_rfl) (by kernel_rfl) (by kernel_rfl) (fun _ _ d _ _ h => by cases d <;> exact h) (by rfl) ⟨c0, c1⟩ ?_
  apply Exists.intro
  refine ⟨fun u => ?_, ?_⟩
  · go_simp
    rfl
  simp only [Act.put, List.getElem_toArray, List.getElem_cons_zero, List.getElem_cons_succ, List.setIfInBounds_toArray, List.set_cons_zero, List.set_cons_succ]
  refine anyL_done (by kernel_rfl) ?_ _
  have htu := Turn_good R R _ X w10 hR hR RX.out
  rw [← HRR.out] at htu
  have HTU := Lib.hid htu
  clear htu c0 c1
  go_wp2_with fail
  (refine (HTU.out).mono ?_)
  rintro e w11 ⟨l3, rfl, hf11, hb_w11⟩
  have ba_w11 := bl_alloc w11 (.cells #[.int .i64 R, .int .i64 R, .slice (some ⟨l3, 0, none⟩) RR RR] 24)
  replace hb_w11 := below_via hb_w11 ba_w11
  have bk_w11 := three_cells w11 (.int .i64 R) (.int .i64 R) (.slice (some ⟨l3, 0, none⟩) RR RR) 24
  have z0 := (bk_w11 0 _ rfl).1
  have z1 := (bk_w11 1 _ rfl).1
  have z2 := (bk_w11 2 _ rfl).1
  have RT := Lib.hid (show RdE _ _ (R * R) (tpE R X) by rw [← HRR.out]; exact (hf11.rd (Nat.le_refl _) (by omega)).below ba_w11)
  replace x0 := cell_stays hb_w11 x0
  replace x1 := cell_stays hb_w11 x1
  replace x2 := cell_stays hb_w11 x2
  replace RX := Lib.hid (RX.out.below hb_w11)
  replace LP := Lib.hid (LP.out.below hb_w11)
  replace HB := Lib.hid (below_via HB.out hb_w11)
  clear hb_w11 ba_w11 bk_w11 hf11 HTU
  go_upto_region 12 with fail
  generalize hq_w11 : w11.heap.size = q_w11 at *
  generalize w11.alloc (.cells #[.int .i64 R, .int .i64 R, .slice (some ⟨l3, 0, none⟩) RR RR] 24) = v_w11 at *
  clear hq_w11
  have htz := tpE_zb HZ1.out
  have hc3 := HCH.out R (S + T + 1) (tpE R X) _ v_w11 hR (by omega) RT.out htz
  have HTZ := Lib.hid htz
  have HC3 := Lib.hid hc3
  clear hc3 htz
  go_wp2_with fail
  (refine (HC3.out).mono ?_)
  rintro e w12 ⟨l4, rfl, hf12, hb_w12⟩
  replace x0 := cell_stays hb_w12 x0
  replace x1 := cell_stays hb_w12 x1
  replace x2 := cell_stays hb_w12 x2
  replace z0 := cell_stays hb_w12 z0
  replace z1 := cell_stays hb_w12 z1
  replace z2 := cell_stays hb_w12 z2
  have LR := Lib.hid (LeE.congr (F := chE R X) (show LeE _ _ _ (chE R (tpE R X)) from hf12.lee (Nat.le_refl _) (Nat.le_refl _) (by omega)) (fun i _ => chE_tp R X i))
  replace RX := Lib.hid (RX.out.below hb_w12)
  replace LP := Lib.hid (LP.out.below hb_w12)
  replace RT := Lib.hid (RT.out.below hb_w12)
  replace HB := Lib.hid (below_via HB.out hb_w12)
  clear hb_w12 hf12 HC3
  have hl1 := LeastPoly_good R (S + T + 1) _ X w12 hR (by omega) RX.out HZ1.out
  have HL1 := Lib.hid hl1
  clear hl1
  go_wp2_with fail
  (refine (HL1.out).mono ?_)
  rintro e w13 ⟨l5, k, μ, rfl, hkR, hmin, -, hf13, hb_w13⟩
  replace z0 := cell_stays hb_w13 z0
  replace z1 := cell_stays hb_w13 z1
  replace z2 := cell_stays hb_w13 z2
  have LL := Lib.hid (hf13.lee (Nat.le_refl _) (Nat.le_refl _) (by omega))
  have HMI := Lib.hid hmin
  clear hmin
  replace LP := Lib.hid (LP.out.below hb_w13)
  replace RT := Lib.hid (RT.out.below hb_w13)
  replace LR := Lib.hid (LR.out.below hb_w13)
  replace HB := Lib.hid (below_via HB.out hb_w13)
  clear hb_w13 hf13 HL1
  clear RX x0 x1 x2
  have hl2 := LeastPoly_good R (S + T + 1) _ (tpE R X) w13 hR (by omega) RT.out HTZ.out
  have HL2 := Lib.hid hl2
  clear hl2
  go_wp2_with fail
  (refine (HL2.out).mono ?_)
  rintro e w14 ⟨l6, k', μ', rfl, hkR', hmin', -, hf14, hb_w14⟩
  obtain ⟨rfl, hmm⟩ := least_tp HMI.out hmin'
  have LT := Lib.hid ((hf14.lee (Nat.le_refl _) (Nat.le_refl _) (by omega)).congr (fun i _ => (hmm i).symm))
  clear hmin' hmm HMI
  replace LP := Lib.hid (LP.out.below hb_w14)
  replace LR := Lib.hid (LR.out.below hb_w14)
  replace LL := Lib.hid (LL.out.below hb_w14)
  replace HB := Lib.hid (below_via HB.out hb_w14)
  clear hb_w14 hf14 HL2
  clear RT z0 z1 z2
  have HS1 := Lib.hid (SameRow_yes _ _ _ _ w14 LR.out LP.out)
  go_wp2_with fail
  (refine (HS1.out).mono ?_)
  rintro e w15 ⟨rfl, hb_w15⟩
  replace LL := Lib.hid (LL.out.below hb_w15)
  replace LT := Lib.hid (LT.out.below hb_w15)
  replace HB := Lib.hid (below_via HB.out hb_w15)
  clear hb_w15 HS1
  clear LR LP
  have HS2 := Lib.hid (SameRow_yes _ _ _ _ w15 LL.out LT.out)
  go_wp2_with fail
  (refine (HS2.out).mono ?_)
  rintro e w16 ⟨rfl, hb_w16⟩
  replace HB := Lib.hid (below_via HB.out hb_w16)
  clear hb_w16 HS2
  clear LL LT
  go_wp2_with fail
  go_ret
  exact ⟨rfl, HB.out⟩
end Go.Proofs.Ytejliecmdkmgiaa

namespace Go.Proofs.Ytejliecmdkmgiaa
open Go.RowKit Go.Shelf

theorem mul_bad {r c r' c' : Int} {a b : Option Addr} {n n' cap cap' : Nat} (hn : n ≤ 17592186044416) (hn' : n' ≤ 17592186044416) {E : Int} (h : (chk2 (checkE r c n) (checkE r' c' n') = 1 ∧ E = 1) ∨ (chk2 (checkE r c n) (checkE r' c' n') = 0 ∧ c ≠ r' ∧ E = 2)) (u : World) :
    MulAns (.agg #[.int .i64 r, .int .i64 c, .slice a n cap]) (.agg #[.int .i64 r', .int .i64 c', .slice b n' cap']) E u :=
  (Mul_not r c r' c' a b n n' cap cap' hn hn' E h u).mono fun e w' ⟨he, hb⟩ => ⟨0, 0, none, 0, 0, he, hb⟩
theorem chk2_l {x y : Int} (h : x = 1) : chk2 x y = 1 := by rw [h]; rfl
theorem chk2_r {x y : Int} (hx : x = 0 ∨ x = 1) (h : y = 1) : chk2 x y = 1 := by
  rcases hx with rfl | rfl
  · rw [h]; rfl
  · rfl
theorem Turns_law (r c r' c' : Int) (s s' : Value) (n n' : Nat) (x x' : Nat → Raw) (w : World) (hr : RdL w s n x) (hr' : RdL w s' n' x') (hx : ∀ i, i < n → (x i).n ≤ 1048576) (hx' : ∀ i, i < n' → (x' i).n ≤ 1048576) :
    Calls Try.prog 3 #[.agg #[.int .i64 r, .int .i64 c, s], .agg #[.int .i64 r', .int .i64 c', s']] w fun e w' => e = .returned (.bool true) ∧ Below w.heap.size w w' := by
  obtain ⟨a, cap, rfl, hcap, hn, -⟩ := id hr
  obtain ⟨b, cap', rfl, hcap', hn', -⟩ := id hr'
  rcases check_cases r c n with h | ⟨R, C, rfl, rfl, hR, hC, rfl⟩
  · exact Turns_out r c r' c' _ _ w 1 1 (fun u _ => mul_bad (by omega) (by omega) (Or.inl ⟨chk2_l h, rfl⟩) u) (fun u _ => mul_bad (by omega) (by omega) (Or.inl ⟨chk2_r (checkE_or _ _ _) h, rfl⟩) u) (Or.inl rfl)
  · rcases check_cases r' c' n' with h | ⟨R', C', rfl, rfl, hR', hC', rfl⟩
    · exact Turns_out R C r' c' _ _ w 1 1 (fun u _ => mul_bad (by omega) (by omega) (Or.inl ⟨chk2_r (checkE_or _ _ _) h, rfl⟩) u) (fun u _ => mul_bad (by omega) (by omega) (Or.inl ⟨chk2_l h, rfl⟩) u) (Or.inl rfl)
    · have hK4 : R * C ≤ 4096 := Nat.mul_le_mul hR hC
      have hK5 : R' * C' ≤ 4096 := Nat.mul_le_mul hR' hC'
      have k1 := checkE_ok hR hC rfl
      have k2 := checkE_ok hR' hC' rfl
      have h1 := hr.rde (by omega) (fun i hi => by have := hx i hi; omega)
      have h2 := hr.zbs hx
      have h3 := hr'.rde (by omega) (fun i hi => by have := hx' i hi; omega)
      have h4 := hr'.zbs hx'
      by_cases e : C = R'
      · subst e
        by_cases e2 : C' = R
        · subst e2
          exact Turns_good C' C 1048576 1048576 _ _ _ _ w hR hC (by omega) (by omega) h1 h3 h2 h4
        · refine Turns_out R C C C' _ _ w 0 2 (fun u hu => ?_) (fun u _ => mul_bad (by omega) (by omega) (Or.inr ⟨by rw [k1, k2]; rfl, by omega, rfl⟩) u) (Or.inr ⟨rfl, rfl⟩)
          exact (Mul_good R C C' 1048576 1048576 _ _ _ _ u hR hC hC' (by omega) (h1.below hu) (h3.below hu) h2 h4).mono fun e w' ⟨lb, he, _, hb⟩ => ⟨_, _, _, _, _, he, hb⟩
      · by_cases e2 : C' = R
        · subst e2
          refine Turns_out C' C R' C' _ _ w 2 0 (fun u _ => mul_bad (by omega) (by omega) (Or.inr ⟨by rw [k1, k2]; rfl, by omega, rfl⟩) u) (fun u hu => ?_) (Or.inl rfl)
          exact (Mul_good R' C' C 1048576 1048576 _ _ _ _ u hR' hC' hC (by omega) (h3.below hu) (h1.below hu) h4 h2).mono fun e w' ⟨lb, he, _, hb⟩ => ⟨_, _, _, _, _, he, hb⟩
        · exact Turns_out R C R' C' _ _ w 2 2 (fun u _ => mul_bad (by omega) (by omega) (Or.inr ⟨by rw [k1, k2]; rfl, by omega, rfl⟩) u) (fun u _ => mul_bad (by omega) (by omega) (Or.inr ⟨by rw [k1, k2]; rfl, by omega, rfl⟩) u) (Or.inl rfl)
end Go.Proofs.Ytejliecmdkmgiaa

namespace Go.Proofs.Ytejliecmdkmgiaa.charpolyTurns
open Go.ChangeShapes Go.WideShapes Go.ChangeAt Go.RowKit

theorem own : ownKnob Try.prog.godebug = none := by kernel_rfl

set_option maxRecDepth 100000 in
theorem contract (H : Type) (enc : TypeId × Value → H) (W : World) (base : Nat) (args : Array Value) (ds gs : List (DataW H)) (before : List MemPlace)
    (hval : ∀ (j : Nat) t v, Try.f3.params[j]? = some t → args[j]? = some v → Value.okWide Try.prog W .any base t v)
    (hW : DataW.Whole enc Try.prog Try.f3.params.toList Rows.charpolyTurnsSpec.vars false W args.toList ds gs before) (hk : Rows.uptoSmall H (ds ++ gs) = true) :
    Calls Try.prog 3 args W fun e W' => ∃ v, e = .returned v ∧ Rows.charpolyTurnsSpec.post enc Try.prog Try.f3 false true false false W args v W' := by
  have hW' := hW
  have hlt : ∀ x ∈ before, x.block < W.heap.size := fun x hx => hW.lt x hx
  obtain ⟨p, q, hA0, hV, rfl, hfz, hnd⟩ := hW
  have hA : DataW.TrodAll enc Try.prog W 0 (fun _ => true) true Try.f3.params.toList args.toList ds p := hA0
  rw [Try.params3] at hA hval
  obtain ⟨v0, vs0, d0, ds0, p0, q0, hargs, rfl, rfl, h0, r0⟩ := trodAll_cons hA
  obtain ⟨v1, vs1, d1, ds1, p1, q1, rfl, rfl, rfl, h1, r1⟩ := trodAll_cons r0
  obtain ⟨rfl, rfl, rfl⟩ := trodAll_nil r1
  obtain rfl : args = #[v0, v1] := by cases args; simp_all
  obtain ⟨rfl, rfl⟩ := trodVars_none hV
  have h0k := h0
  have h1k := h1
  clear hA0
  simp only [List.append_nil] at hW' hk hlt
  have hbk : Rows.uptoBulkAll [d0, d1] ≤ 1048576 := of_decide_eq_true hk
  simp only [Rows.uptoBulkAll] at hbk
  obtain ⟨R0, C0, s0, n0, x0, rfl, hr0, hn0, hx0, -, -⟩ := open_mat (B := 1048576) (hval 0 24 v0 rfl rfl) h0 (by omega) (by omega)
  obtain ⟨R1, C1, s1, n1, x1, rfl, hr1, hn1, hx1, -, -⟩ := open_mat (B := 1048576) (hval 1 24 v1 rfl rfl) h1 (by omega) (by omega)
  refine (Turns_law R0 C0 R1 C1 s0 s1 n0 n1 x0 x1 W hr0 hr1 hx0 hx1).mono fun e W' ⟨he, hg⟩ => ?_
  subst he
  refine ⟨_, rfl, post_of_below (pa := (p0 ++ (p1 ++ []))) (pv := []) hW' (fun _ _ _ => (trodAll_cons_mk (shut_bool Try.underlying4 _) trodAll_mk0)) (fun sp hsp => (trodAll_cons_mk (WideElems.Trod_stays (P := Try.prog) (by kernel_rfl) (by kernel_rfl) (of_decide_eq_true (by kernel_rfl)) h0k (fun x hx => hg.same (hlt x (by simp [hx]))) (fun x hx => hsp x (by simp [hx]))) (trodAll_cons_mk (WideElems.Trod_stays (P := Try.prog) (by kernel_rfl) (by kernel_rfl) (of_decide_eq_true (by kernel_rfl)) h1k (fun x hx => hg.same (hlt x (by simp [hx]))) (fun x hx => hsp x (by simp [hx]))) trodAll_mk0))) (fun _ _ => rfl) (by simp)
    hg (ok_one (by kernel_rfl) rfl (okWide_bool_mk Try.underlying4 _))⟩

set_option maxRecDepth 100000 in
theorem lifted (os : Os) (started : os.Started) (H : Type) (enc : TypeId × Value → H) (F : Stop.Interp) :
    ReturnsInHanded {} Try.checked os 3 .any ((Rows.OpenSpec.upto Rows.charpolyTurnsSpec).pre6 enc Try.prog Try.f3 Rows.charpolyTurnsUptoRow.domain false) (((Rows.OpenSpec.upto Rows.charpolyTurnsSpec).at F).post enc Try.prog Try.f3 false true false false) := by
  refine returnsInHanded_of_cond (C := Try.checked) (s := Rows.OpenSpec.upto Rows.charpolyTurnsSpec) (k := Rows.uptoSmall) rfl own started (by kernel_rfl) Try.func3
    (OpenSpec.witness (enc := enc) (C := Try.checked) (s := Rows.OpenSpec.upto Rows.charpolyTurnsSpec) (k := Rows.uptoSmall) rfl false ⟨#[], #[.agg #[.int .i64 0, .int .i64 0, .slice none 0 0], .agg #[.int .i64 0, .int .i64 0, .slice none 0 0]], []⟩ 8 (by kernel_rfl) (by kernel_rfl) (by kernel_rfl)
      (x := ([.agg [.lit (.int .i64 0), .lit (.int .i64 0), .nil], .agg [.lit (.int .i64 0), .lit (.int .i64 0), .nil]], [], [])) (by kernel_rfl) rfl (by kernel_rfl)) ?_
  intro W base args ds gs before hval hW _ hk _
  exact contract H enc W base args ds gs before hval hW hk

/-- the statement -/
theorem proved : Rows.CharpolyTurnsUptoSaid :=
  OpenClaim.holds_of_cond 3 Try.f3 rfl rfl rfl rfl rfl rfl rfl ⟨rfl, rfl, rfl, rfl, rfl⟩ rfl rfl rfl rfl rfl (by kernel_rfl) Try.func3 (by kernel_rfl)
    (of_decide_eq_true (by kernel_rfl)) (by unfold Func.isWrapper; first | (rw [if_pos (by decide +kernel)]; kernel_rfl) | (rw [if_neg (by decide +kernel)]; exact ⟨rfl, rfl⟩))
    (fun os started H enc _ F => lifted os started H enc F)
#print axioms proved
end Go.Proofs.Ytejliecmdkmgiaa.charpolyTurns
