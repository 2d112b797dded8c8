/- The walk of the law MinorsExpand. 'MinorsExpand', where what it reads is of bulk at most 1,048,576: for every matrix a and every number i the law returns true and its arguments read as before. -/
import Derived.Test.YtncldpadakckjaaGM
import Derived.StillTailTactics
import Derived.Test.YtncldpadakckjaaRows
import Derived.Test.YtncldpadakckjaaGH
import Derived.ProofKit
import Derived.OpenShut
import Derived.Carry
import Derived.JoinedCond
set_option linter.unusedVariables false
set_option linter.unusedSimpArgs false
namespace Go.Proofs.Ytncldpadakckjaa
open Go.RowKit

set_option maxHeartbeats 8000000 in
set_option maxRecDepth 100000 in
theorem MExpand_good (R : Nat) (row : Int) (sl : Value) (A : Nat → Int) (S : Nat) (w : World) (hR : R ≤ 64) (hS : S ≤ 100000000) (hr : RdE w sl (R * R) A) (hA : ∀ q, q < R * R → ZB S (A q)) :
    Calls Try.prog 12 #[.agg #[.int .i64 R, .int .i64 R, sl], .int .i64 row] w fun e w' => e = .returned (.bool true) ∧ Below w.heap.size w w' := by
  have hK4 : R * R ≤ 4096 := Nat.mul_le_mul hR hR
  have hS1 : S + (64 * (S + 1) + 1) + 1 ≤ 274877906944 := by omega
  obtain ⟨a, cap, rfl, hcap⟩ := hr.slice
  obtain ⟨⟨c0, c1, c2⟩, hB, hsz⟩ := boxM w (.int .i64 R) (.int .i64 R) (.slice a (R * R) cap)
  have hdt := fun (u : World) (hu : Below w.heap.size w u) => Det_good R S _ A u hR (by omega) (hr.below hu) hA
  have hmi : ∀ (i j : Nat) (rv cv : Value) (u : World), Below w.heap.size w u → 0 < R → RdI64 u rv (R - 1) (laZ.sk i) → RdI64 u cv (R - 1) (laZ.sk j) →
      Calls Try.prog 50 #[.agg #[.int .i64 R, .int .i64 R, .slice a (R * R) cap], rv, cv] u fun e w' => ∃ v, e = .returned (.tuple #[v, .int .i64 0]) ∧ FrZ w' u.heap.size v (dropD A R i j) ∧ Below u.heap.size u w' := fun i j rv cv u hu hR0 h1 h2 =>
    Minor_good R R (R - 1) S (.slice a (R * R) cap) rv cv (laZ.sk j) (laZ.sk i) A u hR hR (by omega) (by omega) (fun k hk => sk_ltR hR0 hk) (fun k hk => sk_ltR hR0 hk) (hr.below hu) hA h1 h2
  have hzc := fun (i j : Nat) => dropD_zb hR hA i j
  have hzs := fun (i k : Nat) (hi : i < R) (hk : k ≤ R) => expS_zb hR hi hA hk
  have hget := fun (u : World) (p : Nat) (hp : p < R * R) (hu : Below w.heap.size w u) => (hr.below hu).get hp
  simp only [leadD_all] at hdt
  generalize hKK : R * R = K at *
  have HDT := Lib.hid hdt
  have HMI := Lib.hid hmi
  have HZC := Lib.hid hzc
  have HZS := Lib.hid hzs
  have HGET := Lib.hid hget
  have HB := Lib.hid hB
  have HA := Lib.hid hA
  have HS1 := Lib.hid hS1
  have HKK := Lib.hid hKK
  clear hdt hmi hzc hzs hget hB hA hr hsz hS1 hKK
  go_enter Try.func12, Try.ntmps12
  go_upto_region 1 with fail
  generalize w.alloc (.cells #[.int .i64 R, .int .i64 R, .slice a K cap] 24) = W at *
  go_wp2_with fail
  (refine (awake14_any W).mono ?_)
  rintro e w1 ⟨rfl, hb_w1⟩
  replace c0 := cell_stays hb_w1 c0
  replace c1 := cell_stays hb_w1 c1
  replace c2 := cell_stays hb_w1 c2
  replace HB := Lib.hid (below_via HB.out hb_w1)
  clear hb_w1
  go_wp2_with fail
  (refine (HDT.out w1 HB.out).mono ?_)
  rintro e w3 ⟨dv, rfl, hf3, hb_w3⟩
  have hz3 := hf3.least
  obtain ⟨am, an, ac, rfl, -⟩ := hf3.agg
  obtain ⟨sg, hsg⟩ : ∃ sg, sg = decide (leadD A R R < 0) := ⟨_, rfl⟩
  rw [← hsg] at hz3 ⊢
  clear hsg
  have ba_w3 := bl_alloc w3 (.cells #[.bool sg, .slice am an ac] 42)
  replace hb_w3 := below_via hb_w3 ba_w3
  obtain ⟨x0, x1, -, -⟩ := two_cells w3 (.bool sg) (.slice am an ac) 42
  have RD := Lib.hid (hz3.below ba_w3)
  replace c0 := cell_stays hb_w3 c0
  replace c1 := cell_stays hb_w3 c1
  replace c2 := cell_stays hb_w3 c2
  replace HB := Lib.hid (below_via HB.out hb_w3)
  clear hb_w3 ba_w3 hf3 hz3 HDT
  go_upto_region 4 with fail
  generalize hq_w3 : w3.heap.size = q_w3 at *
  generalize w3.alloc (.cells #[.bool sg, .slice am an ac] 42) = v_w3 at *
  clear hq_w3
  by_cases hR0 : R = 0
  · subst hR0
    have U1 := Lib.hid (fun u (hu : Below v_w3.heap.size v_w3 u) => zOf_fr 1 (by omega) (by omega) u)
    have T3 := Lib.hid (And.intro x0 x1)
    have RD1 := Lib.hid (show RdL1 v_w3 (.agg #[.bool sg, .slice am an ac]) 1 from RD.out)
    go_wp2_with fail
    go_region_held3 (fun w' => w'.cell? ⟨q_w3, 0, none⟩ = some (.bool sg) ∧ w'.cell? ⟨q_w3, 1, none⟩ = some (.slice am an ac))
      (first
        | exact T3.out
        | exact T_w4.out
        | exact T_w5.out
        | go_keep)
      (first
        | (go_at_call 40; (first | (with_reducible refine (U1.out _ (bl_refl _)).mono ?_) | (with_reducible refine (U1.out _ (bl_drew _)).mono ?_)); rintro e w4 ⟨v4, rfl, f4, bb_w4⟩
           have b_w4 : Below v_w3.heap.size v_w3 w4 := by first | (with_reducible exact below_via (bl_refl _) bb_w4) | (with_reducible exact below_via (bl_drew _) bb_w4)
           have T_w4 := Lib.hid (show w4.cell? ⟨q_w3, 0, none⟩ = some (.bool sg) ∧ w4.cell? ⟨q_w3, 1, none⟩ = some (.slice am an ac) from ⟨cell_stays b_w4 (T3.out.1), cell_stays b_w4 (T3.out.2)⟩)
           have F4 := Lib.hid (f4.least)
           have U2 := Lib.hid (fun u (hu : Below w4.heap.size w4 u) => Like_yes _ v4 1 u (RD1.out.below (below_via b_w4 hu)) (F4.out.below hu))
           clear bb_w4)
        | (go_at_call 51; (first | (with_reducible refine (U2.out _ (bl_refl _)).mono ?_)); rintro e w5 ⟨rfl, bb_w5⟩
           have b_w5 : Below w4.heap.size w4 w5 := by first | (with_reducible exact below_via (bl_refl _) bb_w5)
           have T_w5 := Lib.hid (show w5.cell? ⟨q_w3, 0, none⟩ = some (.bool sg) ∧ w5.cell? ⟨q_w3, 1, none⟩ = some (.slice am an ac) from ⟨cell_stays b_w5 (T_w4.out.1), cell_stays b_w5 (T_w4.out.2)⟩)
           clear bb_w5))
    all_goals
      go_wp2_with fail
      go_ret
      exact ⟨rfl, below_via HB.out (below_via b_w4 b_w5)⟩
  have hRp : 0 < R := by omega
  have hR0' : ((R : Int) == 0) = false := by rw [beq_eq_false_iff_ne]; omega
  clear hR0
  go_upto_region 10 with fail
  go_cut [48] (fun v wx => ∃ bq : Bool, v = .bool bq ∧ (bq = false → 0 ≤ row ∧ row < (R : Int)) ∧ wx = v_w3)
  case first =>
    by_cases h0 : row < 0
    · go_wp2_with fail
      go_meet
      exact ⟨_, rfl, (fun h => by simp at h), rfl⟩
    · by_cases h1 : (R : Int) ≤ row
      · go_wp2_with fail
        go_meet
        exact ⟨_, rfl, (fun h => by simp at h), rfl⟩
      · go_wp2_with fail
        go_meet
        exact ⟨_, rfl, (fun _ => by omega), rfl⟩
  case rest =>
  obtain ⟨bq, rfl, hbq, hw⟩ := hcut
  obtain rfl := hw.symm
  have HBQ := Lib.hid hbq
  clear hw hbq
  go_upto_if 48 with fail
  go_cut [1] (fun v wx => (∃ i : Nat, i < R ∧ v = .int .i64 i) ∧ wx = v_w3)
  case first =>
    cases bq
    · obtain ⟨h0, h1⟩ := HBQ.out rfl
      obtain ⟨i, rfl⟩ := Int.eq_ofNat_of_zero_le h0
      have hi : i < R := by omega
      clear h0 h1 HBQ
      go_wp2_with fail
      go_meet
      exact ⟨⟨i, hi, rfl⟩, rfl⟩
    · clear HBQ
      go_wp2_with fail
      go_meet
      exact ⟨⟨0, hRp, by go_num⟩, rfl⟩
  case rest =>
  obtain ⟨⟨i, hi, rfl⟩, hw⟩ := hcut
  obtain rfl := hw.symm
  clear hw
  have hi' : (i : Int) < R := by omega
  have hblk3 : w.heap.size < v_w3.heap.size := World.block_lt_of_cell? _ _ c0
  have hq3 : q_w3 < v_w3.heap.size := World.block_lt_of_cell? _ _ x0
  have RD3 := Lib.hid RD.out
  go_wp2_with fail
  (refine (zOf_fr 0 (by omega) (by omega) v_w3).mono ?_)
  rintro e w4 ⟨v4, rfl, hf4, hb_w4⟩
  have hv4 : v_w3.heap.size ≤ w4.heap.size := hb_w4.size
  obtain ⟨am4, an4, ac4, rfl, -⟩ := hf4.agg
  rw [show decide ((0 : Int) < 0) = false from rfl] at hf4 ⊢
  have hbx4 := two_cells w4 (.bool false) (.slice am4 an4 ac4) 42
  have ba_w4 := bl_alloc w4 (.cells #[.bool false, .slice am4 an4 ac4] 42)
  replace hb_w4 := below_via hb_w4 ba_w4
  obtain ⟨s0, s1, -, -⟩ := two_cells w4 (.bool false) (.slice am4 an4 ac4) 42
  have HF4 := Lib.hid (hf4.below ba_w4)
  have HN4 := Lib.hid hbx4
  have HB34 := Lib.hid hb_w4
  have HQ4 := Lib.hid (show w4.heap.size + 1 ≤ (w4.alloc (.cells #[.bool false, .slice am4 an4 ac4] 42)).heap.size by simp)
  replace c0 := cell_stays hb_w4 c0
  replace c1 := cell_stays hb_w4 c1
  replace c2 := cell_stays hb_w4 c2
  replace x0 := cell_stays hb_w4 x0
  replace x1 := cell_stays hb_w4 x1
  replace RD := Lib.hid (RD.out.below hb_w4)
  replace HB := Lib.hid (below_via HB.out hb_w4)
  clear hb_w4 ba_w4 hf4 hbx4
  go_wp2_with fail
  generalize hq_w4 : w4.heap.size = q_w4 at *
  generalize w4.alloc (.cells #[.bool false, .slice am4 an4 ac4] 42) = v_w4 at *
  clear hq_w4
  go_loopw [11] (fun kv wr => ∃ (j : Nat) (am an : _) (ac : Nat), j ≤ R ∧ kv = .int .i64 j ∧ Below q_w4 v_w4 wr ∧
    (wr.cell? ⟨q_w4, 0, none⟩ = some (.bool (decide (expS A R i j < 0))) ∧ wr.cell? ⟨q_w4, 1, none⟩ = some (.slice am an ac) ∧ wr.frozen? ⟨q_w4, 0, none⟩ = false ∧ wr.frozen? ⟨q_w4, 1, none⟩ = false) ∧
    FrZ wr v_w3.heap.size (.agg #[.bool (decide (expS A R i j < 0)), .slice am an ac]) (expS A R i j) ∧ q_w4 + 1 ≤ wr.heap.size) (fun kv _ => R - (intOf kv).toNat)
  case atStart => exact ⟨0, am4, an4, ac4, Nat.zero_le _, rfl, Below.refl _ _, HN4.out, HF4.out, HQ4.out⟩
  case round =>
    obtain ⟨j, ams, ans, acs, hjR, rfl, hbl, ⟨s0', s1', s2', s3'⟩, hfs, hsz⟩ := hrel
    clear s0 s1 HN4 HF4 HQ4
    have hb3 := HB34.out.trans (hbl.mono hv4)
    have hbw := HB.out.trans (hbl.mono (by omega))
    have hbw0 : ∀ u : World, Below wr.heap.size wr u → Below w.heap.size w u := fun u hu => below_via hbw hu
    replace c0 := below_keep hbl (by omega) c0
    replace c1 := below_keep hbl (by omega) c1
    replace c2 := below_keep hbl (by omega) c2
    replace x0 := below_keep hbl (by omega) x0
    replace x1 := below_keep hbl (by omega) x1
    have HX := Lib.hid hbw0
    have HBL := Lib.hid hbl
    have HB3 := Lib.hid hb3
    have HFS := Lib.hid hfs
    clear hbl hb3 hbw hbw0 hfs
    by_cases hj : j < R
    · have hj' : (j : Int) < R := by omega
      obtain ⟨wo, hwo⟩ : ∃ x, x = wr := ⟨_, rfl⟩
      subst hwo
      go_wp2_with fail
      go_loopw [14, 12, 13] (fun kv rv cv ws => ∃ k : Nat, k ≤ R ∧ kv = .int .i64 k ∧ SkL ws wo.heap.size rv i k ∧ SkL ws wo.heap.size cv j k ∧ Apart rv cv ∧ Below wo.heap.size wo ws) (fun kv _ _ _ => R - (intOf kv).toNat)
      case atStart => exact ⟨0, Nat.zero_le _, rfl, SkL.start _ _ _, SkL.start _ _ _, (fun b hb => by simp [Value.ownBlock] at hb), Below.refl _ _⟩
      case round =>
        obtain ⟨k, hkR, rfl, h1, h2, hap, hbk⟩ := hrel
        obtain ⟨la, m1, lc, rfl⟩ := h1.parts
        obtain ⟨ca, m2, cc, rfl⟩ := h2.parts
        by_cases hk : k < R
        · have hk' : (k : Int) < R := by omega
          have hk64 : k ≤ 64 := by omega
          have hsz5 := hbk.size
          have HL1 := Lib.hid h1
          have HL2 := Lib.hid h2
          have HAP := Lib.hid hap
          have HBK := Lib.hid hbk
          clear h1 h2 hap hbk x0 x1 s0' s1' s2' s3' c0 c1 c2
          by_cases hki : k = i
          · have hne : ((k : Int) != i) = false := by rw [bne_eq_false_iff_eq]; omega
            have HR5 := Lib.hid (show SkL wr wo.heap.size (.slice la m1 lc) i (k + 1) from by have h := HL1.out; rw [← hki]; rw [← hki] at h; exact h.skip)
            clear hki
            by_cases hkj : k = j
            · have hne2 : ((k : Int) != j) = false := by rw [bne_eq_false_iff_eq]; omega
              have HC5 := Lib.hid (show SkL wr wo.heap.size (.slice ca m2 cc) j (k + 1) from by have h := HL2.out; rw [← hkj]; rw [← hkj] at h; exact h.skip)
              clear hkj
              go_wp2_with fail
              go_roundw
              case rel => exact ⟨k + 1, by omega, by go_num, HR5.out, HC5.out, HAP.out, HBK.out⟩
              case measure => simp [intOf]; omega
            · have hne2 : ((k : Int) != j) = true := by rw [bne_iff_ne]; omega
              go_wp2_with (at_builtin; refine wp_pushSk (by rfl) _ _ (by rfl) hkj hk64 HL2.out HR5.out HAP.out.symm (by rfl) (by rfl) hsz5 ?_; intro g n cap w6 g1 g2 g3 g4)
              have HC6 := Lib.hid g1
              have HR6 := Lib.hid g2
              have HP6 := Lib.hid g3.symm
              have HB6 := Lib.hid (HBK.out.trans g4)
              clear g1 g2 g3 g4
              go_wp2_with fail
              go_roundw
              case rel => exact ⟨k + 1, by omega, by go_num, HR6.out, HC6.out, HP6.out, HB6.out⟩
              case measure => simp [intOf]; omega
          · have hne : ((k : Int) != i) = true := by rw [bne_iff_ne]; omega
            by_cases hkj : k = j
            · have hne2 : ((k : Int) != j) = false := by rw [bne_eq_false_iff_eq]; omega
              have HC5 := Lib.hid (show SkL wr wo.heap.size (.slice ca m2 cc) j (k + 1) from by have h := HL2.out; rw [← hkj]; rw [← hkj] at h; exact h.skip)
              clear hkj
              go_wp2_with (at_builtin; refine wp_pushSk (by rfl) _ _ (by rfl) hki hk64 HL1.out HC5.out HAP.out (by rfl) (by rfl) hsz5 ?_; intro g n cap w6 g1 g2 g3 g4)
              have HR6 := Lib.hid g1
              have HC6 := Lib.hid g2
              have HP6 := Lib.hid g3
              have HB6 := Lib.hid (HBK.out.trans g4)
              clear g1 g2 g3 g4
              go_wp2_with fail
              go_roundw
              case rel => exact ⟨k + 1, by omega, by go_num, HR6.out, HC6.out, HP6.out, HB6.out⟩
              case measure => simp [intOf]; omega
            · have hne2 : ((k : Int) != j) = true := by rw [bne_iff_ne]; omega
              go_wp2_with (first
                | (at_builtin; refine wp_pushSk (by rfl) _ _ (by rfl) hki hk64 HL1.out HL2.out HAP.out (by rfl) (by rfl) hsz5 ?_; intro g n cap w6 g1 g2 g3 g4; have HR6 := Lib.hid g1; have HC6 := Lib.hid g2; have HP6 := Lib.hid g3.symm; have HB6 := Lib.hid (HBK.out.trans g4); have hsz6 := HB6.out.size; clear g1 g2 g3 g4 HL1 HL2 HAP HBK)
                | (at_builtin; refine wp_pushSk (by rfl) _ _ (by rfl) hkj hk64 HC6.out HR6.out HP6.out (by rfl) (by rfl) hsz6 ?_; intro g' n' cap' w7 g1 g2 g3 g4))
              have HC7 := Lib.hid g1
              have HR7 := Lib.hid g2
              have HP7 := Lib.hid g3.symm
              have HB7 := Lib.hid (HB6.out.trans g4)
              clear g1 g2 g3 g4
              go_wp2_with fail
              go_roundw
              case rel => exact ⟨k + 1, by omega, by go_num, HR7.out, HC7.out, HP7.out, HB7.out⟩
              case measure => simp [intOf]; omega
        · rw [show k = R by omega] at h1 h2
          have f1 := h1.full hi hR
          have f2 := h2.full hj hR
          obtain ⟨w5, hw5⟩ : ∃ x, x = wr := ⟨_, rfl⟩
          subst hw5
          have HM5 := Lib.hid (HMI.out i j _ _ w5 (HX.out _ hbk) hRp f1 f2)
          have hq4 : q_w4 < wo.heap.size := by omega
          have HBQ := Lib.hid (HBL.out.trans (hbk.mono (by omega)))
          have HB5 := Lib.hid (HX.out _ hbk)
          have HV5 := Lib.hid (below_via HB3.out hbk)
          have HS5 := Lib.hid (HFS.out.below hbk)
          have hs5 : q_w4 < w5.heap.size := Nat.lt_of_lt_of_le hq4 hbk.size
          replace s2' := froz_stays hbk s0' s2'
          replace s3' := froz_stays hbk s1' s3'
          replace s0' := cell_stays hbk s0'
          replace s1' := cell_stays hbk s1'
          replace x0 := cell_stays hbk x0
          replace x1 := cell_stays hbk x1
          replace c0 := cell_stays hbk c0
          replace c1 := cell_stays hbk c1
          replace c2 := cell_stays hbk c2
          clear h1 h2 f1 f2 hap hbk hq4 HBL HB3 HFS HX
          go_wp2_with fail
          (refine HM5.out.mono ?_)
          rintro e w6 ⟨mv, rfl, hf6, hb6⟩
          have hz6 := hf6.rd (HZC.out i j) (by have := HS1.out; omega)
          obtain ⟨am6, an6, ac6, rfl, -⟩ := hf6.agg
          obtain ⟨sg6, hsg6⟩ : ∃ b, b = decide (dropD A R i j < 0) := ⟨_, rfl⟩
          rw [← hsg6] at hz6 ⊢
          have hba := bl_alloc w6 (.cells #[.bool sg6, .slice am6 an6 ac6] 42)
          have hb := below_via hb6 hba
          obtain ⟨m0, m1, -, -⟩ := two_cells w6 (.bool sg6) (.slice am6 an6 ac6) 42
          have RM := Lib.hid (hz6.below hba)
          replace HBQ := Lib.hid (HBQ.out.trans (hb.mono (by omega)))
          replace HB5 := Lib.hid (below_via HB5.out hb)
          replace HV5 := Lib.hid (below_via HV5.out hb)
          replace HS5 := Lib.hid (HS5.out.below hb)
          have hs6 := Nat.lt_of_lt_of_le hs5 hb.size
          replace s2' := froz_stays hb s0' s2'
          replace s3' := froz_stays hb s1' s3'
          replace s0' := cell_stays hb s0'
          replace s1' := cell_stays hb s1'
          replace x0 := cell_stays hb x0
          replace x1 := cell_stays hb x1
          replace c0 := cell_stays hb c0
          replace c1 := cell_stays hb c1
          replace c2 := cell_stays hb c2
          clear hz6 hba hb hb6 hf6 hsg6 HM5 hs5
          go_upto_region 27 with fail
          generalize w6.heap.size = q6 at *
          generalize w6.alloc (.cells #[.bool sg6, .slice am6 an6 ac6] 42) = v6 at *
          obtain ⟨p, hp⟩ : ∃ p, p = i * R + j := ⟨_, rfl⟩
          obtain ⟨hpK, hpe⟩ := idx_lt hi hj hp
          rw [HKK.out] at hpK
          obtain ⟨ba, oa, sa, ma, rfl, a0, a1, hza⟩ := HGET.out v6 p hpK HB5.out
          obtain ⟨ama, ana, aca, rfl⟩ := hza.agg
          obtain ⟨xz, hxz⟩ : ∃ xz, xz = A p * dropD A R i j := ⟨_, rfl⟩
          have HZX := Lib.hid (show ZB (S + (64 * (S + 1) + 1)) xz by rw [hxz]; exact (HA.out p hpK).mul (HZC.out i j))
          have HXZ := Lib.hid (show expS A R i (j + 1) = sgE i j * xz + expS A R i j by rw [expS_succ, ← hp, hxz, ← Int.mul_assoc, ← Int.mul_assoc, Int.mul_comm (A p)])
          have KM := Lib.hid (fun (u : World) (hu : Below v6.heap.size v6 u) => (show Calls Try.prog 44 #[.agg #[.bool sa, .slice ama ana aca], .agg #[.bool sg6, .slice am6 an6 ac6]] u fun e w' => ∃ v, e = .returned v ∧ FrZ w' u.heap.size v xz ∧ Below u.heap.size u w' by
            rw [hxz]; exact zMul_any _ _ _ _ u (hza.below hu) (RM.out.below hu)))
          have T6 := Lib.hid (And.intro c2 (And.intro a0 (And.intro a1 (And.intro m0 m1))))
          have m0' : 0 ≤ (i : Int) * R := Int.mul_nonneg (by omega) (by omega)
          have m1' : (i : Int) * R ≤ 4096 := by omega
          have hpI : (p : Int) < (K : Int) := by exact_mod_cast hpK
          have wi1 : IntKind.i64.wrap ((i : Int) * R) = (i : Int) * R := IntWalk.i64_in _ (by omega)
          have wi2 : IntKind.i64.wrap ((i : Int) * R + j) = (p : Int) := by rw [hpe]; exact IntWalk.i64_in _ (by omega)
          have RS := Lib.hid (HS5.out.rd (HZS.out i j hi (by omega)) HS1.out)
          clear hza hxz hp hpe RM
          go_upto_region 27 with fail
          go_cut [17] (fun v9 wx => ∃ q, v9 = .pointer (some ⟨q, 0, none⟩) ∧ BoxZ v6 wx q xz)
          case first =>
            have HSK := Lib.hid (fun (u : World) (hu : Below v6.heap.size v6 u) => (show u.cell? ⟨w.heap.size, 2, none⟩ = some (.slice (some ⟨ba, oa, none⟩) K cap) ∧ u.cell? ⟨ba, oa + p * 2, none⟩ = some (.bool sa) ∧ u.cell? ⟨ba, oa + p * 2 + 1, none⟩ = some (.slice ama ana aca) ∧ u.cell? ⟨q6, 0, none⟩ = some (.bool sg6) ∧ u.cell? ⟨q6, 1, none⟩ = some (.slice am6 an6 ac6) from ⟨cell_stays hu (T6.out.1), cell_stays hu (T6.out.2.1), cell_stays hu (T6.out.2.2.1), cell_stays hu (T6.out.2.2.2.1), cell_stays hu (T6.out.2.2.2.2)⟩))
            have HSF := Lib.hid (fun (u u' : World) (q : Nat) (hu : Below v6.heap.size v6 u) (hg : u.grownBy u' (some q)) (hq : v6.heap.size ≤ q) => (show u'.cell? ⟨w.heap.size, 2, none⟩ = some (.slice (some ⟨ba, oa, none⟩) K cap) ∧ u'.cell? ⟨ba, oa + p * 2, none⟩ = some (.bool sa) ∧ u'.cell? ⟨ba, oa + p * 2 + 1, none⟩ = some (.slice ama ana aca) ∧ u'.cell? ⟨q6, 0, none⟩ = some (.bool sg6) ∧ u'.cell? ⟨q6, 1, none⟩ = some (.slice am6 an6 ac6) from ⟨cell_gb hg hu hq (T6.out.1), cell_gb hg hu hq (T6.out.2.1), cell_gb hg hu hq (T6.out.2.2.1), cell_gb hg hu hq (T6.out.2.2.2.1), cell_gb hg hu hq (T6.out.2.2.2.2)⟩))
            go_region_held3 (fun w' => w'.cell? ⟨w.heap.size, 2, none⟩ = some (.slice (some ⟨ba, oa, none⟩) K cap) ∧ w'.cell? ⟨ba, oa + p * 2, none⟩ = some (.bool sa) ∧ w'.cell? ⟨ba, oa + p * 2 + 1, none⟩ = some (.slice ama ana aca) ∧ w'.cell? ⟨q6, 0, none⟩ = some (.bool sg6) ∧ w'.cell? ⟨q6, 1, none⟩ = some (.slice am6 an6 ac6))
              (first
                | with_reducible exact T6.out
                | (refine HSK.out _ ?_; (repeat (first | with_reducible exact bl_refl _ | with_reducible exact b_w7 | with_reducible refine below_via ?_ (bl_alloc _ _) | with_reducible refine below_via ?_ (bl_drew _))); done)
                | with_reducible exact HSF.out _ _ _ b_w7 (gb2 _ _ _ _) (by first | exact Nat.le_refl _ | omega)
                | go_keep)
              (first
                | (go_at_call 44; refine (KM.out _ ?_).mono ?_
                   · (repeat (first | with_reducible exact bl_refl _ | with_reducible exact b_w7 | with_reducible refine below_via ?_ (bl_alloc _ _) | with_reducible refine below_via ?_ (bl_drew _)))
                   rintro e w7 ⟨vz, rfl, fz, bz⟩
                   obtain ⟨amz, anz, acz, rfl, -⟩ := fz.agg
                   have b_w7 : Below v6.heap.size v6 w7 := by
                     refine below_via ?_ bz
                     (repeat (first | with_reducible exact bl_refl _ | with_reducible exact b_w7 | with_reducible refine below_via ?_ (bl_alloc _ _) | with_reducible refine below_via ?_ (bl_drew _)))
                   (first | (with_reducible have zz := box2_after_d bz) | (with_reducible have zz := box2_after_e bz) | (with_reducible have zz := box2_after bz) | skip)
                   (first | (obtain ⟨⟨z0, z1⟩, y0, y1⟩ := zz) | skip)
                   have FZ := Lib.hid fz
                   clear bz fz))
            all_goals
              go_wp2_with fail
              go_meet
              first
                | exact ⟨_, rfl, boxZ_new b_w7 FZ.out (by simp)⟩
                | exact ⟨_, rfl, boxZ_old b_w7 FZ.out (Nat.le_refl _) (by simp) ⟨⟨z0, z1⟩, y0, y1⟩⟩
          case rest =>

          obtain ⟨q7, rfl, hbz, hq7, hq7', am7, an7, ac7, ⟨y0, y1⟩, ⟨y2, y3⟩, hf7⟩ := hcut
          obtain ⟨v7, hw7⟩ : ∃ x, x = wc := ⟨_, rfl⟩
          subst hw7
          have R7 := Lib.hid (hf7.rd HZX.out (by have := HS1.out; omega))
          have hx8 : q_w4 < q7 := by omega
          have HB67 := Lib.hid hbz
          replace HBQ := Lib.hid (HBQ.out.trans (hbz.mono (by omega)))
          replace HB5 := Lib.hid (below_via HB5.out hbz)
          replace HV5 := Lib.hid (below_via HV5.out hbz)
          replace HS5 := Lib.hid (HS5.out.below hbz)
          replace s2' := froz_stays hbz s0' s2'
          replace s3' := froz_stays hbz s1' s3'
          replace s0' := cell_stays hbz s0'
          replace s1' := cell_stays hbz s1'
          replace x0 := cell_stays hbz x0
          replace x1 := cell_stays hbz x1
          replace c0 := cell_stays hbz c0
          replace c1 := cell_stays hbz c1
          replace c2 := cell_stays hbz c2
          have hwq : w.heap.size < q7 := by have := hblk3; omega
          have hxq : q_w3 < q7 := by omega
          clear hbz hf7 a0 a1 T6 KM wi1 wi2 m0' m1' m0 m1 hpI hs6
          generalize decide (xz < 0) = sg7 at *
          go_upto_region 28 with fail
          go_cut [98] (fun v wx => (∃ bp : Bool, v = .bool bp ∧ bp = decide ((i + j) % 2 = 1)) ∧ wx = v7)
          case first =>
            go_wp2_with fail
            go_meet
            refine ⟨⟨_, rfl, ?_⟩, rfl⟩
            by_cases hpar : (i + j) % 2 = 1
            · rw [decide_eq_true hpar, beq_iff_eq]; omega
            · rw [decide_eq_false hpar, beq_eq_false_iff_ne]; omega
          case rest =>
          obtain ⟨⟨bp, rfl, hbp⟩, hw⟩ := hcut
          obtain rfl := hw.symm
          have HBP := Lib.hid hbp
          clear hw hbp
          go_upto_if 98 with fail
          go_cut [] (fun wx => ∃ sd ad nd cd, (wx.cell? ⟨q7, 0, none⟩ = some (.bool sd) ∧ wx.cell? ⟨q7, 1, none⟩ = some (.slice ad nd cd)) ∧ RdZ wx (.agg #[.bool sd, .slice ad nd cd]) (sgE i j * xz) ∧ Below q7 v7 wx)
          case first =>
            cases bp
            case true =>
              have hpar : (i + j) % 2 = 1 := of_decide_eq_true HBP.out.symm
              have hsg : sgE i j * xz = -xz := by unfold sgE; rw [if_pos hpar]; omega
              have HSG := Lib.hid hsg
              have HNG := Lib.hid (zNeg_any _ xz v7 R7.out)
              clear hpar hsg
              go_wp2_with fail
              (refine HNG.out.mono ?_)
              rintro e w16 ⟨v16, rfl, hf16, hb16⟩
              obtain ⟨am16, an16, ac16, rfl, hf17⟩ := (hf16.mono (show q7 + 1 ≤ v7.heap.size from hq7')).stored
              have hz17 := hf17.rd HZX.out.neg (by have := HS1.out; omega)
              replace y2 := froz_stays hb16 y0 y2
              replace y3 := froz_stays hb16 y1 y3
              replace y0 := cell_stays hb16 y0
              replace y1 := cell_stays hb16 y1
              obtain ⟨sg16, hsg16⟩ : ∃ b, b = decide (-xz < 0) := ⟨_, rfl⟩
              rw [← hsg16] at hz17 ⊢
              have hg := stored2_gb w16 q7 (.bool sg16) (.slice am16 an16 ac16)
              have HB17 := Lib.hid ((hb16.mono (Nat.le_of_lt hq7')).grown hg (by have := hb16.size; omega) (fun k hk => by injection hk with hk; omega))
              obtain ⟨n0, n1'⟩ := two_own (x0 := .bool sg16) (x1 := .slice am16 an16 ac16) y0 y1
              have HN17 := Lib.hid (And.intro n0 n1')
              have HZ17 := Lib.hid hz17
              clear hf16 hb16 hf17 hz17 hg n0 n1' HNG hsg16
              go_wp2_with fail
              go_meet
              exact ⟨_, _, _, _, HN17.out, by rw [HSG.out]; exact HZ17.out, HB17.out⟩
            case false =>
              have hpar : ¬ (i + j) % 2 = 1 := of_decide_eq_false HBP.out.symm
              have hsg : sgE i j * xz = xz := by unfold sgE; rw [if_neg hpar, Int.one_mul]
              have HSG := Lib.hid hsg
              clear hpar hsg
              go_wp2_with fail
              go_meet
              exact ⟨_, _, _, _, ⟨y0, y1⟩, by rw [HSG.out]; exact R7.out, Below.refl _ _⟩
          case rest =>
          obtain ⟨sd, ad, nd, cd, ⟨g0, g1⟩, hzd, hbd⟩ := hcut
          obtain ⟨w20, hw20⟩ : ∃ x, x = wc := ⟨_, rfl⟩
          subst hw20
          have hww : Below w.heap.size w w20 := HB5.out.trans (hbd.mono (by omega))
          have hqw : Below q_w4 v_w4 w20 := HBQ.out.trans (hbd.mono (by omega))
          replace s2' := (hbd.frozen (p := ⟨q_w4, 0, none⟩) hx8).trans s2'
          replace s3' := (hbd.frozen (p := ⟨q_w4, 1, none⟩) hx8).trans s3'
          replace s0' := below_keep hbd hx8 s0'
          replace s1' := below_keep hbd hx8 s1'
          have hsz20 : q_w4 + 1 ≤ w20.heap.size := by have h : q7 < w20.heap.size := World.block_lt_of_cell? _ _ g0; omega
          have hv3 : v_w3.heap.size ≤ w20.heap.size := by have h := HV5.out.size; have h2 := hbd.size; omega
          have hrs20 := RS.out.below (HB67.out.trans (hbd.mono hq7))
          obtain ⟨z, hzz⟩ : ∃ z, z = expS A R i j := ⟨_, rfl⟩
          rw [← hzz] at hrs20 s0'
          obtain ⟨sgz, hsgz⟩ : ∃ b, b = decide (z < 0) := ⟨_, rfl⟩
          rw [← hsgz] at hrs20 s0'
          obtain ⟨z1, hz1⟩ : ∃ z1, z1 = expS A R i (j + 1) := ⟨_, rfl⟩
          have hma := zAdd_any _ _ z (sgE i j * xz) w20 hrs20 hzd
          rw [show z + sgE i j * xz = z1 by rw [hz1, HXZ.out, hzz]; omega] at hma
          have HMA := Lib.hid hma
          have HZ1 := Lib.hid hz1
          have HQW := Lib.hid hqw
          clear hma RS HB67 hrs20 hzd hbd hww hqw hsgz hzz hz1 R7 HXZ HZX HS5 HBP y0 y1 y2 y3 HBQ HB5 HV5
          go_wp2_with fail
          (refine HMA.out.mono ?_)
          rintro e w22 ⟨v22, rfl, hf22, hb22⟩
          replace s2' := froz_stays hb22 s0' s2'
          replace s3' := froz_stays hb22 s1' s3'
          replace s0' := cell_stays hb22 s0'
          replace s1' := cell_stays hb22 s1'
          obtain ⟨am5, an5, ac5, rfl, -⟩ := (hf22.mono hsz20).stored
          have hg5 := stored2_gb w22 q_w4 (.bool (decide (z1 < 0))) (.slice am5 an5 ac5)
          have HF6 := Lib.hid ((hf22.mono (Nat.le_refl _)).far hg5 (by omega))
          have hs5 := hb22.size
          have HB6 := Lib.hid ((HQW.out.trans (hb22.mono (by omega))).grown hg5 (by omega) (fun k hk => by injection hk with hk; omega))
          have HS6 := Lib.hid (show q_w4 + 1 ≤ (stored2 w22 q_w4 (.bool (decide (z1 < 0))) (.slice am5 an5 ac5)).heap.size from Nat.le_trans (by omega) hg5.size)
          obtain ⟨n0, n1'⟩ := two_own (x0 := .bool (decide (z1 < 0))) (x1 := .slice am5 an5 ac5) s0' s1'
          have n2 : (stored2 w22 q_w4 (.bool (decide (z1 < 0))) (.slice am5 an5 ac5)).frozen? ⟨q_w4, 0, none⟩ = false := by unfold stored2; rw [World.frozen?_setCell, World.frozen?_setCell]; exact s2'
          have n3 : (stored2 w22 q_w4 (.bool (decide (z1 < 0))) (.slice am5 an5 ac5)).frozen? ⟨q_w4, 1, none⟩ = false := by unfold stored2; rw [World.frozen?_setCell, World.frozen?_setCell]; exact s3'
          have HN := Lib.hid (And.intro n0 (And.intro n1' (And.intro n2 n3)))
          have HF7 := Lib.hid (HF6.out.mono hv3)
          clear hf22 hb22 hg5 hs5 n0 n1' n2 n3 HMA HQW HF6
          go_wp2_with fail
          go_roundw
          case rel => exact ⟨j + 1, am5, an5, ac5, by omega, by go_num, HB6.out, by rw [← HZ1.out]; exact HN.out, by rw [← HZ1.out]; exact HF7.out, HS6.out⟩
          case measure => simp [intOf]; omega
    · obtain rfl : j = R := by omega
      have hzs := HFS.out
      rw [expS_all hi] at hzs s0'
      have hl1 := hzs.least
      have hrd3 := RD3.out.below HB3.out
      obtain ⟨sgz, hsgz⟩ : ∃ b, b = decide (leadD A j j < 0) := ⟨_, rfl⟩
      rw [← hsgz] at hl1 s0'
      have HCM := Lib.hid (Like_yes _ _ (leadD A j j) wr hl1 hrd3)
      have HWW := Lib.hid (HX.out wr (Below.refl _ _))
      clear hzs hl1 hrd3 hsgz HFS RD3 HB3 c0 c1 c2
      go_wp2_with fail
      (refine HCM.out.mono ?_)
      rintro e w23 ⟨rfl, hb23⟩
      have HW23 := Lib.hid (below_via HWW.out hb23)
      clear hb23 HCM
      go_wp2_with fail
      go_ret
      exact ⟨rfl, HW23.out⟩

/-- the law, for any arguments -/
theorem MExpand_law (r c k : Int) (s : Value) (n : Nat) (x : Nat → Raw) (w : World) (hr : RdL w s n x) (hx : ∀ i, i < n → (x i).n ≤ 1048576) :
    Calls Try.prog 12 #[.agg #[.int .i64 r, .int .i64 c, s], .int .i64 k] w fun e w' => e = .returned (.bool true) ∧ Below w.heap.size w w' := by
  obtain ⟨a, cap, rfl, hcap, hn, -⟩ := id hr
  rcases check_cases r c n with h | ⟨R, C, rfl, rfl, hR, hC, rfl⟩
  · exact MExpand_done r c _ k 1 (Or.inl rfl) w (fun u => Det_bad r c a n cap (by omega) h u) (fun u => Adjugate_bad r c a n cap (by omega) h u)
  · by_cases e : R = C
    · subst e
      have hK4 : R * R ≤ 4096 := Nat.mul_le_mul hR hC
      exact MExpand_good R k _ (fun i => (x i).val) 1048576 w hR (by omega) (hr.rde (by omega) (fun i hi => by have := hx i hi; omega)) (hr.zbs hx)
    · have hne : (R : Int) ≠ (C : Int) := by omega
      exact MExpand_done R C _ k 2 (Or.inr rfl) w (fun u => Det_unfit R C a (R * C) cap (by omega) (checkE_ok hR hC rfl) hne u) (fun u => Adjugate_unfit R C a (R * C) cap (by omega) (checkE_ok hR hC rfl) hne u)
end Go.Proofs.Ytncldpadakckjaa

namespace Go.Proofs.Ytncldpadakckjaa.minorsExpand
open Go.ChangeShapes Go.WideShapes Go.ChangeAt Go.RowKit

theorem own : ownKnob Try.prog.godebug = none := by kernel_rfl

set_option maxRecDepth 100000 in
theorem contract (H : Type) (enc : TypeId × Value → H) (W : World) (base : Nat) (args : Array Value) (ds gs : List (DataW H)) (before : List MemPlace)
    (hval : ∀ (j : Nat) t v, Try.f12.params[j]? = some t → args[j]? = some v → Value.okWide Try.prog W .any base t v)
    (hW : DataW.Whole enc Try.prog Try.f12.params.toList Rows.minorsExpandSpec.vars false W args.toList ds gs before) (hk : Rows.uptoSmall H (ds ++ gs) = true) :
    Calls Try.prog 12 args W fun e W' => ∃ v, e = .returned v ∧ Rows.minorsExpandSpec.post enc Try.prog Try.f12 false true false false W args v W' := by
  have hW' := hW
  have hlt : ∀ x ∈ before, x.block < W.heap.size := fun x hx => hW.lt x hx
  obtain ⟨p, q, hA0, hV, rfl, hfz, hnd⟩ := hW
  have hA : DataW.TrodAll enc Try.prog W 0 (fun _ => true) true Try.f12.params.toList args.toList ds p := hA0
  rw [Try.params12] at hA hval
  obtain ⟨v0, vs0, d0, ds0, p0, q0, hargs, rfl, rfl, h0, r0⟩ := trodAll_cons hA
  obtain ⟨v1, vs1, d1, ds1, p1, q1, rfl, rfl, rfl, h1, r1⟩ := trodAll_cons r0
  obtain ⟨rfl, rfl, rfl⟩ := trodAll_nil r1
  obtain rfl : args = #[v0, v1] := by cases args; simp_all
  obtain ⟨rfl, rfl⟩ := trodVars_none hV
  have h0k := h0
  obtain ⟨k1, rfl, rfl, rfl, wk1⟩ := open_int Try.underlying3 (hval 1 3 v1 rfl rfl) h1
  clear hA0
  simp only [List.append_nil] at hW' hk hlt
  have hbk : Rows.uptoBulkAll [d0, DataW.lit (.int .i64 k1)] ≤ 1048576 := of_decide_eq_true hk
  simp only [Rows.uptoBulkAll] at hbk
  obtain ⟨R0, C0, s0, n0, x0, rfl, hr0, hn0, hx0, -, -⟩ := open_mat (B := 1048576) (hval 0 24 v0 rfl rfl) h0 (by omega) (by omega)
  have bk1 : -9223372036854775808 ≤ k1 ∧ k1 ≤ 9223372036854775807 := by simp [Lit.wf, IntKind.min, IntKind.max, IntKind.signed, IntKind.bits] at wk1; omega
  refine (MExpand_law R0 C0 k1 s0 n0 x0 W hr0 hx0).mono fun e W' ⟨he, hg⟩ => ?_
  subst he
  refine ⟨_, rfl, post_of_below (pa := (p0 ++ ([] ++ []))) (pv := []) hW' (fun _ _ _ => (trodAll_cons_mk (shut_bool Try.underlying4 _) trodAll_mk0)) (fun sp hsp => (trodAll_cons_mk (WideElems.Trod_stays (P := Try.prog) (by kernel_rfl) (by kernel_rfl) (of_decide_eq_true (by kernel_rfl)) h0k (fun x hx => hg.same (hlt x (by simp [hx]))) (fun x hx => hsp x (by simp [hx]))) (trodAll_cons_mk (shut_int Try.underlying3 wk1) trodAll_mk0))) (fun _ _ => rfl) (by simp)
    hg (ok_one (by kernel_rfl) rfl (okWide_bool_mk Try.underlying4 _))⟩

set_option maxRecDepth 100000 in
theorem lifted (os : Os) (started : os.Started) (H : Type) (enc : TypeId × Value → H) (F : Stop.Interp) :
    ReturnsInHanded {} Try.checked os 12 .any ((Rows.OpenSpec.upto Rows.minorsExpandSpec).pre6 enc Try.prog Try.f12 Rows.minorsExpandUptoRow.domain false) (((Rows.OpenSpec.upto Rows.minorsExpandSpec).at F).post enc Try.prog Try.f12 false true false false) := by
  refine returnsInHanded_of_cond (C := Try.checked) (s := Rows.OpenSpec.upto Rows.minorsExpandSpec) (k := Rows.uptoSmall) rfl own started (by kernel_rfl) Try.func12
    (OpenSpec.witness (enc := enc) (C := Try.checked) (s := Rows.OpenSpec.upto Rows.minorsExpandSpec) (k := Rows.uptoSmall) rfl false ⟨#[], #[.agg #[.int .i64 0, .int .i64 0, .slice none 0 0], .int .i64 0], []⟩ 8 (by kernel_rfl) (by kernel_rfl) (by kernel_rfl)
      (x := ([.agg [.lit (.int .i64 0), .lit (.int .i64 0), .nil], .lit (.int .i64 0)], [], [])) (by kernel_rfl) rfl (by kernel_rfl)) ?_
  intro W base args ds gs before hval hW _ hk _
  exact contract H enc W base args ds gs before hval hW hk

/-- the statement -/
theorem proved : Rows.MinorsExpandUptoSaid :=
  OpenClaim.holds_of_cond 12 Try.f12 rfl rfl rfl rfl rfl rfl rfl ⟨rfl, rfl, rfl, rfl, rfl⟩ rfl rfl rfl rfl rfl (by kernel_rfl) Try.func12 (by kernel_rfl)
    (of_decide_eq_true (by kernel_rfl)) (by unfold Func.isWrapper; first | (rw [if_pos (by decide +kernel)]; kernel_rfl) | (rw [if_neg (by decide +kernel)]; exact ⟨rfl, rfl⟩))
    (fun os started H enc _ F => lifted os started H enc F)
#print axioms proved
end Go.Proofs.Ytncldpadakckjaa.minorsExpand
