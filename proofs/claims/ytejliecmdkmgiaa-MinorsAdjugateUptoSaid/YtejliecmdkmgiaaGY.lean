/- The walk of minors.Adjugate for a square matrix: its loop. Plain: the inverse over the least number. Boxes of integers; minors.Inverse where it refuses. -/
import Derived.Test.YtejliecmdkmgiaaGU
import Derived.Test.YtejliecmdkmgiaaGV
import Derived.Test.YtejliecmdkmgiaaGX
import Derived.Test.YtejliecmdkmgiaaGK
import Derived.Test.YtejliecmdkmgiaaGQ
import Derived.Test.YtejliecmdkmgiaaGS
set_option linter.unusedVariables false
set_option linter.unusedSimpArgs false
namespace Go.Proofs.Ytejliecmdkmgiaa
open Go.RowKit Go.Shelf

theorem flC_step {n t q : Nat} (A : Nat → Nat → Int) (hq : q < n * n) : addE (flat n (laZ.mm n A (flC n A t))) (fun q => flq n A (t + 1) * unitE (q / n) (q % n)) q = flat n (flC n A (t + 1)) q := by
  show laZ.mm n A (flC n A t) (q / n) (q % n) + flq n A (t + 1) * unitE (q / n) (q % n) = flC n A (t + 1) (q / n) (q % n)
  rw [flC_succ]
  congr 2
  unfold unitE laZ.idm
  by_cases e : q / n = q % n
  · rw [if_pos e, if_pos e.symm]
  · rw [if_neg e, if_neg (fun h => e h.symm)]

/-- the adjugate of n rows -/
def adjM : Nat → (Nat → Nat → Int) → Nat → Nat → Int
  | 0, _ => fun _ _ => 0
  | m + 1, M => cof m M
theorem neg1_even : ∀ m : Nat, m % 2 = 0 → ((-1 : Int)) ^ m = 1
  | 0, _ => rfl
  | 1, h => absurd h (by decide)
  | m + 2, h => by rw [Int.pow_succ, Int.pow_succ, neg1_even m (by omega)]; rfl
theorem neg1_odd (m : Nat) (h : m % 2 = 1) : ((-1 : Int)) ^ m = -1 := by
  obtain ⟨k, rfl⟩ : ∃ k, m = k + 1 := ⟨m - 1, by omega⟩
  rw [Int.pow_succ, neg1_even k (by omega)]; rfl
theorem adj_odd {n : Nat} (M : Nat → Nat → Int) (h : n % 2 = 1) {i j : Nat} (hi : i < n) (hj : j < n) : flC n M (n - 1) i j = adjM n M i j := by
  obtain ⟨m, rfl⟩ : ∃ m, n = m + 1 := ⟨n - 1, by omega⟩
  rw [Nat.add_sub_cancel, flC_cof m M hi hj, neg1_even m (by omega), Int.one_mul]; rfl
theorem adj_even {n : Nat} (M : Nat → Nat → Int) (h : n % 2 = 0) {i j : Nat} (hi : i < n) (hj : j < n) : -1 * flC n M (n - 1) i j = adjM n M i j := by
  obtain ⟨m, rfl⟩ : ∃ m, n = m + 1 := ⟨n - 1, by omega⟩
  rw [Nat.add_sub_cancel, flC_cof m M hi hj, neg1_odd m (by omega), ← Int.mul_assoc, show (-1 : Int) * -1 = 1 from rfl, Int.one_mul]; rfl

set_option maxHeartbeats 8000000 in
set_option maxRecDepth 100000 in
theorem Adjugate_good (n S : Nat) (sl : Value) (A : Nat → Int) (w : World) (hn : n ≤ 64) (hS : S ≤ 100000000) (hr : RdE w sl (n * n) A) (hA : ∀ q, q < n * n → ZB S (A q)) :
    Calls Try.prog 49 #[.agg #[.int .i64 n, .int .i64 n, sl]] w fun e w' => ∃ lb, e = .returned (.tuple #[.agg #[.int .i64 n, .int .i64 n, .slice (some ⟨lb, 0, none⟩) (n * n) (n * n)], .int .i64 0]) ∧
      FrE w' w.heap.size (fun b => b ≤ lb) lb (n * n) (flat n (adjM n (mtx n A))) ∧ Below w.heap.size w w' := by
  have hmix : Try.prog.follows .mixedOrders = true := by kernel_rfl
  have hK4 : n * n ≤ 4096 := Nat.mul_le_mul hn hn
  have hfl := fun k (hk : k ≤ n) => flC_zb hn (mtx_zb hA) k
  obtain ⟨a, cap, rfl, hcap⟩ := hr.slice
  obtain ⟨N, hN⟩ : ∃ N, N = n * n := ⟨_, rfl⟩
  have hck := fun (u : World) => Check_any n n a N cap (by omega) u
  rw [checkE_ok hn hn hN] at hck
  have hb0 := two_mats w (.int .i64 n) (.int .i64 n) (.slice a N cap) (.int .i64 0) (.int .i64 0) (.slice none 0 0)
  obtain ⟨hbx, hbr, hs0⟩ := two_mbox w n n 0 0 (.slice a N cap) (.slice none 0 0)
  obtain ⟨T, hT⟩ : ∃ T, T = 64 * (S + 1) + 1 := ⟨_, rfl⟩
  have hT2 : T ≤ 6400000065 := by omega
  have hZ := fun (t : Nat) (ht : t ≤ n) => show (∀ i j, i < n → j < n → ZB T (flC n (mtx n A) t i j)) ∧ ZB T (flq n (mtx n A) t) from by
    obtain ⟨z1, z2, -⟩ := hfl t ht
    have hm : t * (S + 1) + 1 ≤ T := by rw [hT]; exact Nat.succ_le_succ (Nat.mul_le_mul_right _ (by omega))
    exact ⟨fun i j hi hj => (z1 i j hi hj).mono hm, z2.mono hm⟩
  have HCK := Lib.hid hck
  have HB := Lib.hid hb0
  have HBX := Lib.hid hbx
  have HBR := Lib.hid hbr
  have HS0 := Lib.hid hs0
  have HR := Lib.hid hr
  have HA := Lib.hid hA
  have HZ := Lib.hid hZ
  have HN := Lib.hid hN
  have x0 := hbx.m0
  have x1 := hbx.m1
  have x2 := hbx.m2
  rw [← hN] at hK4 ⊢
  clear hck hb0 hbx hbr hs0 hr hA hfl hZ hN hT
  go_enter Try.func49, Try.ntmps49
  go_upto_region 1 with fail
  generalize (w.alloc (.cells #[.int .i64 n, .int .i64 n, .slice a N cap] 24)).alloc (.cells #[.int .i64 0, .int .i64 0, .slice none 0 0] 24) = W at *
  go_wp2_with fail
  (refine (HCK.out W).mono ?_)
  rintro e w3 ⟨rfl, hb3⟩
  replace HB := Lib.hid (below_via HB.out hb3)
  replace HBX := Lib.hid (HBX.out.below hb3)
  replace HBR := Lib.hid (HBR.out.below hb3)
  have HS3 := Lib.hid (show w.heap.size + 1 < w3.heap.size by have := HS0.out; have := hb3.size; omega)
  clear hb3 HCK HS0 x0 x1 x2
  have x0 := HBX.out.m0
  have x1 := HBX.out.m1
  have x2 := HBX.out.m2
  go_wp2_with fail
  (refine (Unit_good n w3 hn).mono ?_)
  rintro e w5 ⟨lb, rfl, hf5, hb5⟩
  have hst := AtR.start HB.out HS3.out HBX.out HBR.out hb5 hf5
  have HST := Lib.hid (hst.congr (G' := flat n (flC n (mtx n A) 0)) (fun q _ => by
    show unitE (q / n) (q % n) = laZ.idm (q / n) (q % n)
    unfold unitE laZ.idm
    by_cases e : q / n = q % n
    · rw [if_pos e, if_pos e.symm]
    · rw [if_neg e, if_neg (fun h => e h.symm)]))
  clear hst hf5 hb5 HB HBX HBR HS3 x0 x1 x2
  go_upto_region 7 with fail
  obtain ⟨mb, hmb⟩ : ∃ mb, mb = w5.heap.size := ⟨_, rfl⟩
  rw [← hmb] at HST ⊢
  clear hmb
  generalize w5.alloc (.cells #[.int .i64 n, .int .i64 n, .slice (some ⟨lb, 0, none⟩) (n * n) (n * n)] 24) = w6 at *
  go_wp2_with fail
  go_loopw [6, 7] (fun ev kv wr => ev = .int .i64 0 ∧ ∃ t lb : Nat, (t = 0 ∨ t < n) ∧ kv = .int .i64 ((t : Int) + 1) ∧ AtR w wr n mb lb (.slice a N cap) (flat n (flC n (mtx n A) t))) (fun _ kv _ => n + 1 - (intOf kv).toNat)
  case atStart => exact ⟨rfl, 0, lb, Or.inl rfl, rfl, HST.out⟩
  case round =>
    clear HST
    obtain ⟨rfl, t, lb, ht, rfl, hrel⟩ := hrel
    have x0 := hrel.a.m0
    have x1 := hrel.a.m1
    have x2 := hrel.a.m2
    by_cases htn : t + 1 < n
    · have htn1 : (t : Int) + 1 < (n : Int) := by omega
      have wk : IntKind.i64.wrap ((t : Int) + 1 + 1) = (t : Int) + 1 + 1 := IntWalk.i64_in _ (by omega)
      have hmul := Mul_good n n n S T _ _ A (flat n (flC n (mtx n A) t)) wr hn hn hn (by omega) (HR.out.below hrel.below) (hrel.g.rd (Nat.le_refl _) (by rw [← HN.out]; omega)) HA.out (flat_zb (HZ.out t (by omega)).1)
      rw [← HN.out] at hmul
      have m0 := hrel.m.m0
      have m1 := hrel.m.m1
      have m2 := hrel.m.m2
      rw [← HN.out] at m2
      have HMUL := Lib.hid hmul
      have HREL := Lib.hid hrel
      clear hmul hrel
      go_wp2_with fail
      (refine HMUL.out.mono ?_)
      rintro e w9 ⟨lp, rfl, hf9, hb9⟩
      rw [HN.out] at hf9
      have hba := bl_alloc w9 (.cells #[.int .i64 n, .int .i64 n, .slice (some ⟨lp, 0, none⟩) N N] 24)
      have hb10 := below_via hb9 hba
      have HPM := Lib.hid (MBox.new w9 n n (.slice (some ⟨lp, 0, none⟩) N N))
      have hpr := (hf9.congr (fun q hq => mul_flat hq A (flC n (mtx n A) t))).rd (Nat.le_refl _) (by rw [← HN.out]; omega)
      rw [← HN.out] at hpr
      have HPR := Lib.hid (hpr.below hba)
      have HBR := Lib.hid hb10
      replace HREL := Lib.hid (HREL.out.on hb10)
      have HPB := Lib.hid (show wr.heap.size ≤ w9.heap.size from hb9.size)
      clear hpr hf9 hba hb9 hb10 HMUL x0 x1 x2 m0 m1 m2
      go_upto_region 11 with fail
      obtain ⟨pb, hpb⟩ : ∃ pb, pb = w9.heap.size := ⟨_, rfl⟩
      rw [← hpb] at HPM HPB ⊢
      clear hpb
      generalize w9.alloc (.cells #[.int .i64 n, .int .i64 n, .slice (some ⟨lp, 0, none⟩) N N] 24) = wa at *
      have m0 := HPM.out.m0
      have m1 := HPM.out.m1
      have m2 := HPM.out.m2
      have hmz := mm_zb hn (mtx_zb HA.out) (HZ.out t (by omega)).1
      have HTR := Lib.hid (Trace_good n (S + T + 1) _ _ wa hn (by omega) (HN.out ▸ HPR.out) (flat_zb hmz))
      rw [← HN.out] at HTR
      have htz := trS_zb hn (flat_zb hmz) (Nat.le_refl n)
      rw [tr_flat] at HTR htz
      obtain ⟨τ, hτ⟩ : ∃ τ, τ = laZ.sm n (fun l => laZ.mm n (mtx n A) (flC n (mtx n A) t) l l) := ⟨_, rfl⟩
      have hdv := (flq_dvd n (mtx n A) t).1
      rw [← hτ] at HTR htz hdv
      have HTZ := Lib.hid htz
      have HDV := Lib.hid hdv
      have HTA := Lib.hid hτ
      have HMZ := Lib.hid hmz
      clear hτ htz hdv hmz
      go_wp2_with fail
      (refine HTR.out.mono ?_)
      rintro e wb ⟨v, rfl, hfb, hbb⟩
      have hzb := hfb.rd HTZ.out (by omega)
      obtain ⟨ab, nb, cb, rfl, -⟩ := hfb.agg
      have hbc := bl_alloc wb (.cells #[.bool (decide (τ < 0)), .slice ab nb cb] 49)
      obtain ⟨y0, y1, -, -⟩ := two_cells wb (.bool (decide (τ < 0))) (.slice ab nb cb) 49
      have HZB := Lib.hid (hzb.below hbc)
      have HBC := Lib.hid (below_via hbb hbc)
      clear hfb hbb hzb hbc HTR m0 m1 m2
      go_upto_region 12 with fail
      generalize wb.alloc (.cells #[.bool (decide (τ < 0)), .slice ab nb cb] 49) = wc at *
      go_wp2_with fail
      (refine (zNeg_any _ τ wc HZB.out).mono ?_)
      rintro e wd ⟨v, rfl, hfd, hbd⟩
      have hzd := hfd.rd (HTZ.out.neg) (by omega)
      have HZD := Lib.hid hzd
      have HBD := Lib.hid (below_via HBC.out hbd)
      clear hfd hbd hzd HBC HZB y0 y1
      go_wp2_with fail
      (refine (zOf_fr ((t : Int) + 1) (by omega) (by omega) wd).mono ?_)
      rintro e we ⟨u, rfl, hfe, hbe⟩
      have hze := hfe.rd (show ZB 1 ((t : Int) + 1) by unfold ZB; omega) (by omega)
      have hzf := HZD.out.below hbe
      have HBE := Lib.hid (below_via HBD.out hbe)
      have HZE := Lib.hid hze
      have HZF := Lib.hid hzf
      clear hfe hbe hze hzf HZD HBD
      go_wp2_with fail
      (refine (zExact_any _ _ (-τ) ((t : Int) + 1) we (by omega) (Int.dvd_neg.2 (show ((t : Int) + 1) ∣ τ from HDV.out)) HZF.out HZE.out).mono ?_)
      rintro e wf ⟨c, rfl, hff, hbf⟩
      have hqe : -τ / ((t : Int) + 1) = flq n (mtx n A) (t + 1) := by rw [HTA.out]; rfl
      rw [hqe] at hff
      have hqz := (HZ.out (t + 1) (by omega)).2
      obtain ⟨z, hz⟩ : ∃ z, z = flq n (mtx n A) (t + 1) := ⟨_, rfl⟩
      rw [← hz] at hff hqz
      have HZZ := Lib.hid hz
      have HQZ := Lib.hid hqz
      obtain ⟨af, nf, cf, rfl, -⟩ := hff.agg
      have hbg := bl_alloc wf (.cells #[.bool (decide (z < 0)), .slice af nf cf] 49)
      obtain ⟨y0, y1, -, -⟩ := two_cells wf (.bool (decide (z < 0))) (.slice af nf cf) 49
      have HCZ := Lib.hid ((hff.rd hqz (by omega)).below hbg)
      have hbg2 := below_via HBE.out (below_via hbf hbg)
      replace HREL := Lib.hid (HREL.out.on hbg2)
      replace HPM := Lib.hid (HPM.out.below hbg2)
      replace HPR := Lib.hid (HPR.out.below hbg2)
      replace HBR := Lib.hid (below_via HBR.out hbg2)
      clear hff hbf hbg hbg2 hqe hqz hz HZE HZF HBE HDV HTA
      go_upto_region 13 with fail
      obtain ⟨cb2, hcb2⟩ : ∃ cb2, cb2 = wf.heap.size := ⟨_, rfl⟩
      rw [← hcb2] at y0 y1 ⊢
      clear hcb2
      generalize wf.alloc (.cells #[.bool (decide (z < 0)), .slice af nf cf] 49) = wg at *
      have x0 := HREL.out.a.m0
      go_wp2_with fail
      (refine (Unit_good n wg hn).mono ?_)
      rintro e wh ⟨lu, rfl, hfu, hbu⟩
      have hbv := bl_alloc wh (.cells #[.int .i64 n, .int .i64 n, .slice (some ⟨lu, 0, none⟩) (n * n) (n * n)] 24)
      have hbw := below_via hbu hbv
      have HUB := Lib.hid (show wg.heap.size ≤ wh.heap.size from hbu.size)
      have HUM := Lib.hid (MBox.new wh n n (.slice (some ⟨lu, 0, none⟩) (n * n) (n * n)))
      have HUR := Lib.hid ((hfu.rd (Nat.le_refl _) (by rw [← HN.out]; omega)).below hbv)
      have HBG := Lib.hid hbw
      clear hfu hbu hbv hbw x0
      go_upto_region 14 with fail
      obtain ⟨ub, hub⟩ : ∃ ub, ub = wh.heap.size := ⟨_, rfl⟩
      rw [← hub] at HUB HUM ⊢
      clear hub
      generalize wh.alloc (.cells #[.int .i64 n, .int .i64 n, .slice (some ⟨lu, 0, none⟩) (n * n) (n * n)] 24) = wi at *
      have y2 := cell_stays HBG.out y0
      have y3 := cell_stays HBG.out y1
      have u0 := HUM.out.m0
      have u1 := HUM.out.m1
      have u2 := HUM.out.m2
      have HSC := Lib.hid (Scale_good n 1 T _ _ z _ wi hn (by omega) (HCZ.out.below HBG.out) HQZ.out HUR.out (fun q _ => by unfold unitE; split; exact zb_ones; exact zb_nil 1))
      clear y0 y1
      go_wp2_with fail
      (refine HSC.out.mono ?_)
      rintro e wj ⟨ls, rfl, hfj, hbj⟩
      obtain ⟨hm3, hr3, hg3⟩ := HUM.out.laid (n := n) hbj hfj (Nat.le_refl _) (by rw [← HN.out]; omega) n n
      have hm := HUM.out.below hbj
      have u0 := hm.m0
      have u1 := hm.m1
      have u2 := hm.m2
      have f0 := hm.f0
      have f1 := hm.f1
      have f2 := hm.f2
      obtain ⟨wk', hwa⟩ : ∃ wk', wk' = ((wj.setCell ⟨ub, 0, none⟩ (.int .i64 n)).setCell ⟨ub, 1, none⟩ (.int .i64 n)).setCell ⟨ub, 2, none⟩ (.slice (some ⟨ls, 0, none⟩) (n * n) (n * n)) := ⟨_, rfl⟩
      replace hg3 : wj.grownBy wk' (some ub) := by rw [hwa]; exact hg3
      replace HUM := Lib.hid (show MBox wk' ub n n (.slice (some ⟨ls, 0, none⟩) (n * n) (n * n)) by rw [hwa]; exact hm3)
      replace HUR := Lib.hid (show RdE wk' (.slice (some ⟨ls, 0, none⟩) (n * n) (n * n)) (n * n) (fun q => z * unitE (q / n) (q % n)) by rw [hwa]; exact hr3)
      have hbb := below_via HBG.out hbj
      replace HBG := Lib.hid (hbb.grown hg3 hbb.size (fun k hk => by injection hk with hk; have := HUB.out; omega))
      clear hfj hbj hm3 hr3 hg3 hm hbb HSC y2 y3
      go_upto_region 15 with fail
      rw [← hwa]
      clear hwa u0 u1 u2 f0 f1 f2
      replace HREL := Lib.hid (HREL.out.on HBG.out)
      replace HPM := Lib.hid (HPM.out.below HBG.out)
      replace HPR := Lib.hid (HPR.out.below HBG.out)
      replace HBR := Lib.hid (below_via HBR.out HBG.out)
      have p0 := HPM.out.m0
      have p1 := HPM.out.m1
      have p2 := HPM.out.m2
      have u0 := HUM.out.m0
      have u1 := HUM.out.m1
      have u2 := HUM.out.m2
      have had := Add_good n n (S + T + 1) (T + 1) _ _ (flat n (laZ.mm n (mtx n A) (flC n (mtx n A) t))) (fun q => z * unitE (q / n) (q % n)) wk' hn hn (by omega) (HN.out ▸ HPR.out) HUR.out (flat_zb HMZ.out) (fun q _ => HQZ.out.mul (by unfold unitE; split; exact zb_ones; exact zb_nil 1))
      rw [← HN.out] at had u2
      have HAD := Lib.hid had
      clear had HCZ HQZ HBG HUB HPB
      go_wp2_with fail
      (refine HAD.out.mono ?_)
      rintro e wl ⟨ln, rfl, hfl, hbl⟩
      rw [HN.out] at hfl
      have hr2 := HREL.out.mul hbl hfl
      have hr3 := hr2.congr (G' := flat n (flC n (mtx n A) (t + 1))) (fun q hq => by rw [HZZ.out]; exact flC_step (mtx n A) hq)
      have hm9 := HREL.out.m.below hbl
      have m0 := hm9.m0
      have m1 := hm9.m1
      have m2 := hm9.m2
      have f0 := hm9.f0
      have f1 := hm9.f1
      have f2 := hm9.f2
      rw [← HN.out] at hr3 m2
      have HR3 := Lib.hid hr3
      clear hr2 hr3 hm9 hfl hbl HREL HAD HBR HPM HPR HUM HUR p0 p1 p2 u0 u1 u2
      go_wp2_with fail
      go_roundw
      case rel => first | exact ⟨rfl, t + 1, ln, Or.inr htn, by go_num, HR3.out⟩
      case measure => first | (simp [intOf]; done) | (simp [intOf]; omega)
    · have hnt : ¬ (t : Int) + 1 < (n : Int) := by omega
      have ht1 : n = 0 ∨ t = n - 1 := by omega
      have x0 := hrel.a.m0
      have m0 := hrel.m.m0
      have m1 := hrel.m.m1
      have m2 := hrel.m.m2
      rw [← HN.out] at m2
      have hmod : Int.tmod (n : Int) 2 = ((n % 2 : Nat) : Int) := by rfl
      by_cases hev : 0 < n ∧ n % 2 = 0
      · have hp0 : (0 : Int) < (n : Int) := by omega
        have hme : Int.tmod (n : Int) 2 = 0 := by omega
        obtain ⟨hp0', hev⟩ := hev
        clear hmod
        obtain rfl : t = n - 1 := by omega
        have HREL := Lib.hid hrel
        clear hrel
        go_upto_region 17 with fail
        refine region_early (fun u => u.cell? ⟨mb, 0, none⟩ = some (.int .i64 n) ∧ u.cell? ⟨mb, 1, none⟩ = some (.int .i64 n) ∧ u.cell? ⟨mb, 2, none⟩ = some (.slice (some ⟨lb, 0, none⟩) N N)) 5 [1] 6 hmix (by kernel_rfl) rfl (by kernel_rfl) (fun _ _ d _ _ h => by cases d <;> exact h) ⟨m0, m1, m2⟩ ?_
        iterate 1 (refine early_take rfl (by rfl) ?_; apply Exists.intro; refine ⟨fun u hu => ?_, ?_⟩; (obtain ⟨u_1, u_2, u_3⟩ := hu; go_simp; rfl); simp only [Act.put, List.getElem_toArray, List.getElem_cons_zero, List.getElem_cons_succ, List.setIfInBounds_toArray, List.set_cons_zero, List.set_cons_succ])
        refine early_done ?_
        simp only [marked]
        refine anyL_one (i := 0) (by kernel_rfl) rfl (by rfl) fun J hJ => ?_
        go_simp
        refine (zOf_neg1 wr.drew).mono ?_
        rintro e w3 ⟨v, rfl, hf3, hb3⟩
        have hb4 := below_via (bl_drew wr) hb3
        have hS4 := And.intro (cell_stays hb4 m0) (And.intro (cell_stays hb4 m1) (cell_stays hb4 m2))
        have HV := Lib.hid (hf3.rd zb_neg1 (by omega))
        replace HREL := Lib.hid (HREL.out.on hb4)
        refine hJ _ _ (fun _ => hS4) ?_
        clear hJ J hf3 hb3 hb4 m0 m1 m2
        refine anyL_one (i := 2) (by kernel_rfl) rfl (by rfl) fun J hJ => ?_
        go_simp
        have hsc := Scale_good n T 1 _ _ (-1) (flat n (flC n (mtx n A) (n - 1))) w3 hn (by omega) HV.out zb_neg1 (HREL.out.g.rd (Nat.le_refl _) (by rw [← HN.out]; omega)) (flat_zb (HZ.out (n - 1) (by omega)).1)
        rw [← HN.out] at hsc
        refine hsc.mono ?_
        rintro e w5 ⟨lf, rfl, hf, hb5⟩
        clear hsc
        have hS5 := And.intro (cell_stays hb5 hS4.1) (And.intro (cell_stays hb5 hS4.2.1) (cell_stays hb5 hS4.2.2))
        have hr4 := HREL.out.r.below hb5
        have y0 := hr4.m0
        have y1 := hr4.m1
        have y2 := hr4.m2
        have v0 := hr4.f0
        have v1 := hr4.f1
        have v2 := hr4.f2
        have hlb := hf.own
        have hbw := below_via HREL.out.below hb5
        have hg := stored3_gb w5 (w.heap.size + 1) (.int .i64 n) (.int .i64 n) (.slice (some ⟨lf, 0, none⟩) N N)
        have hsz := HREL.out.pm
        have HBL := Lib.hid (hbw.grown hg hbw.size (fun k hk => by injection hk with hk; omega))
        have HF := Lib.hid (((hf.mono (show w.heap.size ≤ w3.heap.size from HREL.out.below.size)).grown hg (by omega) (show w.heap.size + 1 ≤ lf by omega)).congr (fun q hq => adj_even (mtx n A) hev (flat_lt (HN.out ▸ hq)).1 (flat_lt (HN.out ▸ hq)).2.1))
        refine hJ _ _ (fun _ => hS5) ?_
        clear hJ J hf hb5 hr4 hlb hbw hg hsz HREL HV hS4
        refine anyL_yield (i := 3) rfl (by kernel_rfl) (by kernel_rfl) (by kernel_rfl) (by kernel_rfl) (fun _ _ d _ _ h => by cases d <;> exact h) (by rfl) hS5 ?_
        apply Exists.intro
        refine ⟨fun u => ?_, ?_⟩
        · go_simp
          rfl
        simp only [Act.put, List.getElem_toArray, List.getElem_cons_zero, List.getElem_cons_succ, List.setIfInBounds_toArray, List.set_cons_zero, List.set_cons_succ]
        refine anyL_yield (i := 4) rfl (by kernel_rfl) (by kernel_rfl) (by kernel_rfl) (by kernel_rfl) (fun _ _ d _ _ h => by cases d <;> exact h) (by rfl) hS5 ?_
        apply Exists.intro
        refine ⟨fun u => ?_, ?_⟩
        · go_simp
          rfl
        simp only [Act.put, List.getElem_toArray, List.getElem_cons_zero, List.getElem_cons_succ, List.setIfInBounds_toArray, List.set_cons_zero, List.set_cons_succ]
        refine anyL_one (i := 5) (by kernel_rfl) rfl (by rfl) fun J hJ => ?_
        go_simp
        refine hJ _ _ (fun e => absurd e (by decide)) ?_
        clear hJ J
        refine anyL_one (i := 6) (by kernel_rfl) rfl (by rfl) fun J hJ => ?_
        go_simp
        refine hJ _ _ (fun e => absurd e (by decide)) ?_
        clear hJ J
        refine anyL_done (by kernel_rfl) ?_ _
        clear hS5
        go_wp2_with fail
        refine bodyPost_ret (v := .tuple #[.agg #[.int .i64 n, .int .i64 n, .slice (some ⟨lf, 0, none⟩) N N], .int .i64 0]) ?_ rfl ⟨lf, rfl, HF.out, HBL.out⟩
        simp [results, Try.results49, go_sem, y0, y1, y2]
      · have hcond : ¬ (0 : Int) < (n : Int) ∨ Int.tmod (n : Int) 2 = 1 := by omega
        clear hmod
        have x0' := hrel.r.m0
        have x1' := hrel.r.m1
        have x2' := hrel.r.m2
        have v0 := hrel.r.f0
        have v1 := hrel.r.f1
        have v2 := hrel.r.f2
        have hg := stored3_gb wr (w.heap.size + 1) (.int .i64 n) (.int .i64 n) (.slice (some ⟨lb, 0, none⟩) N N)
        have hne := hrel.pl
        have hp := ((hrel.g.grown hg (by omega) (Or.inl (by omega))).turnD (D' := fun b => b ≤ lb) (fun b _ hn hd => hn (Or.inl hd))).congr (F := flat n (adjM n (mtx n A))) (fun q hq => by
          obtain ⟨h1, h2, -⟩ := flat_lt hq
          obtain rfl : t = n - 1 := by omega
          exact adj_odd (mtx n A) (by omega) h1 h2)
        rw [← HN.out] at hp
        have HF := Lib.hid hp
        have HBL := Lib.hid (hrel.below.grown hg hrel.below.size (fun k hk => by injection hk with hk; omega))
        clear hg hne hrel hp
        rcases hcond with hc | hc
        · go_wp2_with fail
          refine bodyPost_ret (v := .tuple #[.agg #[.int .i64 n, .int .i64 n, .slice (some ⟨lb, 0, none⟩) N N], .int .i64 0]) ?_ rfl ⟨lb, rfl, HF.out, HBL.out⟩
          simp [results, Try.results49, go_sem, x0', x1', x2']
        · have hp0 : (0 : Int) < (n : Int) := by
            have := hc
            by_cases e : n = 0
            · rw [e] at this; exact absurd this (by decide)
            · omega
          go_wp2_with fail
          refine bodyPost_ret (v := .tuple #[.agg #[.int .i64 n, .int .i64 n, .slice (some ⟨lb, 0, none⟩) N N], .int .i64 0]) ?_ rfl ⟨lb, rfl, HF.out, HBL.out⟩
          simp [results, Try.results49, go_sem, x0', x1', x2']
end Go.Proofs.Ytejliecmdkmgiaa

namespace Go.Proofs.Ytejliecmdkmgiaa
open laZ

def dtE (n : Nat) (A : Nat → Int) : Int := laZ.dt n (fun i j => A (i * n + j))
def adE (n : Nat) (A : Nat → Int) : Nat → Int := flat n (adjM n (mtx n A))
def gcE (n : Nat) (A : Nat → Int) : Int := (Int.gcd (dtE n A) (gcdS (n * n) (adE n A)) : Int)
def gE (n : Nat) (A : Nat → Int) : Int := if dtE n A < 0 then - gcE n A else gcE n A
def ivE (n : Nat) (A : Nat → Int) (q : Nat) : Int := adE n A q / gE n A

theorem gcE_pos {n : Nat} {A : Nat → Int} (h : dtE n A ≠ 0) : 0 < gcE n A := by
  unfold gcE
  have h1 := Int.gcd_pos_of_ne_zero_left (b := (gcdS (n * n) (adE n A) : Int)) h
  omega
theorem gE_ne {n : Nat} {A : Nat → Int} (h : dtE n A ≠ 0) : gE n A ≠ 0 := by
  have := gcE_pos h
  unfold gE; split <;> omega
theorem gE_dvd {n : Nat} {A : Nat → Int} {x : Int} (h : gcE n A ∣ x) : gE n A ∣ x := by
  unfold gE; split
  · exact Int.neg_dvd.2 h
  · exact h
theorem dvd_gE {n : Nat} {A : Nat → Int} {x : Int} (h : x ∣ gcE n A) : x ∣ gE n A := by
  unfold gE; split
  · exact Int.dvd_neg.2 h
  · exact h
theorem gE_dt (n : Nat) (A : Nat → Int) : gE n A ∣ dtE n A := gE_dvd (Int.gcd_dvd_left ..)
theorem gE_ad {n : Nat} (A : Nat → Int) {q : Nat} (hq : q < n * n) : gE n A ∣ adE n A q := gE_dvd (Int.dvd_trans (Int.gcd_dvd_right ..) (gcdS_dvd hq))
theorem adE_zb {n S : Nat} {A : Nat → Int} (hn : n ≤ 64) (hA : ∀ q, q < n * n → ZB S (A q)) : ∀ q, q < n * n → ZB (64 * (S + 1) + 1) (adE n A q) := fun q hq => by
  obtain ⟨h1, h2, -⟩ := flat_lt hq
  have hf := ((flC_zb hn (mtx_zb hA) (n - 1)).1 _ _ h1 h2).mono (T := 64 * (S + 1) + 1) (Nat.succ_le_succ (Nat.mul_le_mul_right _ (by omega)))
  show ZB _ (adjM n (mtx n A) (q / n) (q % n))
  by_cases e : n % 2 = 1
  · rw [← adj_odd _ e h1 h2]; exact hf
  · rw [← adj_even _ (by omega) h1 h2, show -1 * flC n (mtx n A) (n - 1) (q / n) (q % n) = - flC n (mtx n A) (n - 1) (q / n) (q % n) by omega]; exact hf.neg
theorem dtE_zb {n S : Nat} {A : Nat → Int} (hn : n ≤ 64) (hA : ∀ q, q < n * n → ZB S (A q)) : ZB (64 * (S + 1) + 1) (dtE n A) :=
  (dtZ_zb n (fun i j => A (i * n + j)) (by omega) (fun i j hi hj => hA _ (idx_lt hi hj rfl).1)).mono (Nat.succ_le_succ (Nat.mul_le_mul_right _ hn))
theorem div_zb {T : Nat} {x g : Int} (hg : g ≠ 0) (hd : g ∣ x) (h : ZB T x) : ZB T (x / g) := by
  refine zb_le h ?_
  obtain ⟨c, rfl⟩ := hd
  rw [Int.mul_ediv_cancel_left _ hg, Int.natAbs_mul]
  exact Nat.le_mul_of_pos_left _ (by omega)
theorem idE_pos {n : Nat} {A : Nat → Int} (h : dtE n A ≠ 0) : 0 < dtE n A / gE n A := by
  have hg := gcE_pos h
  obtain ⟨c, hc⟩ := gE_dt n A
  rw [hc, Int.mul_ediv_cancel_left _ (gE_ne h)]
  have hs : gE n A * c = dtE n A := hc.symm
  unfold gE at hs
  split at hs
  · rename_i hneg
    by_cases e : 0 < c
    · exact e
    · have := Int.mul_nonneg (show 0 ≤ gcE n A by omega) (show 0 ≤ -c by omega)
      rw [Int.mul_neg, ← Int.neg_mul] at this
      omega
  · rename_i hneg
    by_cases e : 0 < c
    · exact e
    · have := Int.mul_nonneg (show 0 ≤ gcE n A by omega) (show 0 ≤ -c by omega)
      rw [Int.mul_neg] at this
      omega
theorem inv_prm {n : Nat} {A : Nat → Int} (h : dtE n A ≠ 0) : Int.gcd (dtE n A / gE n A) (gcdS (n * n) (ivE n A)) = 1 := by
  obtain ⟨p, hp⟩ : ∃ p, p = Int.gcd (dtE n A / gE n A) (gcdS (n * n) (ivE n A)) := ⟨_, rfl⟩
  rw [← hp]
  have h1 : (p : Int) ∣ dtE n A / gE n A := by rw [hp]; exact Int.gcd_dvd_left ..
  have h2 : (p : Int) ∣ (gcdS (n * n) (ivE n A) : Int) := by rw [hp]; exact Int.gcd_dvd_right ..
  have h3 : (p : Int) * gE n A ∣ dtE n A := by
    have := Int.mul_dvd_mul_right (gE n A) h1
    rwa [Int.ediv_mul_cancel (gE_dt n A)] at this
  have h4 : ∀ c, c < n * n → (p : Int) * gE n A ∣ 1 * adE n A c := fun c hc => by
    have := Int.mul_dvd_mul_right (gE n A) (Int.dvd_trans h2 (gcdS_dvd hc))
    unfold ivE at this
    rw [Int.ediv_mul_cancel (gE_ad A hc)] at this
    rwa [Int.one_mul]
  have h5 := dvd_gcdS h4
  rw [Int.one_mul] at h5
  have h6 : (p : Int) * gE n A ∣ gE n A := dvd_gE (Int.dvd_coe_gcd h3 h5)
  have h7 : (p : Int) ∣ 1 := by
    refine Int.dvd_of_mul_dvd_mul_right (gE_ne h) ?_
    rwa [Int.one_mul]
  have h8 : p ∣ 1 := Int.ofNat_dvd.1 h7
  exact Nat.dvd_one.1 h8
theorem adj_r {n : Nat} (M : Nat → Nat → Int) {i j : Nat} (hi : i < n) (hj : j < n) : mm n M (adjM n M) i j = dt n M * idm i j := by
  obtain ⟨m, rfl⟩ : ∃ m, n = m + 1 := ⟨n - 1, by omega⟩
  exact cof_r M hi hj
theorem adj_l {n : Nat} (M : Nat → Nat → Int) {i j : Nat} (hi : i < n) (hj : j < n) : mm n (adjM n M) M i j = dt n M * idm i j := by
  obtain ⟨m, rfl⟩ : ∃ m, n = m + 1 := ⟨n - 1, by omega⟩
  exact cof_l M hi hj
theorem unit_idm (i j : Nat) : unitE i j = idm i j := by
  unfold unitE idm
  by_cases e : i = j
  · rw [if_pos e, if_pos e.symm]
  · rw [if_neg e, if_neg (fun h => e h.symm)]
theorem ad_r {n : Nat} (A : Nat → Int) : ∀ q, q < n * n → mulE A (adE n A) n n q = dtE n A * unitE (q / n) (q % n) := fun q hq => by
  obtain ⟨h1, h2, -⟩ := flat_lt hq
  unfold adE
  rw [mul_flat hq, unit_idm]
  exact adj_r (mtx n A) h1 h2
theorem ad_l {n : Nat} (A : Nat → Int) : ∀ q, q < n * n → mulE (adE n A) A n n q = dtE n A * unitE (q / n) (q % n) := fun q hq => by
  obtain ⟨h1, h2, -⟩ := flat_lt hq
  unfold adE
  rw [mul_flat' hq, unit_idm]
  exact adj_l (mtx n A) h1 h2
theorem iv_r {n : Nat} {A : Nat → Int} (h : dtE n A ≠ 0) : ∀ q, q < n * n → mulE A (ivE n A) n n q = dtE n A / gE n A * unitE (q / n) (q % n) := fun q hq => by
  obtain ⟨h1, h2, -⟩ := flat_lt hq
  have h3 := ad_r A q hq
  refine Int.eq_of_mul_eq_mul_left (gE_ne h) ?_
  rw [← Int.mul_assoc, Int.mul_ediv_cancel' (gE_dt n A), ← h3]
  show gE n A * laZ.sm n (fun l => A (q / n * n + l) * ivE n A (l * n + q % n)) = laZ.sm n (fun l => A (q / n * n + l) * adE n A (l * n + q % n))
  rw [← laZ.sm_mul]
  refine laZ.sm_congr fun l hl => ?_
  have h4 := Int.mul_ediv_cancel' (gE_ad A (idx_lt hl h2 rfl).1)
  show gE n A * (A _ * ivE n A _) = _
  rw [← h4]
  show gE n A * (A _ * (adE n A _ / gE n A)) = _
  grind
theorem cof_congr' {n : Nat} {M N : Nat → Nat → Int} (h : ∀ i j, i < n + 1 → j < n + 1 → M i j = N i j) (j k : Nat) : cof n M j k = cof n N j k := by
  unfold cof
  congr 1
  exact dt_congr fun r c hr hc => h _ _ (laQ.sk_lt hr) (laQ.sk_lt hc)
theorem ad_prod {n : Nat} (A B : Nat → Int) : ∀ q, q < n * n → adE n (mulE A B n n) q = mulE (adE n B) (adE n A) n n q := fun q hq => by
  obtain ⟨h1, h2, -⟩ := flat_lt hq
  unfold adE
  rw [mul_flat hq]
  obtain ⟨m, rfl⟩ : ∃ m, n = m + 1 := ⟨n - 1, by omega⟩
  show cof m (mtx (m + 1) (mulE A B (m + 1) (m + 1))) _ _ = mm (m + 1) (mtx (m + 1) (flat (m + 1) (cof m (mtx (m + 1) B)))) (cof m (mtx (m + 1) A)) _ _
  have e1 : ∀ i j, i < m + 1 → j < m + 1 → mtx (m + 1) (mulE A B (m + 1) (m + 1)) i j = mm (m + 1) (mtx (m + 1) A) (mtx (m + 1) B) i j := fun i j hi hj => by
    obtain ⟨k1, k2⟩ := idx_dm (i := i) hj
    show laZ.sm (m + 1) (fun l => A ((i * (m + 1) + j) / (m + 1) * (m + 1) + l) * B (l * (m + 1) + (i * (m + 1) + j) % (m + 1))) = _
    rw [k1, k2]; rfl
  rw [cof_congr' e1, cof_prod _ _ h1 h2]
  exact laZ.sm_congr fun l hl => by
    show cof m (mtx (m + 1) B) (q / (m + 1)) l * _ = mtx (m + 1) (flat (m + 1) (cof m (mtx (m + 1) B))) (q / (m + 1)) l * _
    rw [show mtx (m + 1) (flat (m + 1) (cof m (mtx (m + 1) B))) (q / (m + 1)) l = cof m (mtx (m + 1) B) (q / (m + 1)) l from at_flat hl _]
end Go.Proofs.Ytejliecmdkmgiaa

namespace Go.Proofs.Ytejliecmdkmgiaa
open Go.RowKit Go.Shelf

/-- an integer in a box of two cells -/
structure ZBox (w : World) (b : Nat) (s : Bool) (v : Value) : Prop where
  m0 : w.cell? ⟨b, 0, none⟩ = some (.bool s)
  m1 : w.cell? ⟨b, 1, none⟩ = some v
  f0 : w.frozen? ⟨b, 0, none⟩ = false
  f1 : w.frozen? ⟨b, 1, none⟩ = false
section
variable {w w' w0 u : World} {b d q base : Nat} {s s' : Bool} {v v' x : Value} {z : Int} {am : Option Addr} {an ac : Nat}
theorem ZBox.below (h : ZBox w b s v) (hb : Below w.heap.size w w') : ZBox w' b s v := ⟨cell_stays hb h.m0, cell_stays hb h.m1, froz_stays hb h.m0 h.f0, froz_stays hb h.m1 h.f1⟩
theorem ZBox.grown (h : ZBox w b s v) (hg : w.grownBy w' (some d)) (hd : b ≠ d) : ZBox w' b s v :=
  have ne : some b ≠ some d := fun e => hd (Option.some.inj e)
  ⟨hg.cell h.m0 ne, hg.cell h.m1 ne, froz_grown hg hd h.m0 h.f0, froz_grown hg hd h.m1 h.f1⟩
theorem ZBox.new (w : World) (s : Bool) (v : Value) : ZBox (w.alloc (.cells #[.bool s, v] 49)) w.heap.size s v := by
  obtain ⟨h0, h1, k0, k1⟩ := two_cells w (.bool s) v 49
  exact ⟨h0, h1, k0, k1⟩
theorem ZBox.store (h : ZBox w b s v) : ZBox (stored2 w b (.bool s') v') b s' v' := by
  obtain ⟨n0, n1⟩ := two_own (x0 := .bool s') (x1 := v') h.m0 h.m1
  exact ⟨n0, n1, by unfold stored2; rw [World.frozen?_setCell, World.frozen?_setCell]; exact h.f0, by unfold stored2; rw [World.frozen?_setCell, World.frozen?_setCell]; exact h.f1⟩
theorem FrZ.offb (h : FrZ u base x z) (hb : Below u.heap.size u w) (hq : u.heap.size ≤ q) : ∀ w', w.grownBy w' (some q) → FrZ w' base x z := by
  intro w' hg
  obtain ⟨m, n, f, e, h1, h2⟩ := h
  refine ⟨m, n, f, e, (h1.below hb).grown hg ?_, h2⟩
  cases hm : m.ownBlock with
  | none => exact Or.inl rfl
  | some k =>
    right
    have := (h1.lt hm).2
    intro e
    injection e with e
    omega
theorem boxZ_mk (hb : Below w0.heap.size w0 u) (hq : w0.heap.size ≤ q) (h : ZBox u q s v) (f : FrZ (stored2 u q (.bool (decide (z < 0))) (.slice am an ac)) w0.heap.size (.agg #[.bool (decide (z < 0)), .slice am an ac]) z) (hl : q < u.heap.size) :
    BoxZ w0 (stored2 u q (.bool (decide (z < 0))) (.slice am an ac)) q z := by
  have hg := stored2_gb u q (.bool (decide (z < 0))) (.slice am an ac)
  have hs := h.store (s' := decide (z < 0)) (v' := .slice am an ac)
  exact ⟨hb.grown hg hb.size (fun k hk => by injection hk with hk; omega), hq, Nat.lt_of_lt_of_le hl hg.size, am, an, ac, ⟨hs.m0, hs.m1⟩, ⟨hs.f0, hs.f1⟩, f⟩
end
theorem boxes_mmi (w : World) (r c : Int) (v : Value) :
    let W := ((w.alloc (.cells #[.int .i64 r, .int .i64 c, v] 24)).alloc (.cells #[.int .i64 0, .int .i64 0, .slice none 0 0] 24)).alloc (.cells #[.bool false, .slice none 0 0] 49)
    MBox W w.heap.size r c v ∧ MBox W (w.heap.size + 1) 0 0 (.slice none 0 0) ∧ ZBox W (w.heap.size + 2) false (.slice none 0 0) ∧ Below w.heap.size w W ∧ W.heap.size = w.heap.size + 3 := by
  intro W
  obtain ⟨h1, h2, h3⟩ := two_mbox w r c 0 0 v (.slice none 0 0)
  have hb := two_mats w (.int .i64 r) (.int .i64 c) v (.int .i64 0) (.int .i64 0) (.slice none 0 0)
  have hz := ZBox.new ((w.alloc (.cells #[.int .i64 r, .int .i64 c, v] 24)).alloc (.cells #[.int .i64 0, .int .i64 0, .slice none 0 0] 24)) false (.slice none 0 0)
  rw [h3] at hz
  exact ⟨h1.below (bl_alloc _ _), h2.below (bl_alloc _ _), hz, below_via hb (bl_alloc _ _), by show (World.alloc _ _).heap.size = _; simp⟩

set_option maxHeartbeats 2000000 in
set_option maxRecDepth 100000 in
theorem Inverse_err (r c : Int) (v : Value) (hv : v.oneCell' = true) (E : Int) (hE : E = 1 ∨ E = 2) (w : World)
    (hdet : ∀ u, Calls Try.prog 48 #[.agg #[.int .i64 r, .int .i64 c, v]] u fun e w' => e = .returned (.tuple #[.agg #[.bool false, .slice none 0 0], .int .i64 E]) ∧ Below u.heap.size u w') :
    Calls Try.prog 113 #[.agg #[.int .i64 r, .int .i64 c, v]] w fun e w' => e = .returned (.tuple #[.agg #[.int .i64 0, .int .i64 0, .slice none 0 0], .agg #[.bool false, .slice none 0 0], .int .i64 E]) ∧ Below w.heap.size w w' := by
  obtain ⟨hm, hr, hz, hb, hs⟩ := boxes_mmi w r c v
  have HM := Lib.hid hm
  have HR := Lib.hid hr
  have HZ := Lib.hid hz
  have HB := Lib.hid hb
  have HDT := Lib.hid hdet
  have x0 := hm.m0
  have x1 := hm.m1
  have x2 := hm.m2
  have hne : ¬ E = 0 := by omega
  clear hm hr hz hb hs hdet hE
  go_enter Try.func113, Try.ntmps113
  go_upto_region 1 with fail
  generalize ((w.alloc (.cells #[.int .i64 r, .int .i64 c, v] 24)).alloc (.cells #[.int .i64 0, .int .i64 0, .slice none 0 0] 24)).alloc (.cells #[.bool false, .slice none 0 0] 49) = W at *
  go_wp2_with fail
  (refine (HDT.out W).mono ?_)
  rintro e w3 ⟨rfl, hb3⟩
  replace HB := Lib.hid (below_via HB.out hb3)
  replace HR := Lib.hid (HR.out.below hb3)
  replace HZ := Lib.hid (HZ.out.below hb3)
  have z0 := HZ.out.m0
  have z1 := HZ.out.m1
  have y0 := HZ.out.f0
  have y1 := HZ.out.f1
  clear hb3 HDT HM x0 x1 x2
  go_upto_region 2 with fail
  have hg := stored2_gb w3 (w.heap.size + 2) (.bool false) (.slice none 0 0)
  obtain ⟨w4, hw4⟩ : ∃ w4, w4 = (w3.setCell ⟨w.heap.size + 2, 0, none⟩ (.bool false)).setCell ⟨w.heap.size + 2, 1, none⟩ (.slice none 0 0) := ⟨_, rfl⟩
  have HZ4 := Lib.hid (show ZBox w4 (w.heap.size + 2) false (.slice none 0 0) by rw [hw4]; exact HZ.out.store)
  replace hg : w3.grownBy w4 (some (w.heap.size + 2)) := by rw [hw4]; exact hg
  have HR4 := Lib.hid (HR.out.grown hg (by omega))
  have hb0 := HB.out
  have HB4 := Lib.hid (hb0.grown hg hb0.size (fun k hk => by injection hk with hk; omega))
  rw [← hw4]
  clear hw4 hg hb0 HZ HR HB z0 z1 y0 y1
  have x0 := HR4.out.m0
  have x1 := HR4.out.m1
  have x2 := HR4.out.m2
  have v0 := HR4.out.f0
  have v1 := HR4.out.f1
  have v2 := HR4.out.f2
  have hg1 := stored3_gb w4 (w.heap.size + 1) (.int .i64 0) (.int .i64 0) (.slice none 0 0)
  have hz5 := HZ4.out.grown hg1 (by omega)
  have z0 := hz5.m0
  have z1 := hz5.m1
  have y0 := hz5.f0
  have y1 := hz5.f1
  unfold stored3 at z0 z1 y0 y1
  have hb5 := HB4.out.grown hg1 HB4.out.size (fun k hk => by injection hk with hk; omega)
  have hg2 := stored2_gb (stored3 w4 (w.heap.size + 1) (.int .i64 0) (.int .i64 0) (.slice none 0 0)) (w.heap.size + 2) (.bool false) (.slice none 0 0)
  have HBF := Lib.hid (hb5.grown hg2 hb5.size (fun k hk => by injection hk with hk; omega))
  have hmf := (HR4.out.store (r' := 0) (c' := 0) (v' := .slice none 0 0)).grown hg2 (by omega)
  have hzf := hz5.store (s' := false) (v' := .slice none 0 0)
  have p0 := hmf.m0
  have p1 := hmf.m1
  have p2 := hmf.m2
  have q0 := hzf.m0
  have q1 := hzf.m1
  unfold stored2 stored3 at p0 p1 p2 q0 q1
  clear hg1 hg2 hz5 hb5 hmf hzf
  go_wp2_with fail
  refine bodyPost_ret (v := .tuple #[.agg #[.int .i64 0, .int .i64 0, .slice none 0 0], .agg #[.bool false, .slice none 0 0], .int .i64 E]) ?_ rfl ⟨rfl, HBF.out⟩
  simp [results, Try.results113, go_sem, p0, p1, p2, q0, q1]
end Go.Proofs.Ytejliecmdkmgiaa
