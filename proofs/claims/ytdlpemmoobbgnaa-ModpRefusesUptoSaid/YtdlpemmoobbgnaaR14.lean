/- The walk of trellisref03.divide. -/
import Derived.Test.YtdlpemmoobbgnaaR13
set_option linter.unusedVariables false
set_option linter.unusedSimpArgs false
namespace Go.Proofs.Ytdlpemmoobbgnaa
open Go.RowKit

set_option maxHeartbeats 4000000 in
set_option maxRecDepth 100000 in
theorem divide_any (x y : Value) (na nb : Nat) (f d0 : Nat → Int) (A D : Int) (w : World) (hna : na ≤ 1099511627776) (hnb : nb ≤ 1099511627776) (hx : RdA .u64 w x na f) (hy : RdA .u64 w y nb d0) (hf : Dig 4294967296 na f A) (hd : Dig 4294967296 nb d0 D) (hD : 0 < D) :
    Calls Try.prog 132 #[x, y] w fun e w' => ∃ v1 v2 n1 n2 g1 g2, e = .returned (.tuple #[v1, v2]) ∧ RdA .u64 w' v1 n1 g1 ∧ Dig 4294967296 n1 g1 (A / D) ∧ RdA .u64 w' v2 n2 g2 ∧ Dig 4294967296 n2 g2 (A % D) ∧ Below w.heap.size w w' := by
  obtain ⟨a, cap, rfl, h1, h2, h3⟩ := wd_get hx
  obtain ⟨b, cap', rfl, g1, g2, g3⟩ := wd_get hy
  have hA0 := hf.nonneg (by omega)
  by_cases hlt : na < nb
  · have hAD := hf.lt_of_len (by omega) hd hlt
    have e1 : A / D = 0 := Int.ediv_eq_zero_of_lt hA0 hAD
    have e2 : A % D = A := Int.emod_eq_of_lt hA0 hAD
    rw [e1, e2]
    have HX := Lib.hid hx
    have HF := Lib.hid hf
    clear hx hy hf hd h3 g3 e1 e2
    go_enter Try.func132, Try.ntmps132
    go_wp2_with fail
    go_ret2
    exact ⟨.slice none 0 0, .slice a na cap, 0, na, fun _ => 0, f, rfl, ⟨none, 0, rfl, Nat.le_refl _, by omega, fun h => absurd h (by omega)⟩, ⟨fun i hi => absurd hi (by omega), fun h => absurd h (by omega), rfl⟩, HX.out, HF.out, Below.refl _ _⟩
  · have hnb0 : 0 < nb := by
      refine Nat.pos_of_ne_zero fun h => ?_
      have := (hd.zero_iff (by omega)).1 h; omega
    obtain ⟨b1, o1, hb1, hc1⟩ := g3 (nb - 1) (by omega)
    subst hb1
    obtain ⟨m1, hm1⟩ : ∃ m1, m1 = nb - 1 := ⟨_, rfl⟩
    rw [← hm1] at hc1
    obtain ⟨bt, hbt⟩ : ∃ bt, bt = d0 m1 := ⟨_, rfl⟩
    have hbb := hd.bd m1 (by omega)
    have htop := hd.top hnb0
    rw [← hm1] at htop
    rw [← hbt] at hc1 hbb htop
    have hm2 : (nb : Int) - 1 = (m1 : Int) := by omega
    have hm3 : m1 < nb := by omega
    obtain ⟨bb0, bb1⟩ := hbb
    have bt1 : 1 ≤ bt := by omega
    have HX := Lib.hid hx
    have HY := Lib.hid hy
    have HFD := Lib.hid hf
    have HDD := Lib.hid hd
    have HBT := Lib.hid hbt
    have HM1 := Lib.hid hm1
    clear hx hy hf hd h3 g3 hbt htop hm1
    go_enter Try.func132, Try.ntmps132
    go_wp2_with fail
    go_loop [6] (fun fv => ∃ (k : Nat) (F : Int), k ≤ 31 ∧ Hid (F = 2 ^ k) ∧ (1 : Int) ≤ F ∧ F ≤ 2147483648 ∧ Hid ((bt + 1) * F ≤ 4294967296) ∧ fv = .int .u64 F) (fun fv => (4294967296 - intOf fv).toNat)
    case atStart => exact ⟨0, 1, by omega, rfl, by omega, by omega, by show _ ≤ _; omega, rfl⟩
    case round =>
      obtain ⟨k, F, k1, hF, F1, F2, hbF, rfl⟩ := hrel
      have hprod : 0 ≤ bt * F ∧ bt * F ≤ 4294967296 := by
        have := hbF.out
        rw [Int.add_mul, Int.one_mul] at this
        exact ⟨Int.mul_nonneg (by omega) (by omega), by omega⟩
      obtain ⟨pr0, pr1⟩ := hprod
      by_cases hl : bt * F < 2147483648
      · obtain ⟨s1, s2, s3⟩ := fac_step bt1 hF.out k1 hl
        have hF4 : 2 * F ≤ 2147483648 := by
          rw [s3]
          have := pow_le' (B := 2) (by omega) s1
          exact Int.le_trans this (by decide)
        have S2 := Lib.hid s2
        have S3 := Lib.hid s3
        clear s2 s3
        go_wp2_with fail
        go_round
        case rel => exact ⟨k + 1, 2 * F, s1, S3.out, by omega, hF4, S2.out, rfl⟩
        case measure => simp [intOf]; omega
      · have hDF : D * F < 4294967296 ^ nb := by
          have h1 : D ≤ (bt + 1) * 4294967296 ^ m1 := by
            have hv := HDD.out.val
            have := dv_bd (B := 4294967296) (by omega) (n := m1) (fun i hi => HDD.out.bd i (by omega))
            rw [show nb = m1 + 1 by have := HM1.out; omega] at hv
            simp only [dv] at hv
            rw [← HBT.out] at hv
            rw [Int.add_mul]; omega
          have hlt' : D < (bt + 1) * 4294967296 ^ m1 := by
            have hv := HDD.out.val
            have := dv_bd (B := 4294967296) (by omega) (n := m1) (fun i hi => HDD.out.bd i (by omega))
            rw [show nb = m1 + 1 by have := HM1.out; omega] at hv
            simp only [dv] at hv
            rw [← HBT.out] at hv
            rw [Int.add_mul]; omega
          have h2 : D * F < (bt + 1) * 4294967296 ^ m1 * F := Int.mul_lt_mul_of_pos_right hlt' (by omega)
          have hp := pow_pos' (show (0 : Int) < 4294967296 by omega) m1
          have h3 : (bt + 1) * F * 4294967296 ^ m1 ≤ 4294967296 * 4294967296 ^ m1 := Int.mul_le_mul_of_nonneg_right hbF.out (by omega)
          rw [show nb = m1 + 1 by have := HM1.out; omega, Int.pow_succ]
          have e : (bt + 1) * 4294967296 ^ m1 * F = (bt + 1) * F * 4294967296 ^ m1 := by grind
          omega
        have HDF := Lib.hid hDF
        have hF5 : 0 ≤ F ∧ F < 4294967296 := by omega
        clear hDF
        go_wp2_with fail
        clear pr0 pr1 hc1
        refine (scaled_any _ na f F hF5 _ hna HFD.out.bd HX.out).mono ?_
        rintro e w1 ⟨rb, g, rfl, hrb, hrk, hrr, hgb, hgv, hb1⟩
        have HY := Lib.hid (HY.out.below hb1)
        have HRR := Lib.hid hrr
        have HRK := Lib.hid hrk
        rw [HFD.out.val] at hgv
        have HGV := Lib.hid hgv
        have HGB := Lib.hid hgb
        clear hrr hrk hgv hgb
        go_wp2_with fail
        refine (scaled_any _ nb d0 F hF5 _ hnb HDD.out.bd HY.out).mono ?_
        rintro e w2 ⟨db, d, rfl, hdb, hdk, hdr, hdbd, hdv, hb2⟩
        rw [HDD.out.val] at hdv
        have hDF1 : D ≤ D * F := by
          have := Int.mul_le_mul_of_nonneg_left F1 (show 0 ≤ D by omega); omega
        have hsz : sz d (nb + 1) = nb := by
          have hdg := dig_sz hdbd
          rw [hdv] at hdg
          have h1 := hdg.len (by omega) HDF.out
          have h2 := HDD.out.ge (by omega) hnb0
          have h3 := hdg.lt (by omega)
          refine Nat.le_antisymm h1 (Nat.le_of_not_lt fun hlt => ?_)
          have := pow_le' (B := 4294967296) (by omega) (show sz d (nb + 1) ≤ nb - 1 by omega)
          omega
        have hdv2 : dv 4294967296 d nb = D * F := by
          have := dv_more (B := 4294967296) (sz_le d (nb + 1)) (fun i h1 h2 => sz_above d (nb + 1) i h1 h2)
          rw [hsz] at this; rw [← this, hdv]
        have hrdd : RdA .u64 w2 (.slice (some ⟨db, 0, none⟩) (nb + 1) (nb + 1)) (nb + 1) d := ⟨_, nb + 1, rfl, Nat.le_refl _, by omega, fun _ => ⟨db, 0, rfl, fun i hi => (hdr i hi).1⟩⟩
        have htrim := Trim3_any _ (nb + 1) (nb + 1) d w2 hrdd
        rw [hsz] at htrim
        have HTR := Lib.hid htrim
        have HDR := Lib.hid hdr
        have HDBD : Hid (∀ t, t < nb → 0 ≤ d t ∧ d t < 4294967296) := fun t ht => hdbd t (by omega)
        have HDV := Lib.hid hdv2
        have HRR := Lib.hid (HRR.out.below hb2)
        have hs1 := hb1.size
        have hs2 := hb2.size
        have hrb1 : rb < w1.heap.size := HRK.out.lt
        have hdbw2 : db < w2.heap.size := hdk.lt
        have HB2 := Lib.hid (hb1.trans (hb2.mono hb1.size))
        obtain ⟨hd, hhd⟩ : ∃ hd, hd = d m1 := ⟨_, rfl⟩
        obtain ⟨hd0, hd1⟩ := hdbd m1 (by omega)
        have hcd := (hdr m1 (by omega)).1
        rw [Nat.zero_add] at hcd
        rw [← hhd] at hd0 hd1 hcd
        have HHD := Lib.hid hhd
        clear hdr hdk hdbd hdv hdv2 hsz hrdd htrim hb1 hb2 hhd
        obtain ⟨S, hS⟩ : ∃ S, S = na - nb + 1 := ⟨_, rfl⟩
        have mk : ∀ u : World, (Instr.makeSlice 54 (.int .i64 ((na : Int) - nb + 1)) (.int .i64 ((na : Int) - nb + 1))).run Try.prog u =
            .ok (.slice (some ⟨u.heap.size, 0, none⟩) S S) (u.alloc (.cells (madeCells #[.int .u64 0] S) 22)) := by
          rw [show (na : Int) - nb + 1 = (S : Int) by omega]; exact mk_wds S S (Nat.le_refl _) (by omega)
        have hb3 : Below w2.heap.size w2 (w2.alloc (.cells (madeCells #[.int .u64 0] S) 22)) := (Below.refl _ _).alloc (Nat.le_refl _) _
        have hcd3 := cell_stays hb3 hcd
        have HSS := Lib.hid hS
        have hSn : na - nb < S := by omega
        clear hS
        go_wp2_with (go_at_call 134; (with_reducible refine HTR.out.mono ?_); rintro e w3 ⟨rfl, rfl⟩)
        obtain ⟨qb, hqb⟩ : ∃ qb, qb = w2.heap.size := ⟨_, rfl⟩
        have hq0 := (CellsAt.row (f := fun _ => 0) (CellsAt.made w2 (.int .u64 0) S 22))
        rw [← hqb] at hq0
        obtain ⟨K, hK⟩ : ∃ K, K = na + 1 := ⟨_, rfl⟩
        have hdm : DM w (w2.alloc (.cells (madeCells #[.int .u64 0] S) 22)) rb qb K S nb g (fun _ => 0) d (.slice (some ⟨db, 0, none⟩) nb (nb + 1)) :=
          ⟨by rw [hK]; exact HRR.out.below hb3, hq0, ⟨_, nb + 1, rfl, by omega, by omega, fun _ => ⟨db, 0, rfl, fun i hi => cell_stays hb3 (HDR.out i (by omega)).1⟩⟩, HB2.out.trans (hb3.mono HB2.out.size)⟩
        have hDF0 : 0 < D * F := by omega
        have hdh : DH (A * F) (D * F) K S S g (fun _ => 0) := by
          refine ⟨by rw [hK]; exact HGB.out, fun _ => by omega, fun _ _ => rfl, by rw [dv_zero (n := S) (fun _ _ => rfl), hK, HGV.out]; omega, ?_⟩
          rw [hK, HGV.out]
          have h1 := HFD.out.lt (by omega)
          have h2 := HDD.out.ge (by omega) hnb0
          have h3 := pow_pos' (show (0 : Int) < 4294967296 by omega) S
          have e : (4294967296 : Int) ^ na = 4294967296 ^ (nb - 1) * 4294967296 ^ S := by rw [← Int.pow_add]; congr 1; have := HSS.out; omega
          have h4 : (4294967296 : Int) ^ (nb - 1) * 4294967296 ^ S ≤ D * 4294967296 ^ S := Int.mul_le_mul_of_nonneg_right h2 (by omega)
          have h5 : A * F < D * 4294967296 ^ S * F := Int.mul_lt_mul_of_pos_right (by omega) (by omega)
          have e2 : D * F * 4294967296 ^ S = D * 4294967296 ^ S * F := by grind
          omega
        have hrq : qb ≠ rb := by omega
        have hdbr : (Value.slice (some ⟨db, 0, none⟩) nb (nb + 1)).ownBlock ≠ some rb := by simp [Value.ownBlock]; omega
        have hdbq : (Value.slice (some ⟨db, 0, none⟩) nb (nb + 1)).ownBlock ≠ some qb := by simp [Value.ownBlock]; omega
        have hqbw : w.heap.size ≤ qb := by omega
        have HOFF := Lib.hid (And.intro hrq (And.intro hdbr (And.intro hdbq (And.intro hrb hqbw))))
        have HDM0 := Lib.hid hdm
        have HDH0 := Lib.hid hdh
        have hsub1 : (na : Int) - nb + 1 = (S : Int) := by have := HSS.out; omega
        have hsub : (na : Int) - nb = (S : Int) - 1 := by have := HSS.out; omega
        have hKS : S + nb = K := by have := HSS.out; omega
        have HKS := Lib.hid hKS
        have hKb : K ≤ 1099511627777 := by omega
        have hKc : na + 1 = K := hK.symm
        have HKC := Lib.hid hKc
        clear hq0 hdm hdh hrq hdbr hdbq hqbw hb3 hcd hcd3 mk hrb1 hdbw2 hs1 hs2 hK hKS hKc hDF1
        rw [← hqb, hsub1, hsub, HKC.out]
        generalize w2.alloc (.cells (madeCells #[.int .u64 0] S) 22) = w3 at HDM0 ⊢
        clear hqb hsub hsub1
        go_loopw [11] (fun sv wr => ∃ (c : Nat) (g qf : Nat → Int), c ≤ S ∧ sv = .int .i64 ((c : Int) - 1) ∧ DH (A * F) (D * F) K S c g qf ∧ DM w wr rb qb K S nb g qf d (.slice (some ⟨db, 0, none⟩) nb (nb + 1))) (fun sv _ => (intOf sv + 1).toNat)
        case atStart => exact ⟨S, g, fun _ => 0, Nat.le_refl _, rfl, HDH0.out, HDM0.out⟩
        case round =>
          clear HDH0 HDM0 HGB HGV HRR HRK
          obtain ⟨c, g, qf, c1, rfl, hdh, hdm⟩ := hrel
          rcases c with _ | s
          · have HDH := Lib.hid hdh
            have HDM := Lib.hid hdm
            have hSK : S ≤ K := by have := HKS.out; omega
            have hgb0 := hdh.gb
            have HG0 := Lib.hid hgb0
            clear hdh hdm hgb0
            go_wp2_with fail
            go_loopw [15, 16] (fun rv iv wr => ∃ (c : Nat) (h : Nat → Int) (rho : Int), c ≤ K ∧ iv = .int .i64 ((c : Int) - 1) ∧ rv = .int .u64 rho ∧ DF g F K c h rho ∧ DM w wr rb qb K S nb h qf d (.slice (some ⟨db, 0, none⟩) nb (nb + 1))) (fun _ iv _ => (intOf iv + 1).toNat)
            case atStart => exact ⟨K, g, 0, Nat.le_refl _, rfl, rfl, DF.start HG0.out (by omega), HDM.out⟩
            case round =>
              clear HDM
              obtain ⟨c, h, rho, c1, rfl, rfl, hdf, hdm⟩ := hrel
              have HDF2 := Lib.hid hdf
              have HDM := Lib.hid hdm
              obtain ⟨rho0, rho1⟩ := hdf.rb
              clear hdf hdm
              rcases c with _ | j
              · have hend := div_end (by omega) hD (show 0 < F by omega) HDH.out HDF2.out
                have hq1 := dig_sz (B := 4294967296) (f := qf) (n := S) (fun i _ => HDH.out.qb i)
                have hq2 := dig_sz (B := 4294967296) (f := h) (n := K) HDF2.out.hb
                rw [hend.1] at hq1
                rw [hend.2] at hq2
                have hr1 : RdA .u64 wr (.slice (some ⟨qb, 0, none⟩) S S) S qf := ⟨_, S, rfl, Nat.le_refl _, by omega, fun _ => ⟨qb, 0, rfl, fun i hi => (HDM.out.q i hi).1⟩⟩
                have hr2 : RdA .u64 wr (.slice (some ⟨rb, 0, none⟩) K K) K h := ⟨_, K, rfl, Nat.le_refl _, by omega, fun _ => ⟨rb, 0, rfl, fun i hi => (HDM.out.r i hi).1⟩⟩
                have ht1 := Trim3_any _ S S qf wr hr1
                have ht2 := Trim3_any _ K K h wr hr2
                have hz1 := sz_le qf S
                have hz2 := sz_le h K
                obtain ⟨z1, hze1⟩ : ∃ z1, z1 = sz qf S := ⟨_, rfl⟩
                obtain ⟨z2, hze2⟩ : ∃ z2, z2 = sz h K := ⟨_, rfl⟩
                rw [← hze1] at hq1 ht1 hz1
                rw [← hze2] at hq2 ht2 hz2
                have HT1 := Lib.hid ht1
                have HT2 := Lib.hid ht2
                have HQ1 := Lib.hid hq1
                have HQ2 := Lib.hid hq2
                clear hend hq1 hq2 hr1 hr2 ht1 ht2 hze1 hze2
                go_wp2_with (go_at_call 134; first | ((with_reducible refine HT1.out.mono ?_); rintro e w5 ⟨rfl, rfl⟩) | ((with_reducible refine HT2.out.mono ?_); rintro e w5 ⟨rfl, rfl⟩))
                go_ret2
                refine ⟨_, _, z1, z2, qf, h, rfl, ⟨_, S, rfl, hz1, by omega, fun _ => ⟨qb, 0, rfl, fun i hi => (HDM.out.q i (by omega)).1⟩⟩, HQ1.out, ⟨_, K, rfl, hz2, by omega, fun _ => ⟨rb, 0, rfl, fun i hi => (HDM.out.r i (by omega)).1⟩⟩, HQ2.out, HDM.out.below⟩
              · have hjK : j < K := by omega
                obtain ⟨s0, s1, s2, s3, s4⟩ := HDF2.out.step hjK HG0.out ⟨by omega, by omega⟩
                have hlow := HDF2.out.low j (by omega)
                obtain ⟨k1, k2⟩ := HDM.out.r.get0 hjK hlow
                obtain ⟨u, hu⟩ : ∃ u, u = g j := ⟨_, rfl⟩
                rw [← hu] at s0 s1 s2 s3 s4 k1
                obtain ⟨t, ht⟩ : ∃ t, t = rho * 4294967296 + u := ⟨_, rfl⟩
                rw [← ht] at s0 s1 s2 s3 s4
                have ht' : rho * 4294967296 + u = t := ht.symm
                have hrow := HDM.out.r.set0 hjK (t / F)
                have hgs := gb_set wr ⟨rb, j, none⟩ (.int .u64 (t / F))
                have hdm2 := HDM.out.put HOFF.out.1 HOFF.out.2.1 HOFF.out.2.2.2.1 hrow hgs
                have hu0 := HG0.out j hjK
                rw [← hu] at hu0
                obtain ⟨hu00, hu01⟩ := hu0
                have hj1 : ((j + 1 : Nat) : Int) - 1 = (j : Int) := by omega
                have HN := Lib.hid (And.intro s4 hdm2)
                clear hlow hu ht hrow hgs hdm2 s4 HDM HDF2
                rw [hj1]
                go_wp2_with fail
                go_roundw
                case rel => exact ⟨j, _, _, by omega, by go_num, rfl, HN.out.1, HN.out.2⟩
                case measure => simp [intOf]
          · have HDI := Lib.hid hdh.enter
            have HDM := Lib.hid hdm
            have hs1 : ((s + 1 : Nat) : Int) - 1 = (s : Int) := by omega
            clear hdh hdm
            rw [hs1]
            go_wp2_with fail
            go_loopg [12] ((dv 4294967296 g K).toNat + 1) (fun gk tv wr => ∃ (g qf : Nat → Int), Hid (dv 4294967296 g K < (gk : Int)) ∧ DI (A * F) (D * F) K S s g qf ∧ DM w wr rb qb K S nb g qf d (.slice (some ⟨db, 0, none⟩) nb (nb + 1)))
            case atStart => exact ⟨g, qf, by show _ < _; have := (dv_bd (by omega) HDI.out.gb).1; omega, HDI.out, HDM.out⟩
            case round =>
              clear HDI HDM g qf
              obtain ⟨g, qf, hgk, hdi, hdm⟩ := hrel
              have hsK : s + nb < K := by have := HKS.out; omega
              obtain ⟨t1, ht1⟩ : ∃ t1, t1 = s + nb - 1 := ⟨_, rfl⟩
              obtain ⟨t2, ht2⟩ : ∃ t2, t2 = s + nb := ⟨_, rfl⟩
              obtain ⟨n0, n1, n2⟩ := hdi.digit hnb0 HDBD.out HDV.out hDF0 hsK
              have gb1 := hdi.gb t1 (by omega)
              have gb2 := hdi.gb t2 (by omega)
              obtain ⟨k1, _⟩ := hdm.r.get0 (i := t1) (by omega) rfl
              obtain ⟨k2, _⟩ := hdm.r.get0 (i := t2) (by omega) rfl
              rw [← ht1, ← ht2, ← HM1.out, ← HHD.out] at n0 n1 n2
              obtain ⟨u1, hu1⟩ : ∃ u1, u1 = g t1 := ⟨_, rfl⟩
              obtain ⟨u2, hu2⟩ : ∃ u2, u2 = g t2 := ⟨_, rfl⟩
              rw [← hu1] at n0 n1 n2 gb1 k1
              rw [← hu2] at n0 n1 n2 gb2 k2
              obtain ⟨n, hn⟩ : ∃ n, n = (u1 + u2 * 4294967296) / (hd + 1) := ⟨_, rfl⟩
              rw [← hn] at n0 n1 n2
              have he1 : (s : Int) + nb = (t2 : Int) := by omega
              have he2 : (t2 : Int) - 1 = (t1 : Int) := by omega
              have ht1K : t1 < K := by omega
              have ht2K : t2 < K := by omega
              have hn' : (u1 + u2 * 4294967296) / (hd + 1) = n := hn.symm
              have HDI := Lib.hid hdi
              have HDM := Lib.hid hdm
              have N1 := Lib.hid n1
              have HT := Lib.hid (And.intro ht1 ht2)
              have hsS : s < S := by omega
              obtain ⟨gb10, gb11⟩ := gb1
              obtain ⟨gb20, gb21⟩ := gb2
              clear hdi hdm n1 hu1 hu2 hn ht1 ht2
              by_cases hz : n = 0
              · have hzb : (n == 0) = true := beq_iff_eq.2 hz
                have hgo := goes_any _ _ K nb s g d wr hKb (by omega) (show RdA .u64 wr (.slice (some ⟨rb, 0, none⟩) K K) K g from ⟨_, K, rfl, Nat.le_refl _, by omega, fun _ => ⟨rb, 0, rfl, fun i hi => (HDM.out.r i hi).1⟩⟩) HDM.out.d HDI.out.gb HDBD.out
                  (fun t h1 h2 => HDI.out.high hDF0 (by rw [← HDV.out]; exact (dv_bd (by omega) HDBD.out).2) t h1 h2)
                rw [HDV.out] at hgo
                have hiff := up_ge HDI.out.gb (show s ≤ K by omega) (D * F)
                have HIFF := Lib.hid hiff
                clear hiff
                by_cases hge : D * F ≤ up g K s
                · rw [decide_eq_true hge] at hgo
                  have hle1 : 1 * (D * F) * 4294967296 ^ s ≤ dv 4294967296 g K := by rw [Int.one_mul]; exact HIFF.out.1 hge
                  have HLE := Lib.hid hle1
                  have HGO := Lib.hid hgo
                  have hone : (0 : Int) ≤ 1 := by omega
                  clear hgo hle1 hge hz
                  go_wp2_with (go_at_call 136; refine HGO.out.mono ?_; rintro e w4 ⟨rfl, hb4⟩; have HDM := Lib.hid (HDM.out.same hb4))
                  refine (takeOff_any rb K nb s K g d 1 (.slice (some ⟨db, 0, none⟩) nb (nb + 1)) _ hKb (by omega) ⟨hone, by omega⟩ HDM.out.r HDM.out.d HOFF.out.2.1 HDI.out.gb HDBD.out (by rw [HDV.out]; exact HLE.out)).mono ?_
                  rintro e w5 ⟨g', rfl, hr5, hgb', hgv', hg5⟩
                  rw [HDV.out] at hgv'
                  have hdm5 := HDM.out.put HOFF.out.1 HOFF.out.2.1 HOFF.out.2.2.2.1 hr5 hg5
                  obtain ⟨e1, e2, hdi5⟩ := HDI.out.take hDF0 hsS hone hgb' hgv'
                  obtain ⟨v0, v1⟩ := HDI.out.qb s
                  obtain ⟨qc1, qc2⟩ := hdm5.q.get0 hsS rfl
                  obtain ⟨qs, hqs⟩ : ∃ qs, qs = qf s := ⟨_, rfl⟩
                  rw [← hqs] at e1 e2 hdi5 v0 v1 qc1
                  have hdm6 := hdm5.putq HOFF.out.1 HOFF.out.2.2.1 HOFF.out.2.2.2.2 hsS (qs + 1)
                  have hdec : dv 4294967296 g' K < dv 4294967296 g K := dec_of hDF0 (Int.le_refl 1) hgv'
                  have hgk5 : 0 ≤ dv 4294967296 g' K := (dv_bd (by omega) hgb').1
                  have hm5 : (dv 4294967296 g' K).toNat + 1 < gk := by have := hgk.out; omega
                  have hm6 : dv 4294967296 g' K < (((dv 4294967296 g' K).toNat + 1 : Nat) : Int) := by omega
                  have HM5 := Lib.hid (And.intro hm5 (And.intro hm6 (And.intro hdi5 hdm6)))
                  clear hr5 hgb' hgv' hg5 hdm5 hdi5 hqs hdm6 hdec hgk5 hm5 hm6 HDI HDM hgk
                  go_wp2_with fail
                  go_roundg ((dv 4294967296 g' K).toNat + 1)
                  case measure => exact HM5.out.1
                  case rel => exact ⟨g', _, HM5.out.2.1, HM5.out.2.2.1, HM5.out.2.2.2⟩
                · rw [decide_eq_false hge] at hgo
                  have hout := HDI.out.leave (Int.not_le.1 fun h => hge (HIFF.out.2 h))
                  have HOUT := Lib.hid hout
                  have HGO := Lib.hid hgo
                  clear hgo hge hz hout
                  go_wp2_with (go_at_call 136; refine HGO.out.mono ?_; rintro e w4 ⟨rfl, hb4⟩; have HDM := Lib.hid (HDM.out.same hb4))
                  go_roundw
                  case rel => exact ⟨s, g, qf, by omega, by go_num, HOUT.out, HDM.out⟩
                  case measure => simp [intOf]
              · have hzb : (n == 0) = false := beq_eq_false_iff_ne.2 hz
                have hn1 : 1 ≤ n := by omega
                clear hz
                go_wp2_with fail
                refine (takeOff_any rb K nb s K g d n (.slice (some ⟨db, 0, none⟩) nb (nb + 1)) _ hKb (by omega) ⟨n0, by omega⟩ HDM.out.r HDM.out.d HOFF.out.2.1 HDI.out.gb HDBD.out (by rw [HDV.out]; exact N1.out)).mono ?_
                rintro e w5 ⟨g', rfl, hr5, hgb', hgv', hg5⟩
                rw [HDV.out] at hgv'
                have hdm5 := HDM.out.put HOFF.out.1 HOFF.out.2.1 HOFF.out.2.2.2.1 hr5 hg5
                obtain ⟨e1, e2, hdi5⟩ := HDI.out.take hDF0 hsS n0 hgb' hgv'
                obtain ⟨v0, v1⟩ := HDI.out.qb s
                obtain ⟨qc1, qc2⟩ := hdm5.q.get0 hsS rfl
                obtain ⟨qs, hqs⟩ : ∃ qs, qs = qf s := ⟨_, rfl⟩
                rw [← hqs] at e1 e2 hdi5 v0 v1 qc1
                have hdm6 := hdm5.putq HOFF.out.1 HOFF.out.2.2.1 HOFF.out.2.2.2.2 hsS (qs + n)
                have hdec : dv 4294967296 g' K < dv 4294967296 g K := dec_of hDF0 hn1 hgv'
                have hgk5 : 0 ≤ dv 4294967296 g' K := (dv_bd (by omega) hgb').1
                have hm5 : (dv 4294967296 g' K).toNat + 1 < gk := by have := hgk.out; omega
                have hm6 : dv 4294967296 g' K < (((dv 4294967296 g' K).toNat + 1 : Nat) : Int) := by omega
                have HM5 := Lib.hid (And.intro hm5 (And.intro hm6 (And.intro hdi5 hdm6)))
                clear hr5 hgb' hgv' hg5 hdm5 hdi5 hqs hdm6 hdec hgk5 hm5 hm6 HDI HDM hgk
                go_wp2_with fail
                go_roundg ((dv 4294967296 g' K).toNat + 1)
                case measure => exact HM5.out.1
                case rel => exact ⟨g', _, HM5.out.2.1, HM5.out.2.2.1, HM5.out.2.2.2⟩

end Go.Proofs.Ytdlpemmoobbgnaa
