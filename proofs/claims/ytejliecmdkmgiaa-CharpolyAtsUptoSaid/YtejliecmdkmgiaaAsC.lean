/- The walk of the law CharpolyAts for polynomials of few numbers. The law CharpolyAts for all arguments. 'CharpolyAts', where what it reads is of bulk at most 1,048,576: for all lists p and q and every matrix a the law returns true and its arguments read as before. -/
import Derived.Test.YtejliecmdkmgiaaGW
import Derived.Test.YtejliecmdkmgiaaRows
import Derived.Test.YtejliecmdkmgiaaGH
import Derived.ProofKit
import Derived.OpenShut
import Derived.Carry
import Derived.JoinedCond
set_option linter.unusedVariables false
set_option linter.unusedSimpArgs false
namespace Go.Proofs.Ytejliecmdkmgiaa
open Go.RowKit Go.Shelf

set_option maxHeartbeats 8000000 in
set_option maxRecDepth 100000 in
theorem Ats_few (n S P la lb : Nat) (xp xq sl : Value) (A E F : Nat → Int) (w : World) (hn : n ≤ 64) (hS : S ≤ 1048576) (hP : P ≤ 1048576) (hr : RdE w sl (n * n) A) (hA : ∀ q, q < n * n → ZB S (A q)) (hp : RdE w xp la E) (hq : RdE w xq lb F) (hE : ∀ i, i < la → ZB P (E i)) (hF : ∀ i, i < lb → ZB P (F i)) (hla : la + lb ≤ 1048576)
    (hsz : szE E la ≤ 257 ∧ szE F lb ≤ 257) :
    Calls Try.prog 7 #[xp, xq, .agg #[.int .i64 n, .int .i64 n, sl]] w fun e w' => e = .returned (.bool true) ∧ Below w.heap.size w w' := by
  have hmix : Try.prog.follows .mixedOrders = true := by kernel_rfl
  have hK4 : n * n ≤ 4096 := Nat.mul_le_mul hn hn
  have hsa := szE_le E la
  have hsb := szE_le F lb
  obtain ⟨a, cap, rfl, hcap⟩ := hr.slice
  obtain ⟨ap, cp, rfl, -⟩ := hp.slice
  obtain ⟨aq, cq, rfl, -⟩ := hq.slice
  have hrf := fun (u : World) (hu : Below w.heap.size w u) => refused16_good n S _ A u hn (by omega) (hr.below hu) hA
  have hcy := fun (u : World) (hu : Below w.heap.size w u) => cayley_yes n S _ A u hn hS (hr.below hu) hA
  have hle := fun (u : World) (hu : Below w.heap.size w u) => mLeast_good n n _ A u hn hn (hr.below hu)
  have hatx := fun (u : World) (x : Value) (hu : Below w.heap.size w u) (hx : RdE u x 2 xE) => (At_good n S 1 2 x _ xE A u hn (by omega) (by omega) hx (Nat.le_trans (szE_le _ 2) (by omega)) (fun i _ => by unfold xE; split; exact zb_ones; exact zb_nil 1) (hr.below hu) hA)
  have htp := fun (u : World) (hu : Below w.heap.size w u) => Trim_any _ la _ E u (hp.below hu)
  have htq := fun (u : World) (hu : Below w.heap.size w u) => Trim_any _ lb _ F u (hq.below hu)
  have hpz := pmS_zb hn (mtx_zb hA) hsz.1 (fun i hi => hE i (by omega))
  have hqz := pmS_zb hn (mtx_zb hA) hsz.2 (fun i hi => hF i (by omega))
  have hap := fun (u : World) (hu : Below w.heap.size w u) => At_good n S P la _ _ E A u hn (by omega) (by omega) (hp.below hu) hsz.1 hE (hr.below hu) hA
  have haq := fun (u : World) (hu : Below w.heap.size w u) => At_good n S P lb _ _ F A u hn (by omega) (by omega) (hq.below hu) hsz.2 hF (hr.below hu) hA
  have haz : ∀ i, ZB (P + 1) (addP E F la lb i) := fun i => by
    refine zb_max (S := P) (T := P) ?_ ?_ (Nat.le_refl _) (Nat.le_refl _)
    · unfold padE; split; exact hE _ (by omega); exact zb_nil _
    · unfold padE; split; exact hF _ (by omega); exact zb_nil _
  have hadd := fun (u : World) (hu : Below w.heap.size w u) => Add_poly _ _ la lb (P + 1) E F u (hp.below hu) (hq.below hu) (by omega) (fun i _ => haz i)
  have hasz : szE (addP E F la lb) (max la lb) ≤ 257 := by
    refine Decidable.byContradiction fun h => szE_top (addP E F la lb) (max la lb) (by omega) ?_
    show padE E la (szE (addP E F la lb) (max la lb) - 1) + padE F lb (szE (addP E F la lb) (max la lb) - 1) = 0
    rw [pad_zero (E := E) (a := la) (by omega), pad_zero (E := F) (a := lb) (by omega)]; rfl
  have hats := fun (u : World) (x : Value) (hu : Below w.heap.size w u) (hx : RdE u x (szE (addP E F la lb) (max la lb)) (addP E F la lb)) => At_good n S (P + 1) _ x _ (addP E F la lb) A u hn (by omega) (by omega) hx (by rw [szE_mono]; exact hasz) (fun i _ => haz i) (hr.below hu) hA
  have hmz : ∀ k, ZB (P + P + 1) (cv (padE E la) (padE F lb) k) := fun k => by
    rw [← mulP_all]
    by_cases h0 : 0 < la
    · have h1 := mulP_zb (S := P) (T := P) (by omega) hE hF (show la - 1 < la by omega) (Nat.le_refl lb) k
      rw [mulP_row, show la - 1 + 1 = la by omega] at h1
      exact h1
    · obtain rfl : la = 0 := by omega
      rw [mulP_start]; exact zb_nil _
  have hmlp := fun (u : World) (hu : Below w.heap.size w u) => (show Calls Try.prog 19 _ u fun e w' => ∃ v, e = .returned v ∧ LeE w' v (mulL E F la lb) (cv (padE E la) (padE F lb)) ∧ Below u.heap.size u w' from Mul_poly _ _ la lb P P E F u (hp.below hu) (hq.below hu) (by omega) (by omega) hE hF)
  have hatm := fun (u : World) (x : Value) (hL : mulL E F la lb ≤ 257) (hu : Below w.heap.size w u) (hx : RdE u x (mulL E F la lb) (cv (padE E la) (padE F lb))) => At_good n S (P + P + 1) _ x _ (cv (padE E la) (padE F lb)) A u hn (by omega) (by omega) hx (by rw [mulL_sz]; exact hL) (fun i _ => hmz i) (hr.below hu) hA
  have hatl := fun (u : World) (x : Value) (hL : 257 < mulL E F la lb) (hx : RdE u x (mulL E F la lb) (cv (padE E la) (padE F lb))) => At_large n (mulL E F la lb) x (cv (padE E la) (padE F lb)) a (n * n) cap u hn rfl hx (by rw [mulL_sz]; exact hL)
  have hsum := fun (q : Nat) => at_add (n := n) (mtx n A) E F la lb q
  have hprd := fun (q : Nat) (hq : q < n * n) => at_mul (mtx n A) E F la lb hq
  have hmul : mulL E F la lb = if szE E la = 0 ∨ szE F lb = 0 then 0 else szE E la + szE F lb - 1 := rfl
  obtain ⟨GP, hGP⟩ : ∃ GP, GP = flat n (pmS n (mtx n A) E (szE E la)) := ⟨_, rfl⟩
  obtain ⟨GQ, hGQ⟩ : ∃ GQ, GQ = flat n (pmS n (mtx n A) F (szE F lb)) := ⟨_, rfl⟩
  obtain ⟨L, hL⟩ : ∃ L, L = mulL E F la lb := ⟨_, rfl⟩
  obtain ⟨Z, hZ⟩ : ∃ Z, Z = cv (padE E la) (padE F lb) := ⟨_, rfl⟩
  simp only [← hL, ← hZ] at hmlp hatm hatl hprd
  rw [← hL] at hmul
  obtain ⟨GS, hGS⟩ : ∃ GS, GS = flat n (pmS n (mtx n A) (addP E F la lb) (szE (addP E F la lb) (szE (addP E F la lb) (max la lb)))) := ⟨_, rfl⟩
  obtain ⟨GM, hGM⟩ : ∃ GM, GM = flat n (pmS n (mtx n A) Z (szE Z L)) := ⟨_, rfl⟩
  simp only [← hGP] at hap hpz hsum hprd
  simp only [← hGQ] at haq hqz hsum hprd
  simp only [← hGS] at hats hsum
  simp only [← hGM] at hatm hprd
  obtain ⟨T, hT⟩ : ∃ T, T = P + 257 * (S + 2) := ⟨_, rfl⟩
  have hT2 : T ≤ 270533150 := by omega
  rw [← hT] at hpz hqz
  have hmad := fun (u : World) (x y : Value) (h1 : RdE u x (n * n) GP) (h2 : RdE u y (n * n) GQ) => Add_good n n T T x y GP GQ u hn hn (by omega) h1 h2 hpz hqz
  have hmmu := fun (u : World) (x y : Value) (h1 : RdE u x (n * n) GP) (h2 : RdE u y (n * n) GQ) => Mul_good n n n T T x y GP GQ u hn hn hn (by omega) h1 h2 hpz hqz
  obtain ⟨N, hN⟩ : ∃ N, N = n * n := ⟨_, rfl⟩
  have hax : ∀ q, q < N → flat n (pmS n (mtx n A) xE (szE xE 2)) q = A q := fun q hq => at_x A (by rw [← hN]; exact hq)
  obtain ⟨sp, hsp⟩ : ∃ sp, sp = szE E la := ⟨_, rfl⟩
  obtain ⟨sq, hsq⟩ : ∃ sq, sq = szE F lb := ⟨_, rfl⟩
  rw [← hN] at hK4
  rw [← hsp] at hsa hsz
  rw [← hsq] at hsb hsz
  simp only [← hN] at hrf hcy hle hatx hap haq hats hatm hatl hprd hmad hmmu ⊢
  simp only [← hsp] at htp hmul
  simp only [← hsq] at htq hmul
  have hba := bl_alloc w (.cells #[.int .i64 n, .int .i64 n, .slice a N cap] 24)
  have hbx := MBox.new w n n (.slice a N cap)
  obtain ⟨GX, hGX⟩ : ∃ GX, GX = flat n (pmS n (mtx n A) xE (szE xE 2)) := ⟨_, rfl⟩
  simp only [← hGX] at hatx hax
  have HRF := Lib.hid hrf
  have HCY := Lib.hid hcy
  have HLE := Lib.hid hle
  have HATX := Lib.hid hatx
  have HTP := Lib.hid htp
  have HTQ := Lib.hid htq
  have HAX := Lib.hid hax
  have HB := Lib.hid hba
  have HM := Lib.hid hbx
  have HAP := Lib.hid hap
  have HAQ := Lib.hid haq
  have HADD := Lib.hid hadd
  have HATS := Lib.hid hats
  have HMLP := Lib.hid hmlp
  have HATM0 := Lib.hid hatm
  have HATL0 := Lib.hid hatl
  have HSUM := Lib.hid hsum
  have HPRD := Lib.hid hprd
  have HMAD := Lib.hid hmad
  have HMMU := Lib.hid hmmu
  have HLM := Lib.hid hmul
  have v2 : IntKind.i64.wrap ((sq : Int) - 1) = (sq : Int) - 1 := IntWalk.i64_in _ (by omega)
  clear hpz hqz haz hmz hap haq hadd hats hmlp hatm hatl hsum hprd hmad hmmu hmul hasz hGP hGQ hL hZ hGS hGM hT
  have x0 := hbx.m0
  have x1 := hbx.m1
  have x2 := hbx.m2
  have v1 : IntKind.i64.wrap ((sp : Int) - 1) = (sp : Int) - 1 := IntWalk.i64_in _ (by omega)
  clear hr hA hp hq hE hF hrf hcy hle hatx htp htq hax hba hbx hN hsp hsq hGX
  go_enter Try.func7, Try.ntmps7
  go_upto_region 1 with fail
  generalize w.alloc (.cells #[.int .i64 n, .int .i64 n, .slice a N cap] 24) = W at *
  go_wp2_with fail
  (refine (HRF.out W HB.out).mono ?_)
  rintro e w1 ⟨rfl, hbo⟩
  replace HM := Lib.hid (HM.out.below hbo)
  replace HB := Lib.hid (below_via HB.out hbo)
  clear hbo HRF x0 x1 x2
  go_wp2_with fail
  (refine (awake16_any w1).mono ?_)
  rintro e w2 ⟨rfl, hbo⟩
  replace HM := Lib.hid (HM.out.below hbo)
  replace HB := Lib.hid (below_via HB.out hbo)
  clear hbo
  go_upto_region 4 with fail
  go_cut [9, 10] (fun v8 v9 wx => ∃ q l9 : Nat, v8 = .pointer (some ⟨q, 0, none⟩) ∧ v9 = .int .i64 0 ∧ MatV wx q n N (.slice (some ⟨l9, 0, none⟩) N N) GX ∧ Below w2.heap.size w2 wx)
  case first =>
    have x0 := HM.out.m0
    have x1 := HM.out.m1
    have x2 := HM.out.m2
    have hSK : ∀ u, Below w2.heap.size w2 u → (u.cell? ⟨w.heap.size, 0, none⟩ = some (.int .i64 n) ∧ u.cell? ⟨w.heap.size, 1, none⟩ = some (.int .i64 n) ∧ u.cell? ⟨w.heap.size, 2, none⟩ = some (.slice a N cap)) := fun u hu => ⟨cell_stays hu x0, cell_stays hu x1, cell_stays hu x2⟩
    have HSK := Lib.hid hSK
    clear hSK
    refine region_early (fun u => u.cell? ⟨w.heap.size, 0, none⟩ = some (.int .i64 n) ∧ u.cell? ⟨w.heap.size, 1, none⟩ = some (.int .i64 n) ∧ u.cell? ⟨w.heap.size, 2, none⟩ = some (.slice a N cap)) 9 [0, 3] 9 hmix (by kernel_rfl) rfl (by kernel_rfl) (fun _ _ d _ _ h => by cases d <;> exact h) ⟨x0, x1, x2⟩ ?_
    iterate 2 (refine early_take rfl (by rfl) ?_; apply Exists.intro; refine ⟨fun u hu => ?_, ?_⟩; (obtain ⟨u_1, u_2, u_3⟩ := hu; go_simp; rfl); simp only [Act.put, List.getElem_toArray, List.getElem_cons_zero, List.getElem_cons_succ, List.setIfInBounds_toArray, List.set_cons_zero, List.set_cons_succ])
    refine early_done ?_
    simp only [marked]
    clear x0 x1 x2
    have HBW := Lib.hid (bl_drew w2)
    refine anyL_two (i := 1) (j := 8) (by kernel_rfl) rfl (by rfl) rfl (by rfl) (fun J hJ => ?_) (fun J hJ => ?_)
    · go_simp
      refine (of16_any 1 w2.drew).mono ?_
      rintro e ub ⟨b0, rfl, hc0, -, -, hbo⟩
      replace HBW := Lib.hid (below_via HBW.out hbo)
      have HC0 := Lib.hid hc0
      refine hJ _ _ (fun _ => HSK.out _ HBW.out) ?_
      clear hJ J hbo hc0
      refine anyL_two (i := 2) (j := 8) (by kernel_rfl) rfl (by rfl) rfl (by rfl) (fun J hJ => ?_) (fun J hJ => ?_)
      · go_simp
        have hbo := bl_alloc ub (.cells #[.bool false, .slice none 0 0, .bool false, .slice (some ⟨b0, 0, none⟩) 1 1] 49)
        have HLI := Lib.hid (rde_two ub b0 (rdz_word ub b0 1 (by omega) (by omega) HC0.out))
        replace HBW := Lib.hid (below_via HBW.out hbo)
        obtain ⟨lb0, hlb0⟩ : ∃ lb0, lb0 = ub.heap.size := ⟨_, rfl⟩
        rw [← hlb0] at HLI ⊢
        clear hlb0
        generalize hww : ub.alloc (.cells #[.bool false, .slice none 0 0, .bool false, .slice (some ⟨b0, 0, none⟩) 1 1] 49) = ubc at *
        clear hww
        refine hJ _ _ (fun _ => HSK.out _ HBW.out) ?_
        clear hJ J hbo HC0
        refine anyL_two (i := 4) (j := 8) (by kernel_rfl) rfl (by rfl) rfl (by rfl) (fun J hJ => ?_) (fun J hJ => ?_)
        · go_simp
          refine (HATX.out ubc _ (HB.out.trans (HBW.out.mono HB.out.size)) HLI.out).mono ?_
          rintro e ubce ⟨l9, rfl, hf, hbo⟩
          have HF := Lib.hid hf
          replace HBW := Lib.hid (below_via HBW.out hbo)
          refine hJ _ _ (fun _ => HSK.out _ HBW.out) ?_
          clear hJ J hbo hf HLI
          refine anyL_yield (i := 5) rfl (by kernel_rfl) (by kernel_rfl) (by kernel_rfl) (by kernel_rfl) (fun _ _ d _ _ h => by cases d <;> exact h) (by rfl) (HSK.out _ HBW.out) ?_
          apply Exists.intro
          refine ⟨fun u => ?_, ?_⟩
          · go_simp
            rfl
          simp only [Act.put, List.getElem_toArray, List.getElem_cons_zero, List.getElem_cons_succ, List.setIfInBounds_toArray, List.set_cons_zero, List.set_cons_succ]
          refine anyL_yield (i := 6) rfl (by kernel_rfl) (by kernel_rfl) (by kernel_rfl) (by kernel_rfl) (fun _ _ d _ _ h => by cases d <;> exact h) (by rfl) (HSK.out _ HBW.out) ?_
          apply Exists.intro
          refine ⟨fun u => ?_, ?_⟩
          · go_simp
            rfl
          simp only [Act.put, List.getElem_toArray, List.getElem_cons_zero, List.getElem_cons_succ, List.setIfInBounds_toArray, List.set_cons_zero, List.set_cons_succ]
          refine anyL_yield (i := 7) rfl (by kernel_rfl) (by kernel_rfl) (by kernel_rfl) (by kernel_rfl) (fun _ _ d _ _ h => by cases d <;> exact h) (by rfl) (HSK.out _ HBW.out) ?_
          apply Exists.intro
          refine ⟨fun u => ?_, ?_⟩
          · go_simp
            rfl
          simp only [Act.put, List.getElem_toArray, List.getElem_cons_zero, List.getElem_cons_succ, List.setIfInBounds_toArray, List.set_cons_zero, List.set_cons_succ]
          refine anyL_one (i := 8) (by kernel_rfl) rfl (by rfl) fun J hJ => ?_
          go_simp
          have hbo : Below ubce.heap.size ubce (ubce.alloc (.cells #[.int .i64 0, .int .i64 0, .slice none 0 0] 24)) := bl_alloc ubce (.cells #[.int .i64 0, .int .i64 0, .slice none 0 0] 24)
          have HQ := Lib.hid (show MBox (ubce.alloc (.cells #[.int .i64 0, .int .i64 0, .slice none 0 0] 24)) ubce.heap.size 0 0 (.slice none 0 0) from MBox.new ubce 0 0 (.slice none 0 0))
          have hqs : w2.heap.size ≤ ubce.heap.size := HBW.out.size
          replace HBW := Lib.hid (below_via HBW.out hbo)
          have hl9 := HF.out.lt
          have HNE := Lib.hid (show l9 ≠ ubce.heap.size by omega)
          have HP := Lib.hid ((HF.out.turnD (D' := fun b => b ≤ l9 ∨ b = ubce.heap.size) (fun b hb hn hd => hd.elim hn (fun e => by omega))).below hbo)
          clear hl9 HF
          obtain ⟨q, hq⟩ : ∃ q, q = ubce.heap.size := ⟨_, rfl⟩
          have HQW := Lib.hid (show w2.heap.size ≤ q by omega)
          rw [← hq] at HQ HNE HP ⊢
          clear hq hqs
          generalize hww : ubce.alloc (.cells #[.int .i64 0, .int .i64 0, .slice none 0 0] 24) = ubcei at *
          clear hww
          refine hJ _ _ (fun _ => HSK.out _ HBW.out) ?_
          clear hJ J hbo
          have z0 := HQ.out.m0
          have z1 := HQ.out.m1
          have z2 := HQ.out.m2
          have y0 := HQ.out.f0
          have y1 := HQ.out.f1
          have y2 := HQ.out.f2
          refine anyL_one (i := 9) (by kernel_rfl) rfl (by rfl) fun J hJ => ?_
          go_simp
          refine hJ _ _ (fun e => absurd e (by decide)) ?_
          clear hJ J
          refine anyL_one (i := 10) (by kernel_rfl) rfl (by rfl) fun J hJ => ?_
          go_simp
          refine hJ _ _ (fun e => absurd e (by decide)) ?_
          clear hJ J
          refine anyL_done (by kernel_rfl) ?_ _
          go_wp2_with fail
          go_meet
          have hg := stored3_gb ubcei q (.int .i64 n) (.int .i64 n) (.slice (some ⟨l9, 0, none⟩) N N)
          exact ⟨q, l9, rfl, rfl, ⟨HQ.out.store (r' := n) (c' := n) (v' := .slice (some ⟨l9, 0, none⟩) N N), (HP.out.grown hg HNE.out (Or.inr rfl)).lee (Nat.le_refl _) (Nat.le_refl _) (by omega)⟩, HBW.out.grown hg HBW.out.size (fun k hk => by injection hk with hk; have := HQW.out; omega)⟩
        · go_simp
          have hbo : Below ubc.heap.size ubc (ubc.alloc (.cells #[.int .i64 0, .int .i64 0, .slice none 0 0] 24)) := bl_alloc ubc (.cells #[.int .i64 0, .int .i64 0, .slice none 0 0] 24)
          have HQ := Lib.hid (show MBox (ubc.alloc (.cells #[.int .i64 0, .int .i64 0, .slice none 0 0] 24)) ubc.heap.size 0 0 (.slice none 0 0) from MBox.new ubc 0 0 (.slice none 0 0))
          have hqs : w2.heap.size ≤ ubc.heap.size := HBW.out.size
          replace HBW := Lib.hid (below_via HBW.out hbo)
          replace HLI := Lib.hid (HLI.out.below hbo)
          obtain ⟨q, hq⟩ : ∃ q, q = ubc.heap.size := ⟨_, rfl⟩
          have HQW := Lib.hid (show w2.heap.size ≤ q by omega)
          rw [← hq] at HQ ⊢
          clear hq hqs
          generalize hww : ubc.alloc (.cells #[.int .i64 0, .int .i64 0, .slice none 0 0] 24) = ubci at *
          clear hww
          refine hJ _ _ (fun _ => HSK.out _ HBW.out) ?_
          clear hJ J hbo
          refine anyL_one (i := 4) (by kernel_rfl) rfl (by rfl) fun J hJ => ?_
          go_simp
          refine (HATX.out ubci _ (HB.out.trans (HBW.out.mono HB.out.size)) HLI.out).mono ?_
          rintro e ubcie ⟨l9, rfl, hf, hbo⟩
          have hqq := World.block_lt_of_cell? ubci _ HQ.out.m0
          have hqq : q < ubci.heap.size := hqq
          have hfo := hf.own
          have HNE := Lib.hid (show l9 ≠ q by omega)
          have HP := Lib.hid (hf.turnD (D' := fun b => b ≤ l9 ∨ b = q) (fun b hb hn hd => hd.elim hn (fun e => hn (by omega))))
          clear hqq hfo
          replace HBW := Lib.hid (below_via HBW.out hbo)
          replace HQ := Lib.hid (HQ.out.below hbo)
          refine hJ _ _ (fun _ => HSK.out _ HBW.out) ?_
          clear hJ J hbo hf HLI
          refine anyL_yield (i := 5) rfl (by kernel_rfl) (by kernel_rfl) (by kernel_rfl) (by kernel_rfl) (fun _ _ d _ _ h => by cases d <;> exact h) (by rfl) (HSK.out _ HBW.out) ?_
          apply Exists.intro
          refine ⟨fun u => ?_, ?_⟩
          · go_simp
            rfl
          simp only [Act.put, List.getElem_toArray, List.getElem_cons_zero, List.getElem_cons_succ, List.setIfInBounds_toArray, List.set_cons_zero, List.set_cons_succ]
          refine anyL_yield (i := 6) rfl (by kernel_rfl) (by kernel_rfl) (by kernel_rfl) (by kernel_rfl) (fun _ _ d _ _ h => by cases d <;> exact h) (by rfl) (HSK.out _ HBW.out) ?_
          apply Exists.intro
          refine ⟨fun u => ?_, ?_⟩
          · go_simp
            rfl
          simp only [Act.put, List.getElem_toArray, List.getElem_cons_zero, List.getElem_cons_succ, List.setIfInBounds_toArray, List.set_cons_zero, List.set_cons_succ]
          refine anyL_yield (i := 7) rfl (by kernel_rfl) (by kernel_rfl) (by kernel_rfl) (by kernel_rfl) (fun _ _ d _ _ h => by cases d <;> exact h) (by rfl) (HSK.out _ HBW.out) ?_
          apply Exists.intro
          refine ⟨fun u => ?_, ?_⟩
          · go_simp
            rfl
          simp only [Act.put, List.getElem_toArray, List.getElem_cons_zero, List.getElem_cons_succ, List.setIfInBounds_toArray, List.set_cons_zero, List.set_cons_succ]
          have z0 := HQ.out.m0
          have z1 := HQ.out.m1
          have z2 := HQ.out.m2
          have y0 := HQ.out.f0
          have y1 := HQ.out.f1
          have y2 := HQ.out.f2
          refine anyL_one (i := 9) (by kernel_rfl) rfl (by rfl) fun J hJ => ?_
          go_simp
          refine hJ _ _ (fun e => absurd e (by decide)) ?_
          clear hJ J
          refine anyL_one (i := 10) (by kernel_rfl) rfl (by rfl) fun J hJ => ?_
          go_simp
          refine hJ _ _ (fun e => absurd e (by decide)) ?_
          clear hJ J
          refine anyL_done (by kernel_rfl) ?_ _
          go_wp2_with fail
          go_meet
          have hg := stored3_gb ubcie q (.int .i64 n) (.int .i64 n) (.slice (some ⟨l9, 0, none⟩) N N)
          exact ⟨q, l9, rfl, rfl, ⟨HQ.out.store (r' := n) (c' := n) (v' := .slice (some ⟨l9, 0, none⟩) N N), (HP.out.grown hg HNE.out (Or.inr rfl)).lee (Nat.le_refl _) (Nat.le_refl _) (by omega)⟩, HBW.out.grown hg HBW.out.size (fun k hk => by injection hk with hk; have := HQW.out; omega)⟩
      · go_simp
        have hbo : Below ub.heap.size ub (ub.alloc (.cells #[.int .i64 0, .int .i64 0, .slice none 0 0] 24)) := bl_alloc ub (.cells #[.int .i64 0, .int .i64 0, .slice none 0 0] 24)
        have HQ := Lib.hid (show MBox (ub.alloc (.cells #[.int .i64 0, .int .i64 0, .slice none 0 0] 24)) ub.heap.size 0 0 (.slice none 0 0) from MBox.new ub 0 0 (.slice none 0 0))
        have hqs : w2.heap.size ≤ ub.heap.size := HBW.out.size
        replace HBW := Lib.hid (below_via HBW.out hbo)
        replace HC0 := Lib.hid (cell_stays hbo HC0.out)
        obtain ⟨q, hq⟩ : ∃ q, q = ub.heap.size := ⟨_, rfl⟩
        have HQW := Lib.hid (show w2.heap.size ≤ q by omega)
        rw [← hq] at HQ ⊢
        clear hq hqs
        generalize hww : ub.alloc (.cells #[.int .i64 0, .int .i64 0, .slice none 0 0] 24) = ubi at *
        clear hww
        refine hJ _ _ (fun _ => HSK.out _ HBW.out) ?_
        clear hJ J hbo
        refine anyL_one (i := 2) (by kernel_rfl) rfl (by rfl) fun J hJ => ?_
        go_simp
        have hbo := bl_alloc ubi (.cells #[.bool false, .slice none 0 0, .bool false, .slice (some ⟨b0, 0, none⟩) 1 1] 49)
        have HLI := Lib.hid (rde_two ubi b0 (rdz_word ubi b0 1 (by omega) (by omega) HC0.out))
        replace HBW := Lib.hid (below_via HBW.out hbo)
        replace HQ := Lib.hid (HQ.out.below hbo)
        obtain ⟨lb0, hlb0⟩ : ∃ lb0, lb0 = ubi.heap.size := ⟨_, rfl⟩
        rw [← hlb0] at HLI ⊢
        clear hlb0
        generalize hww : ubi.alloc (.cells #[.bool false, .slice none 0 0, .bool false, .slice (some ⟨b0, 0, none⟩) 1 1] 49) = ubic at *
        clear hww
        refine hJ _ _ (fun _ => HSK.out _ HBW.out) ?_
        clear hJ J hbo HC0
        refine anyL_one (i := 4) (by kernel_rfl) rfl (by rfl) fun J hJ => ?_
        go_simp
        refine (HATX.out ubic _ (HB.out.trans (HBW.out.mono HB.out.size)) HLI.out).mono ?_
        rintro e ubice ⟨l9, rfl, hf, hbo⟩
        have hqq := World.block_lt_of_cell? ubic _ HQ.out.m0
        have hqq : q < ubic.heap.size := hqq
        have hfo := hf.own
        have HNE := Lib.hid (show l9 ≠ q by omega)
        have HP := Lib.hid (hf.turnD (D' := fun b => b ≤ l9 ∨ b = q) (fun b hb hn hd => hd.elim hn (fun e => hn (by omega))))
        clear hqq hfo
        replace HBW := Lib.hid (below_via HBW.out hbo)
        replace HQ := Lib.hid (HQ.out.below hbo)
        refine hJ _ _ (fun _ => HSK.out _ HBW.out) ?_
        clear hJ J hbo hf HLI
        refine anyL_yield (i := 5) rfl (by kernel_rfl) (by kernel_rfl) (by kernel_rfl) (by kernel_rfl) (fun _ _ d _ _ h => by cases d <;> exact h) (by rfl) (HSK.out _ HBW.out) ?_
        apply Exists.intro
        refine ⟨fun u => ?_, ?_⟩
        · go_simp
          rfl
        simp only [Act.put, List.getElem_toArray, List.getElem_cons_zero, List.getElem_cons_succ, List.setIfInBounds_toArray, List.set_cons_zero, List.set_cons_succ]
        refine anyL_yield (i := 6) rfl (by kernel_rfl) (by kernel_rfl) (by kernel_rfl) (by kernel_rfl) (fun _ _ d _ _ h => by cases d <;> exact h) (by rfl) (HSK.out _ HBW.out) ?_
        apply Exists.intro
        refine ⟨fun u => ?_, ?_⟩
        · go_simp
          rfl
        simp only [Act.put, List.getElem_toArray, List.getElem_cons_zero, List.getElem_cons_succ, List.setIfInBounds_toArray, List.set_cons_zero, List.set_cons_succ]
        refine anyL_yield (i := 7) rfl (by kernel_rfl) (by kernel_rfl) (by kernel_rfl) (by kernel_rfl) (fun _ _ d _ _ h => by cases d <;> exact h) (by rfl) (HSK.out _ HBW.out) ?_
        apply Exists.intro
        refine ⟨fun u => ?_, ?_⟩
        · go_simp
          rfl
        simp only [Act.put, List.getElem_toArray, List.getElem_cons_zero, List.getElem_cons_succ, List.setIfInBounds_toArray, List.set_cons_zero, List.set_cons_succ]
        have z0 := HQ.out.m0
        have z1 := HQ.out.m1
        have z2 := HQ.out.m2
        have y0 := HQ.out.f0
        have y1 := HQ.out.f1
        have y2 := HQ.out.f2
        refine anyL_one (i := 9) (by kernel_rfl) rfl (by rfl) fun J hJ => ?_
        go_simp
        refine hJ _ _ (fun e => absurd e (by decide)) ?_
        clear hJ J
        refine anyL_one (i := 10) (by kernel_rfl) rfl (by rfl) fun J hJ => ?_
        go_simp
        refine hJ _ _ (fun e => absurd e (by decide)) ?_
        clear hJ J
        refine anyL_done (by kernel_rfl) ?_ _
        go_wp2_with fail
        go_meet
        have hg := stored3_gb ubice q (.int .i64 n) (.int .i64 n) (.slice (some ⟨l9, 0, none⟩) N N)
        exact ⟨q, l9, rfl, rfl, ⟨HQ.out.store (r' := n) (c' := n) (v' := .slice (some ⟨l9, 0, none⟩) N N), (HP.out.grown hg HNE.out (Or.inr rfl)).lee (Nat.le_refl _) (Nat.le_refl _) (by omega)⟩, HBW.out.grown hg HBW.out.size (fun k hk => by injection hk with hk; have := HQW.out; omega)⟩
    · go_simp
      have hbo : Below w2.drew.heap.size w2.drew ((w2.alloc (.cells #[.int .i64 0, .int .i64 0, .slice none 0 0] 24)).drew) := bl_alloc w2.drew (.cells #[.int .i64 0, .int .i64 0, .slice none 0 0] 24)
      have HQ := Lib.hid (show MBox ((w2.alloc (.cells #[.int .i64 0, .int .i64 0, .slice none 0 0] 24)).drew) w2.heap.size 0 0 (.slice none 0 0) from MBox.new w2.drew 0 0 (.slice none 0 0))
      have hqs : w2.heap.size ≤ w2.heap.size := HBW.out.size
      replace HBW := Lib.hid (below_via HBW.out hbo)
      obtain ⟨q, hq⟩ : ∃ q, q = w2.heap.size := ⟨_, rfl⟩
      have HQW := Lib.hid (show w2.heap.size ≤ q by omega)
      rw [← hq] at HQ ⊢
      clear hq hqs
      generalize hww : (w2.alloc (.cells #[.int .i64 0, .int .i64 0, .slice none 0 0] 24)).drew = ui at *
      clear hww
      refine hJ _ _ (fun _ => HSK.out _ HBW.out) ?_
      clear hJ J hbo
      refine anyL_one (i := 1) (by kernel_rfl) rfl (by rfl) fun J hJ => ?_
      go_simp
      refine (of16_any 1 ui).mono ?_
      rintro e uib ⟨b0, rfl, hc0, -, -, hbo⟩
      replace HBW := Lib.hid (below_via HBW.out hbo)
      replace HQ := Lib.hid (HQ.out.below hbo)
      have HC0 := Lib.hid hc0
      refine hJ _ _ (fun _ => HSK.out _ HBW.out) ?_
      clear hJ J hbo hc0
      refine anyL_one (i := 2) (by kernel_rfl) rfl (by rfl) fun J hJ => ?_
      go_simp
      have hbo := bl_alloc uib (.cells #[.bool false, .slice none 0 0, .bool false, .slice (some ⟨b0, 0, none⟩) 1 1] 49)
      have HLI := Lib.hid (rde_two uib b0 (rdz_word uib b0 1 (by omega) (by omega) HC0.out))
      replace HBW := Lib.hid (below_via HBW.out hbo)
      replace HQ := Lib.hid (HQ.out.below hbo)
      obtain ⟨lb0, hlb0⟩ : ∃ lb0, lb0 = uib.heap.size := ⟨_, rfl⟩
      rw [← hlb0] at HLI ⊢
      clear hlb0
      generalize hww : uib.alloc (.cells #[.bool false, .slice none 0 0, .bool false, .slice (some ⟨b0, 0, none⟩) 1 1] 49) = uibc at *
      clear hww
      refine hJ _ _ (fun _ => HSK.out _ HBW.out) ?_
      clear hJ J hbo HC0
      refine anyL_one (i := 4) (by kernel_rfl) rfl (by rfl) fun J hJ => ?_
      go_simp
      refine (HATX.out uibc _ (HB.out.trans (HBW.out.mono HB.out.size)) HLI.out).mono ?_
      rintro e uibce ⟨l9, rfl, hf, hbo⟩
      have hqq := World.block_lt_of_cell? uibc _ HQ.out.m0
      have hqq : q < uibc.heap.size := hqq
      have hfo := hf.own
      have HNE := Lib.hid (show l9 ≠ q by omega)
      have HP := Lib.hid (hf.turnD (D' := fun b => b ≤ l9 ∨ b = q) (fun b hb hn hd => hd.elim hn (fun e => hn (by omega))))
      clear hqq hfo
      replace HBW := Lib.hid (below_via HBW.out hbo)
      replace HQ := Lib.hid (HQ.out.below hbo)
      refine hJ _ _ (fun _ => HSK.out _ HBW.out) ?_
      clear hJ J hbo hf HLI
      refine anyL_yield (i := 5) rfl (by kernel_rfl) (by kernel_rfl) (by kernel_rfl) (by kernel_rfl) (fun _ _ d _ _ h => by cases d <;> exact h) (by rfl) (HSK.out _ HBW.out) ?_
      apply Exists.intro
      refine ⟨fun u => ?_, ?_⟩
      · go_simp
        rfl
      simp only [Act.put, List.getElem_toArray, List.getElem_cons_zero, List.getElem_cons_succ, List.setIfInBounds_toArray, List.set_cons_zero, List.set_cons_succ]
      refine anyL_yield (i := 6) rfl (by kernel_rfl) (by kernel_rfl) (by kernel_rfl) (by kernel_rfl) (fun _ _ d _ _ h => by cases d <;> exact h) (by rfl) (HSK.out _ HBW.out) ?_
      apply Exists.intro
      refine ⟨fun u => ?_, ?_⟩
      · go_simp
        rfl
      simp only [Act.put, List.getElem_toArray, List.getElem_cons_zero, List.getElem_cons_succ, List.setIfInBounds_toArray, List.set_cons_zero, List.set_cons_succ]
      refine anyL_yield (i := 7) rfl (by kernel_rfl) (by kernel_rfl) (by kernel_rfl) (by kernel_rfl) (fun _ _ d _ _ h => by cases d <;> exact h) (by rfl) (HSK.out _ HBW.out) ?_
      apply Exists.intro
      refine ⟨fun u => ?_, ?_⟩
      · go_simp
        rfl
      simp only [Act.put, List.getElem_toArray, List.getElem_cons_zero, List.getElem_cons_succ, List.setIfInBounds_toArray, List.set_cons_zero, List.set_cons_succ]
      have z0 := HQ.out.m0
      have z1 := HQ.out.m1
      have z2 := HQ.out.m2
      have y0 := HQ.out.f0
      have y1 := HQ.out.f1
      have y2 := HQ.out.f2
      refine anyL_one (i := 9) (by kernel_rfl) rfl (by rfl) fun J hJ => ?_
      go_simp
      refine hJ _ _ (fun e => absurd e (by decide)) ?_
      clear hJ J
      refine anyL_one (i := 10) (by kernel_rfl) rfl (by rfl) fun J hJ => ?_
      go_simp
      refine hJ _ _ (fun e => absurd e (by decide)) ?_
      clear hJ J
      refine anyL_done (by kernel_rfl) ?_ _
      go_wp2_with fail
      go_meet
      have hg := stored3_gb uibce q (.int .i64 n) (.int .i64 n) (.slice (some ⟨l9, 0, none⟩) N N)
      exact ⟨q, l9, rfl, rfl, ⟨HQ.out.store (r' := n) (c' := n) (v' := .slice (some ⟨l9, 0, none⟩) N N), (HP.out.grown hg HNE.out (Or.inr rfl)).lee (Nat.le_refl _) (Nat.le_refl _) (by omega)⟩, HBW.out.grown hg HBW.out.size (fun k hk => by injection hk with hk; have := HQW.out; omega)⟩
  case rest =>
  obtain ⟨q9, l9, rfl, rfl, hmv, hbo⟩ := hcut
  have HX9 := Lib.hid hmv
  replace HM := Lib.hid (HM.out.below hbo)
  replace HB := Lib.hid (below_via HB.out hbo)
  clear hbo hmv HATX
  have x0 := HM.out.m0
  have x1 := HM.out.m1
  have x2 := HM.out.m2
  go_wp2_with fail
  (refine (HLE.out _ HB.out).mono ?_)
  rintro e w3 ⟨l11, rfl, hf, hbo⟩
  clear x0 x1 x2
  have hmn := MatV.new (n := n) hf (by omega)
  have hbb := below_via hbo (bl_alloc w3 (.cells #[.int .i64 n, .int .i64 n, .slice (some ⟨l11, 0, none⟩) N N] 24))
  replace HM := Lib.hid (HM.out.below hbb)
  replace HX9 := Lib.hid (HX9.out.below hbb)
  replace HB := Lib.hid (below_via HB.out hbb)
  have HX11 := Lib.hid hmn
  clear hf hbo hmn hbb
  go_upto_region 6 with fail
  obtain ⟨q11, hqq⟩ : ∃ q, q = w3.heap.size := ⟨_, rfl⟩
  rw [← hqq] at HX11 ⊢
  clear hqq
  generalize w3.alloc (.cells #[.int .i64 n, .int .i64 n, .slice (some ⟨l11, 0, none⟩) N N] 24) = vw3 at *
  have a0 := HX9.out.m.m0
  have a1 := HX9.out.m.m1
  have a2 := HX9.out.m.m2
  have b0 := HX11.out.m.m0
  have b1 := HX11.out.m.m1
  have b2 := HX11.out.m.m2
  have HSM := Lib.hid (SameMat_yes n n _ _ N A vw3 (HX9.out.e.congr HAX.out) HX11.out.e)
  go_wp2_with fail
  (refine (HSM.out).mono ?_)
  rintro e w4 ⟨rfl, hbo⟩
  replace HM := Lib.hid (HM.out.below hbo)
  replace HB := Lib.hid (below_via HB.out hbo)
  clear hbo HSM HX9 HX11 HAX a0 a1 a2 b0 b1 b2
  have x0 := HM.out.m0
  have x1 := HM.out.m1
  have x2 := HM.out.m2
  go_wp2_with fail
  (refine (HCY.out w4 HB.out).mono ?_)
  rintro e w5 ⟨rfl, hbo⟩
  replace HM := Lib.hid (HM.out.below hbo)
  replace HB := Lib.hid (below_via HB.out hbo)
  clear hbo HCY x0 x1 x2
  have x0 := HM.out.m0
  have x1 := HM.out.m1
  have x2 := HM.out.m2
  go_wp2_with fail
  (refine (HAP.out w5 HB.out).mono ?_)
  rintro e w6 ⟨l13, rfl, hf, hbo⟩
  clear x0 x1 x2
  have hmn := MatV.new (n := n) hf (by omega)
  have hbb := below_via hbo (bl_alloc w6 (.cells #[.int .i64 n, .int .i64 n, .slice (some ⟨l13, 0, none⟩) N N] 24))
  replace HM := Lib.hid (HM.out.below hbb)
  replace HB := Lib.hid (below_via HB.out hbb)
  have HX13 := Lib.hid hmn
  clear hf hbo hmn hbb
  go_upto_region 9 with fail
  obtain ⟨q13, hqq⟩ : ∃ q, q = w6.heap.size := ⟨_, rfl⟩
  rw [← hqq] at HX13 ⊢
  clear hqq
  generalize w6.alloc (.cells #[.int .i64 n, .int .i64 n, .slice (some ⟨l13, 0, none⟩) N N] 24) = vw6 at *
  clear HAP
  have x0 := HM.out.m0
  have x1 := HM.out.m1
  have x2 := HM.out.m2
  go_wp2_with fail
  (refine (HAQ.out vw6 HB.out).mono ?_)
  rintro e w7 ⟨l14, rfl, hf, hbo⟩
  clear x0 x1 x2
  have hmn := MatV.new (n := n) hf (by omega)
  have hbb := below_via hbo (bl_alloc w7 (.cells #[.int .i64 n, .int .i64 n, .slice (some ⟨l14, 0, none⟩) N N] 24))
  replace HM := Lib.hid (HM.out.below hbb)
  replace HX13 := Lib.hid (HX13.out.below hbb)
  replace HB := Lib.hid (below_via HB.out hbb)
  have HX14 := Lib.hid hmn
  clear hf hbo hmn hbb
  go_upto_region 10 with fail
  obtain ⟨q14, hqq⟩ : ∃ q, q = w7.heap.size := ⟨_, rfl⟩
  rw [← hqq] at HX14 ⊢
  clear hqq
  generalize w7.alloc (.cells #[.int .i64 n, .int .i64 n, .slice (some ⟨l14, 0, none⟩) N N] 24) = vw7 at *
  clear HAQ
  go_wp2_with fail
  (refine (HTP.out vw7 HB.out).mono ?_)
  rintro e w8 ⟨lt, rfl, hf, hbo⟩
  replace HM := Lib.hid (HM.out.below hbo)
  replace HX13 := Lib.hid (HX13.out.below hbo)
  replace HX14 := Lib.hid (HX14.out.below hbo)
  replace HB := Lib.hid (below_via HB.out hbo)
  have HDG := Lib.hid (degree_any (some ⟨lt, 0, none⟩) sp sp (by omega) w8)
  clear hf hbo HTP
  go_wp2_with fail
  (refine (HDG.out).mono ?_)
  rintro e w8b ⟨rfl, rfl⟩
  clear HDG
  go_wp2_with fail
  (refine (HTQ.out w8 HB.out).mono ?_)
  rintro e w9 ⟨lt2, rfl, hf, hbo⟩
  replace HM := Lib.hid (HM.out.below hbo)
  replace HX13 := Lib.hid (HX13.out.below hbo)
  replace HX14 := Lib.hid (HX14.out.below hbo)
  replace HB := Lib.hid (below_via HB.out hbo)
  have HDG := Lib.hid (degree_any (some ⟨lt2, 0, none⟩) sq sq (by omega) w9)
  clear hf hbo HTQ
  go_wp2_with fail
  (refine (HDG.out).mono ?_)
  rintro e w9b ⟨rfl, rfl⟩
  clear HDG
  have g1 : ¬ (256 : Int) < (sp : Int) - 1 := by have := hsz.1; omega
  have g2 : ¬ (256 : Int) < (sq : Int) - 1 := by have := hsz.2; omega
  go_upto_region 14 with fail
  go_cut [18, 19] (fun v8 v9 wx => ∃ q l9 : Nat, v8 = .pointer (some ⟨q, 0, none⟩) ∧ v9 = .int .i64 0 ∧ MatV wx q n N (.slice (some ⟨l9, 0, none⟩) N N) GS ∧ Below w9.heap.size w9 wx)
  case first =>
    have x0 := HM.out.m0
    have x1 := HM.out.m1
    have x2 := HM.out.m2
    have hSK : ∀ u, Below w9.heap.size w9 u → (u.cell? ⟨w.heap.size, 0, none⟩ = some (.int .i64 n) ∧ u.cell? ⟨w.heap.size, 1, none⟩ = some (.int .i64 n) ∧ u.cell? ⟨w.heap.size, 2, none⟩ = some (.slice a N cap)) := fun u hu => ⟨cell_stays hu x0, cell_stays hu x1, cell_stays hu x2⟩
    have HSK := Lib.hid hSK
    clear hSK
    refine region_early (fun u => u.cell? ⟨w.heap.size, 0, none⟩ = some (.int .i64 n) ∧ u.cell? ⟨w.heap.size, 1, none⟩ = some (.int .i64 n) ∧ u.cell? ⟨w.heap.size, 2, none⟩ = some (.slice a N cap)) 9 [0, 1, 3] 8 hmix (by kernel_rfl) rfl (by kernel_rfl) (fun _ _ d _ _ h => by cases d <;> exact h) ⟨x0, x1, x2⟩ ?_
    iterate 3 (refine early_take rfl (by rfl) ?_; apply Exists.intro; refine ⟨fun u hu => ?_, ?_⟩; (obtain ⟨u_1, u_2, u_3⟩ := hu; go_simp; rfl); simp only [Act.put, List.getElem_toArray, List.getElem_cons_zero, List.getElem_cons_succ, List.setIfInBounds_toArray, List.set_cons_zero, List.set_cons_succ])
    refine early_done ?_
    simp only [marked]
    clear x0 x1 x2
    have HBW := Lib.hid (bl_drew w9)
    refine anyL_two (i := 2) (j := 8) (by kernel_rfl) rfl (by rfl) rfl (by rfl) (fun J hJ => ?_) (fun J hJ => ?_)
    · go_simp
      refine (HADD.out w9.drew (HB.out.trans (HBW.out.mono HB.out.size))).mono ?_
      rintro e uc ⟨vl, rfl, hli, hbo⟩
      obtain ⟨al, cl, rfl, -⟩ := hli.slice
      replace HBW := Lib.hid (below_via HBW.out hbo)
      have HLI := Lib.hid hli.rd
      refine hJ _ _ (fun _ => HSK.out _ HBW.out) ?_
      clear hJ J hbo hli
      refine anyL_two (i := 4) (j := 8) (by kernel_rfl) rfl (by rfl) rfl (by rfl) (fun J hJ => ?_) (fun J hJ => ?_)
      · go_simp
        refine (HATS.out uc _ (HB.out.trans (HBW.out.mono HB.out.size)) HLI.out).mono ?_
        rintro e uce ⟨l9, rfl, hf, hbo⟩
        have HF := Lib.hid hf
        replace HBW := Lib.hid (below_via HBW.out hbo)
        refine hJ _ _ (fun _ => HSK.out _ HBW.out) ?_
        clear hJ J hbo hf HLI
        refine anyL_yield (i := 5) rfl (by kernel_rfl) (by kernel_rfl) (by kernel_rfl) (by kernel_rfl) (fun _ _ d _ _ h => by cases d <;> exact h) (by rfl) (HSK.out _ HBW.out) ?_
        apply Exists.intro
        refine ⟨fun u => ?_, ?_⟩
        · go_simp
          rfl
        simp only [Act.put, List.getElem_toArray, List.getElem_cons_zero, List.getElem_cons_succ, List.setIfInBounds_toArray, List.set_cons_zero, List.set_cons_succ]
        refine anyL_yield (i := 6) rfl (by kernel_rfl) (by kernel_rfl) (by kernel_rfl) (by kernel_rfl) (fun _ _ d _ _ h => by cases d <;> exact h) (by rfl) (HSK.out _ HBW.out) ?_
        apply Exists.intro
        refine ⟨fun u => ?_, ?_⟩
        · go_simp
          rfl
        simp only [Act.put, List.getElem_toArray, List.getElem_cons_zero, List.getElem_cons_succ, List.setIfInBounds_toArray, List.set_cons_zero, List.set_cons_succ]
        refine anyL_yield (i := 7) rfl (by kernel_rfl) (by kernel_rfl) (by kernel_rfl) (by kernel_rfl) (fun _ _ d _ _ h => by cases d <;> exact h) (by rfl) (HSK.out _ HBW.out) ?_
        apply Exists.intro
        refine ⟨fun u => ?_, ?_⟩
        · go_simp
          rfl
        simp only [Act.put, List.getElem_toArray, List.getElem_cons_zero, List.getElem_cons_succ, List.setIfInBounds_toArray, List.set_cons_zero, List.set_cons_succ]
        refine anyL_one (i := 8) (by kernel_rfl) rfl (by rfl) fun J hJ => ?_
        go_simp
        have hbo : Below uce.heap.size uce (uce.alloc (.cells #[.int .i64 0, .int .i64 0, .slice none 0 0] 24)) := bl_alloc uce (.cells #[.int .i64 0, .int .i64 0, .slice none 0 0] 24)
        have HQ := Lib.hid (show MBox (uce.alloc (.cells #[.int .i64 0, .int .i64 0, .slice none 0 0] 24)) uce.heap.size 0 0 (.slice none 0 0) from MBox.new uce 0 0 (.slice none 0 0))
        have hqs : w9.heap.size ≤ uce.heap.size := HBW.out.size
        replace HBW := Lib.hid (below_via HBW.out hbo)
        have hl9 := HF.out.lt
        have HNE := Lib.hid (show l9 ≠ uce.heap.size by omega)
        have HP := Lib.hid ((HF.out.turnD (D' := fun b => b ≤ l9 ∨ b = uce.heap.size) (fun b hb hn hd => hd.elim hn (fun e => by omega))).below hbo)
        clear hl9 HF
        obtain ⟨q, hq⟩ : ∃ q, q = uce.heap.size := ⟨_, rfl⟩
        have HQW := Lib.hid (show w9.heap.size ≤ q by omega)
        rw [← hq] at HQ HNE HP ⊢
        clear hq hqs
        generalize hww : uce.alloc (.cells #[.int .i64 0, .int .i64 0, .slice none 0 0] 24) = ucei at *
        clear hww
        refine hJ _ _ (fun _ => HSK.out _ HBW.out) ?_
        clear hJ J hbo
        have z0 := HQ.out.m0
        have z1 := HQ.out.m1
        have z2 := HQ.out.m2
        have y0 := HQ.out.f0
        have y1 := HQ.out.f1
        have y2 := HQ.out.f2
        refine anyL_one (i := 9) (by kernel_rfl) rfl (by rfl) fun J hJ => ?_
        go_simp
        refine hJ _ _ (fun e => absurd e (by decide)) ?_
        clear hJ J
        refine anyL_one (i := 10) (by kernel_rfl) rfl (by rfl) fun J hJ => ?_
        go_simp
        refine hJ _ _ (fun e => absurd e (by decide)) ?_
        clear hJ J
        refine anyL_done (by kernel_rfl) ?_ _
        go_wp2_with fail
        go_meet
        have hg := stored3_gb ucei q (.int .i64 n) (.int .i64 n) (.slice (some ⟨l9, 0, none⟩) N N)
        exact ⟨q, l9, rfl, rfl, ⟨HQ.out.store (r' := n) (c' := n) (v' := .slice (some ⟨l9, 0, none⟩) N N), (HP.out.grown hg HNE.out (Or.inr rfl)).lee (Nat.le_refl _) (Nat.le_refl _) (by omega)⟩, HBW.out.grown hg HBW.out.size (fun k hk => by injection hk with hk; have := HQW.out; omega)⟩
      · go_simp
        have hbo : Below uc.heap.size uc (uc.alloc (.cells #[.int .i64 0, .int .i64 0, .slice none 0 0] 24)) := bl_alloc uc (.cells #[.int .i64 0, .int .i64 0, .slice none 0 0] 24)
        have HQ := Lib.hid (show MBox (uc.alloc (.cells #[.int .i64 0, .int .i64 0, .slice none 0 0] 24)) uc.heap.size 0 0 (.slice none 0 0) from MBox.new uc 0 0 (.slice none 0 0))
        have hqs : w9.heap.size ≤ uc.heap.size := HBW.out.size
        replace HBW := Lib.hid (below_via HBW.out hbo)
        replace HLI := Lib.hid (HLI.out.below hbo)
        obtain ⟨q, hq⟩ : ∃ q, q = uc.heap.size := ⟨_, rfl⟩
        have HQW := Lib.hid (show w9.heap.size ≤ q by omega)
        rw [← hq] at HQ ⊢
        clear hq hqs
        generalize hww : uc.alloc (.cells #[.int .i64 0, .int .i64 0, .slice none 0 0] 24) = uci at *
        clear hww
        refine hJ _ _ (fun _ => HSK.out _ HBW.out) ?_
        clear hJ J hbo
        refine anyL_one (i := 4) (by kernel_rfl) rfl (by rfl) fun J hJ => ?_
        go_simp
        refine (HATS.out uci _ (HB.out.trans (HBW.out.mono HB.out.size)) HLI.out).mono ?_
        rintro e ucie ⟨l9, rfl, hf, hbo⟩
        have hqq := World.block_lt_of_cell? uci _ HQ.out.m0
        have hqq : q < uci.heap.size := hqq
        have hfo := hf.own
        have HNE := Lib.hid (show l9 ≠ q by omega)
        have HP := Lib.hid (hf.turnD (D' := fun b => b ≤ l9 ∨ b = q) (fun b hb hn hd => hd.elim hn (fun e => hn (by omega))))
        clear hqq hfo
        replace HBW := Lib.hid (below_via HBW.out hbo)
        replace HQ := Lib.hid (HQ.out.below hbo)
        refine hJ _ _ (fun _ => HSK.out _ HBW.out) ?_
        clear hJ J hbo hf HLI
        refine anyL_yield (i := 5) rfl (by kernel_rfl) (by kernel_rfl) (by kernel_rfl) (by kernel_rfl) (fun _ _ d _ _ h => by cases d <;> exact h) (by rfl) (HSK.out _ HBW.out) ?_
        apply Exists.intro
        refine ⟨fun u => ?_, ?_⟩
        · go_simp
          rfl
        simp only [Act.put, List.getElem_toArray, List.getElem_cons_zero, List.getElem_cons_succ, List.setIfInBounds_toArray, List.set_cons_zero, List.set_cons_succ]
        refine anyL_yield (i := 6) rfl (by kernel_rfl) (by kernel_rfl) (by kernel_rfl) (by kernel_rfl) (fun _ _ d _ _ h => by cases d <;> exact h) (by rfl) (HSK.out _ HBW.out) ?_
        apply Exists.intro
        refine ⟨fun u => ?_, ?_⟩
        · go_simp
          rfl
        simp only [Act.put, List.getElem_toArray, List.getElem_cons_zero, List.getElem_cons_succ, List.setIfInBounds_toArray, List.set_cons_zero, List.set_cons_succ]
        refine anyL_yield (i := 7) rfl (by kernel_rfl) (by kernel_rfl) (by kernel_rfl) (by kernel_rfl) (fun _ _ d _ _ h => by cases d <;> exact h) (by rfl) (HSK.out _ HBW.out) ?_
        apply Exists.intro
        refine ⟨fun u => ?_, ?_⟩
        · go_simp
          rfl
        simp only [Act.put, List.getElem_toArray, List.getElem_cons_zero, List.getElem_cons_succ, List.setIfInBounds_toArray, List.set_cons_zero, List.set_cons_succ]
        have z0 := HQ.out.m0
        have z1 := HQ.out.m1
        have z2 := HQ.out.m2
        have y0 := HQ.out.f0
        have y1 := HQ.out.f1
        have y2 := HQ.out.f2
        refine anyL_one (i := 9) (by kernel_rfl) rfl (by rfl) fun J hJ => ?_
        go_simp
        refine hJ _ _ (fun e => absurd e (by decide)) ?_
        clear hJ J
        refine anyL_one (i := 10) (by kernel_rfl) rfl (by rfl) fun J hJ => ?_
        go_simp
        refine hJ _ _ (fun e => absurd e (by decide)) ?_
        clear hJ J
        refine anyL_done (by kernel_rfl) ?_ _
        go_wp2_with fail
        go_meet
        have hg := stored3_gb ucie q (.int .i64 n) (.int .i64 n) (.slice (some ⟨l9, 0, none⟩) N N)
        exact ⟨q, l9, rfl, rfl, ⟨HQ.out.store (r' := n) (c' := n) (v' := .slice (some ⟨l9, 0, none⟩) N N), (HP.out.grown hg HNE.out (Or.inr rfl)).lee (Nat.le_refl _) (Nat.le_refl _) (by omega)⟩, HBW.out.grown hg HBW.out.size (fun k hk => by injection hk with hk; have := HQW.out; omega)⟩
    · go_simp
      have hbo : Below w9.drew.heap.size w9.drew ((w9.alloc (.cells #[.int .i64 0, .int .i64 0, .slice none 0 0] 24)).drew) := bl_alloc w9.drew (.cells #[.int .i64 0, .int .i64 0, .slice none 0 0] 24)
      have HQ := Lib.hid (show MBox ((w9.alloc (.cells #[.int .i64 0, .int .i64 0, .slice none 0 0] 24)).drew) w9.heap.size 0 0 (.slice none 0 0) from MBox.new w9.drew 0 0 (.slice none 0 0))
      have hqs : w9.heap.size ≤ w9.heap.size := HBW.out.size
      replace HBW := Lib.hid (below_via HBW.out hbo)
      obtain ⟨q, hq⟩ : ∃ q, q = w9.heap.size := ⟨_, rfl⟩
      have HQW := Lib.hid (show w9.heap.size ≤ q by omega)
      rw [← hq] at HQ ⊢
      clear hq hqs
      generalize hww : (w9.alloc (.cells #[.int .i64 0, .int .i64 0, .slice none 0 0] 24)).drew = ui at *
      clear hww
      refine hJ _ _ (fun _ => HSK.out _ HBW.out) ?_
      clear hJ J hbo
      refine anyL_one (i := 2) (by kernel_rfl) rfl (by rfl) fun J hJ => ?_
      go_simp
      refine (HADD.out ui (HB.out.trans (HBW.out.mono HB.out.size))).mono ?_
      rintro e uic ⟨vl, rfl, hli, hbo⟩
      obtain ⟨al, cl, rfl, -⟩ := hli.slice
      replace HBW := Lib.hid (below_via HBW.out hbo)
      replace HQ := Lib.hid (HQ.out.below hbo)
      have HLI := Lib.hid hli.rd
      refine hJ _ _ (fun _ => HSK.out _ HBW.out) ?_
      clear hJ J hbo hli
      refine anyL_one (i := 4) (by kernel_rfl) rfl (by rfl) fun J hJ => ?_
      go_simp
      refine (HATS.out uic _ (HB.out.trans (HBW.out.mono HB.out.size)) HLI.out).mono ?_
      rintro e uice ⟨l9, rfl, hf, hbo⟩
      have hqq := World.block_lt_of_cell? uic _ HQ.out.m0
      have hqq : q < uic.heap.size := hqq
      have hfo := hf.own
      have HNE := Lib.hid (show l9 ≠ q by omega)
      have HP := Lib.hid (hf.turnD (D' := fun b => b ≤ l9 ∨ b = q) (fun b hb hn hd => hd.elim hn (fun e => hn (by omega))))
      clear hqq hfo
      replace HBW := Lib.hid (below_via HBW.out hbo)
      replace HQ := Lib.hid (HQ.out.below hbo)
      refine hJ _ _ (fun _ => HSK.out _ HBW.out) ?_
      clear hJ J hbo hf HLI
      refine anyL_yield (i := 5) rfl (by kernel_rfl) (by kernel_rfl) (by kernel_rfl) (by kernel_rfl) (fun _ _ d _ _ h => by cases d <;> exact h) (by rfl) (HSK.out _ HBW.out) ?_
      apply Exists.intro
      refine ⟨fun u => ?_, ?_⟩
      · go_simp
        rfl
      simp only [Act.put, List.getElem_toArray, List.getElem_cons_zero, List.getElem_cons_succ, List.setIfInBounds_toArray, List.set_cons_zero, List.set_cons_succ]
      refine anyL_yield (i := 6) rfl (by kernel_rfl) (by kernel_rfl) (by kernel_rfl) (by kernel_rfl) (fun _ _ d _ _ h => by cases d <;> exact h) (by rfl) (HSK.out _ HBW.out) ?_
      apply Exists.intro
      refine ⟨fun u => ?_, ?_⟩
      · go_simp
        rfl
      simp only [Act.put, List.getElem_toArray, List.getElem_cons_zero, List.getElem_cons_succ, List.setIfInBounds_toArray, List.set_cons_zero, List.set_cons_succ]
      refine anyL_yield (i := 7) rfl (by kernel_rfl) (by kernel_rfl) (by kernel_rfl) (by kernel_rfl) (fun _ _ d _ _ h => by cases d <;> exact h) (by rfl) (HSK.out _ HBW.out) ?_
      apply Exists.intro
      refine ⟨fun u => ?_, ?_⟩
      · go_simp
        rfl
      simp only [Act.put, List.getElem_toArray, List.getElem_cons_zero, List.getElem_cons_succ, List.setIfInBounds_toArray, List.set_cons_zero, List.set_cons_succ]
      have z0 := HQ.out.m0
      have z1 := HQ.out.m1
      have z2 := HQ.out.m2
      have y0 := HQ.out.f0
      have y1 := HQ.out.f1
      have y2 := HQ.out.f2
      refine anyL_one (i := 9) (by kernel_rfl) rfl (by rfl) fun J hJ => ?_
      go_simp
      refine hJ _ _ (fun e => absurd e (by decide)) ?_
      clear hJ J
      refine anyL_one (i := 10) (by kernel_rfl) rfl (by rfl) fun J hJ => ?_
      go_simp
      refine hJ _ _ (fun e => absurd e (by decide)) ?_
      clear hJ J
      refine anyL_done (by kernel_rfl) ?_ _
      go_wp2_with fail
      go_meet
      have hg := stored3_gb uice q (.int .i64 n) (.int .i64 n) (.slice (some ⟨l9, 0, none⟩) N N)
      exact ⟨q, l9, rfl, rfl, ⟨HQ.out.store (r' := n) (c' := n) (v' := .slice (some ⟨l9, 0, none⟩) N N), (HP.out.grown hg HNE.out (Or.inr rfl)).lee (Nat.le_refl _) (Nat.le_refl _) (by omega)⟩, HBW.out.grown hg HBW.out.size (fun k hk => by injection hk with hk; have := HQW.out; omega)⟩
  case rest =>
  obtain ⟨q18, l18, rfl, rfl, hmv, hbo⟩ := hcut
  have HX18 := Lib.hid hmv
  replace HM := Lib.hid (HM.out.below hbo)
  replace HX13 := Lib.hid (HX13.out.below hbo)
  replace HX14 := Lib.hid (HX14.out.below hbo)
  replace HB := Lib.hid (below_via HB.out hbo)
  clear hbo hmv HATS HADD
  have a0 := HX13.out.m.m0
  have a1 := HX13.out.m.m1
  have a2 := HX13.out.m.m2
  have b0 := HX14.out.m.m0
  have b1 := HX14.out.m.m1
  have b2 := HX14.out.m.m2
  have hma := HMAD.out _ _ _ HX13.out.e.rd HX14.out.e.rd
  have HMA := Lib.hid hma
  clear hma HMAD
  go_wp2_with fail
  (refine (HMA.out).mono ?_)
  rintro e w10 ⟨l20, rfl, hf, hbo⟩
  clear a0 a1 a2 b0 b1 b2 HMA
  have hmn := MatV.new (n := n) hf (by omega)
  have hbb := below_via hbo (bl_alloc w10 (.cells #[.int .i64 n, .int .i64 n, .slice (some ⟨l20, 0, none⟩) N N] 24))
  replace HM := Lib.hid (HM.out.below hbb)
  replace HX13 := Lib.hid (HX13.out.below hbb)
  replace HX14 := Lib.hid (HX14.out.below hbb)
  replace HX18 := Lib.hid (HX18.out.below hbb)
  replace HB := Lib.hid (below_via HB.out hbb)
  have HX20 := Lib.hid hmn
  clear hf hbo hmn hbb
  go_upto_region 16 with fail
  obtain ⟨q20, hqq⟩ : ∃ q, q = w10.heap.size := ⟨_, rfl⟩
  rw [← hqq] at HX20 ⊢
  clear hqq
  generalize w10.alloc (.cells #[.int .i64 n, .int .i64 n, .slice (some ⟨l20, 0, none⟩) N N] 24) = vw10 at *
  have a0 := HX18.out.m.m0
  have a1 := HX18.out.m.m1
  have a2 := HX18.out.m.m2
  have b0 := HX20.out.m.m0
  have b1 := HX20.out.m.m1
  have b2 := HX20.out.m.m2
  have HSM := Lib.hid (SameMat_yes n n _ _ N GS vw10 HX18.out.e (HX20.out.e.congr (fun q _ => (HSUM.out q).symm)))
  go_wp2_with fail
  (refine (HSM.out).mono ?_)
  rintro e w11 ⟨rfl, hbo⟩
  replace HM := Lib.hid (HM.out.below hbo)
  replace HX13 := Lib.hid (HX13.out.below hbo)
  replace HX14 := Lib.hid (HX14.out.below hbo)
  replace HB := Lib.hid (below_via HB.out hbo)
  clear hbo HSM HX18 HX20 HSUM a0 a1 a2 b0 b1 b2
  by_cases hL : 257 < L
  · have HPOS := Lib.hid (show 0 < sp ∧ 0 < sq ∧ L = sp + sq - 1 by
      have h := HLM.out
      by_cases h0 : sp = 0 ∨ sq = 0
      · rw [if_pos h0] at h; omega
      · rw [if_neg h0] at h; omega)
    have HATL := Lib.hid (fun (u : World) (x : Value) (hu : Below w.heap.size w u) hx => HATL0.out u x hL hx)
    go_upto_region 18 with fail
    go_cut [22, 19] (fun v8 v9 wx => ∃ q : Nat, v8 = .pointer (some ⟨q, 0, none⟩) ∧ v9 = .int .i64 5 ∧ Below w11.heap.size w11 wx)
    case first =>
      have x0 := HM.out.m0
      have x1 := HM.out.m1
      have x2 := HM.out.m2
      have hSK : ∀ u, Below w11.heap.size w11 u → (u.cell? ⟨w.heap.size, 0, none⟩ = some (.int .i64 n) ∧ u.cell? ⟨w.heap.size, 1, none⟩ = some (.int .i64 n) ∧ u.cell? ⟨w.heap.size, 2, none⟩ = some (.slice a N cap)) := fun u hu => ⟨cell_stays hu x0, cell_stays hu x1, cell_stays hu x2⟩
      have HSK := Lib.hid hSK
      clear hSK
      refine region_early (fun u => u.cell? ⟨w.heap.size, 0, none⟩ = some (.int .i64 n) ∧ u.cell? ⟨w.heap.size, 1, none⟩ = some (.int .i64 n) ∧ u.cell? ⟨w.heap.size, 2, none⟩ = some (.slice a N cap)) 9 [0, 1, 3] 8 hmix (by kernel_rfl) rfl (by kernel_rfl) (fun _ _ d _ _ h => by cases d <;> exact h) ⟨x0, x1, x2⟩ ?_
      iterate 3 (refine early_take rfl (by rfl) ?_; apply Exists.intro; refine ⟨fun u hu => ?_, ?_⟩; (obtain ⟨u_1, u_2, u_3⟩ := hu; go_simp; rfl); simp only [Act.put, List.getElem_toArray, List.getElem_cons_zero, List.getElem_cons_succ, List.setIfInBounds_toArray, List.set_cons_zero, List.set_cons_succ])
      refine early_done ?_
      simp only [marked]
      clear x0 x1 x2
      have HBW := Lib.hid (bl_drew w11)
      refine anyL_two (i := 2) (j := 8) (by kernel_rfl) rfl (by rfl) rfl (by rfl) (fun J hJ => ?_) (fun J hJ => ?_)
      · go_simp
        refine (HMLP.out w11.drew (HB.out.trans (HBW.out.mono HB.out.size))).mono ?_
        rintro e uc ⟨vl, rfl, hli, hbo⟩
        obtain ⟨al, cl, rfl, -⟩ := hli.slice
        replace HBW := Lib.hid (below_via HBW.out hbo)
        have HLI := Lib.hid hli.rd
        refine hJ _ _ (fun _ => HSK.out _ HBW.out) ?_
        clear hJ J hbo hli
        refine anyL_two (i := 4) (j := 8) (by kernel_rfl) rfl (by rfl) rfl (by rfl) (fun J hJ => ?_) (fun J hJ => ?_)
        · go_simp
          refine (HATL.out uc _ (HB.out.trans (HBW.out.mono HB.out.size)) HLI.out).mono ?_
          rintro e uce ⟨rfl, hbo⟩
          replace HBW := Lib.hid (below_via HBW.out hbo)
          refine hJ _ _ (fun _ => HSK.out _ HBW.out) ?_
          clear hJ J hbo HLI
          refine anyL_yield (i := 5) rfl (by kernel_rfl) (by kernel_rfl) (by kernel_rfl) (by kernel_rfl) (fun _ _ d _ _ h => by cases d <;> exact h) (by rfl) (HSK.out _ HBW.out) ?_
          apply Exists.intro
          refine ⟨fun u => ?_, ?_⟩
          · go_simp
            rfl
          simp only [Act.put, List.getElem_toArray, List.getElem_cons_zero, List.getElem_cons_succ, List.setIfInBounds_toArray, List.set_cons_zero, List.set_cons_succ]
          refine anyL_yield (i := 6) rfl (by kernel_rfl) (by kernel_rfl) (by kernel_rfl) (by kernel_rfl) (fun _ _ d _ _ h => by cases d <;> exact h) (by rfl) (HSK.out _ HBW.out) ?_
          apply Exists.intro
          refine ⟨fun u => ?_, ?_⟩
          · go_simp
            rfl
          simp only [Act.put, List.getElem_toArray, List.getElem_cons_zero, List.getElem_cons_succ, List.setIfInBounds_toArray, List.set_cons_zero, List.set_cons_succ]
          refine anyL_yield (i := 7) rfl (by kernel_rfl) (by kernel_rfl) (by kernel_rfl) (by kernel_rfl) (fun _ _ d _ _ h => by cases d <;> exact h) (by rfl) (HSK.out _ HBW.out) ?_
          apply Exists.intro
          refine ⟨fun u => ?_, ?_⟩
          · go_simp
            rfl
          simp only [Act.put, List.getElem_toArray, List.getElem_cons_zero, List.getElem_cons_succ, List.setIfInBounds_toArray, List.set_cons_zero, List.set_cons_succ]
          refine anyL_one (i := 8) (by kernel_rfl) rfl (by rfl) fun J hJ => ?_
          go_simp
          have hbo : Below uce.heap.size uce (uce.alloc (.cells #[.int .i64 0, .int .i64 0, .slice none 0 0] 24)) := bl_alloc uce (.cells #[.int .i64 0, .int .i64 0, .slice none 0 0] 24)
          have HQ := Lib.hid (show MBox (uce.alloc (.cells #[.int .i64 0, .int .i64 0, .slice none 0 0] 24)) uce.heap.size 0 0 (.slice none 0 0) from MBox.new uce 0 0 (.slice none 0 0))
          have hqs : w11.heap.size ≤ uce.heap.size := HBW.out.size
          replace HBW := Lib.hid (below_via HBW.out hbo)
          obtain ⟨q, hq⟩ : ∃ q, q = uce.heap.size := ⟨_, rfl⟩
          have HQW := Lib.hid (show w11.heap.size ≤ q by omega)
          rw [← hq] at HQ ⊢
          clear hq hqs
          generalize hww : uce.alloc (.cells #[.int .i64 0, .int .i64 0, .slice none 0 0] 24) = ucei at *
          clear hww
          refine hJ _ _ (fun _ => HSK.out _ HBW.out) ?_
          clear hJ J hbo
          have z0 := HQ.out.m0
          have z1 := HQ.out.m1
          have z2 := HQ.out.m2
          have y0 := HQ.out.f0
          have y1 := HQ.out.f1
          have y2 := HQ.out.f2
          refine anyL_one (i := 9) (by kernel_rfl) rfl (by rfl) fun J hJ => ?_
          go_simp
          refine hJ _ _ (fun e => absurd e (by decide)) ?_
          clear hJ J
          refine anyL_one (i := 10) (by kernel_rfl) rfl (by rfl) fun J hJ => ?_
          go_simp
          refine hJ _ _ (fun e => absurd e (by decide)) ?_
          clear hJ J
          refine anyL_done (by kernel_rfl) ?_ _
          go_wp2_with fail
          go_meet
          have hg := stored3_gb ucei q (.int .i64 0) (.int .i64 0) (.slice none 0 0)
          exact ⟨q, rfl, rfl, HBW.out.grown hg HBW.out.size (fun k hk => by injection hk with hk; have := HQW.out; omega)⟩
        · go_simp
          have hbo : Below uc.heap.size uc (uc.alloc (.cells #[.int .i64 0, .int .i64 0, .slice none 0 0] 24)) := bl_alloc uc (.cells #[.int .i64 0, .int .i64 0, .slice none 0 0] 24)
          have HQ := Lib.hid (show MBox (uc.alloc (.cells #[.int .i64 0, .int .i64 0, .slice none 0 0] 24)) uc.heap.size 0 0 (.slice none 0 0) from MBox.new uc 0 0 (.slice none 0 0))
          have hqs : w11.heap.size ≤ uc.heap.size := HBW.out.size
          replace HBW := Lib.hid (below_via HBW.out hbo)
          replace HLI := Lib.hid (HLI.out.below hbo)
          obtain ⟨q, hq⟩ : ∃ q, q = uc.heap.size := ⟨_, rfl⟩
          have HQW := Lib.hid (show w11.heap.size ≤ q by omega)
          rw [← hq] at HQ ⊢
          clear hq hqs
          generalize hww : uc.alloc (.cells #[.int .i64 0, .int .i64 0, .slice none 0 0] 24) = uci at *
          clear hww
          refine hJ _ _ (fun _ => HSK.out _ HBW.out) ?_
          clear hJ J hbo
          refine anyL_one (i := 4) (by kernel_rfl) rfl (by rfl) fun J hJ => ?_
          go_simp
          refine (HATL.out uci _ (HB.out.trans (HBW.out.mono HB.out.size)) HLI.out).mono ?_
          rintro e ucie ⟨rfl, hbo⟩
          replace HBW := Lib.hid (below_via HBW.out hbo)
          replace HQ := Lib.hid (HQ.out.below hbo)
          refine hJ _ _ (fun _ => HSK.out _ HBW.out) ?_
          clear hJ J hbo HLI
          refine anyL_yield (i := 5) rfl (by kernel_rfl) (by kernel_rfl) (by kernel_rfl) (by kernel_rfl) (fun _ _ d _ _ h => by cases d <;> exact h) (by rfl) (HSK.out _ HBW.out) ?_
          apply Exists.intro
          refine ⟨fun u => ?_, ?_⟩
          · go_simp
            rfl
          simp only [Act.put, List.getElem_toArray, List.getElem_cons_zero, List.getElem_cons_succ, List.setIfInBounds_toArray, List.set_cons_zero, List.set_cons_succ]
          refine anyL_yield (i := 6) rfl (by kernel_rfl) (by kernel_rfl) (by kernel_rfl) (by kernel_rfl) (fun _ _ d _ _ h => by cases d <;> exact h) (by rfl) (HSK.out _ HBW.out) ?_
          apply Exists.intro
          refine ⟨fun u => ?_, ?_⟩
          · go_simp
            rfl
          simp only [Act.put, List.getElem_toArray, List.getElem_cons_zero, List.getElem_cons_succ, List.setIfInBounds_toArray, List.set_cons_zero, List.set_cons_succ]
          refine anyL_yield (i := 7) rfl (by kernel_rfl) (by kernel_rfl) (by kernel_rfl) (by kernel_rfl) (fun _ _ d _ _ h => by cases d <;> exact h) (by rfl) (HSK.out _ HBW.out) ?_
          apply Exists.intro
          refine ⟨fun u => ?_, ?_⟩
          · go_simp
            rfl
          simp only [Act.put, List.getElem_toArray, List.getElem_cons_zero, List.getElem_cons_succ, List.setIfInBounds_toArray, List.set_cons_zero, List.set_cons_succ]
          have z0 := HQ.out.m0
          have z1 := HQ.out.m1
          have z2 := HQ.out.m2
          have y0 := HQ.out.f0
          have y1 := HQ.out.f1
          have y2 := HQ.out.f2
          refine anyL_one (i := 9) (by kernel_rfl) rfl (by rfl) fun J hJ => ?_
          go_simp
          refine hJ _ _ (fun e => absurd e (by decide)) ?_
          clear hJ J
          refine anyL_one (i := 10) (by kernel_rfl) rfl (by rfl) fun J hJ => ?_
          go_simp
          refine hJ _ _ (fun e => absurd e (by decide)) ?_
          clear hJ J
          refine anyL_done (by kernel_rfl) ?_ _
          go_wp2_with fail
          go_meet
          have hg := stored3_gb ucie q (.int .i64 0) (.int .i64 0) (.slice none 0 0)
          exact ⟨q, rfl, rfl, HBW.out.grown hg HBW.out.size (fun k hk => by injection hk with hk; have := HQW.out; omega)⟩
      · go_simp
        have hbo : Below w11.drew.heap.size w11.drew ((w11.alloc (.cells #[.int .i64 0, .int .i64 0, .slice none 0 0] 24)).drew) := bl_alloc w11.drew (.cells #[.int .i64 0, .int .i64 0, .slice none 0 0] 24)
        have HQ := Lib.hid (show MBox ((w11.alloc (.cells #[.int .i64 0, .int .i64 0, .slice none 0 0] 24)).drew) w11.heap.size 0 0 (.slice none 0 0) from MBox.new w11.drew 0 0 (.slice none 0 0))
        have hqs : w11.heap.size ≤ w11.heap.size := HBW.out.size
        replace HBW := Lib.hid (below_via HBW.out hbo)
        obtain ⟨q, hq⟩ : ∃ q, q = w11.heap.size := ⟨_, rfl⟩
        have HQW := Lib.hid (show w11.heap.size ≤ q by omega)
        rw [← hq] at HQ ⊢
        clear hq hqs
        generalize hww : (w11.alloc (.cells #[.int .i64 0, .int .i64 0, .slice none 0 0] 24)).drew = ui at *
        clear hww
        refine hJ _ _ (fun _ => HSK.out _ HBW.out) ?_
        clear hJ J hbo
        refine anyL_one (i := 2) (by kernel_rfl) rfl (by rfl) fun J hJ => ?_
        go_simp
        refine (HMLP.out ui (HB.out.trans (HBW.out.mono HB.out.size))).mono ?_
        rintro e uic ⟨vl, rfl, hli, hbo⟩
        obtain ⟨al, cl, rfl, -⟩ := hli.slice
        replace HBW := Lib.hid (below_via HBW.out hbo)
        replace HQ := Lib.hid (HQ.out.below hbo)
        have HLI := Lib.hid hli.rd
        refine hJ _ _ (fun _ => HSK.out _ HBW.out) ?_
        clear hJ J hbo hli
        refine anyL_one (i := 4) (by kernel_rfl) rfl (by rfl) fun J hJ => ?_
        go_simp
        refine (HATL.out uic _ (HB.out.trans (HBW.out.mono HB.out.size)) HLI.out).mono ?_
        rintro e uice ⟨rfl, hbo⟩
        replace HBW := Lib.hid (below_via HBW.out hbo)
        replace HQ := Lib.hid (HQ.out.below hbo)
        refine hJ _ _ (fun _ => HSK.out _ HBW.out) ?_
        clear hJ J hbo HLI
        refine anyL_yield (i := 5) rfl (by kernel_rfl) (by kernel_rfl) (by kernel_rfl) (by kernel_rfl) (fun _ _ d _ _ h => by cases d <;> exact h) (by rfl) (HSK.out _ HBW.out) ?_
        apply Exists.intro
        refine ⟨fun u => ?_, ?_⟩
        · go_simp
          rfl
        simp only [Act.put, List.getElem_toArray, List.getElem_cons_zero, List.getElem_cons_succ, List.setIfInBounds_toArray, List.set_cons_zero, List.set_cons_succ]
        refine anyL_yield (i := 6) rfl (by kernel_rfl) (by kernel_rfl) (by kernel_rfl) (by kernel_rfl) (fun _ _ d _ _ h => by cases d <;> exact h) (by rfl) (HSK.out _ HBW.out) ?_
        apply Exists.intro
        refine ⟨fun u => ?_, ?_⟩
        · go_simp
          rfl
        simp only [Act.put, List.getElem_toArray, List.getElem_cons_zero, List.getElem_cons_succ, List.setIfInBounds_toArray, List.set_cons_zero, List.set_cons_succ]
        refine anyL_yield (i := 7) rfl (by kernel_rfl) (by kernel_rfl) (by kernel_rfl) (by kernel_rfl) (fun _ _ d _ _ h => by cases d <;> exact h) (by rfl) (HSK.out _ HBW.out) ?_
        apply Exists.intro
        refine ⟨fun u => ?_, ?_⟩
        · go_simp
          rfl
        simp only [Act.put, List.getElem_toArray, List.getElem_cons_zero, List.getElem_cons_succ, List.setIfInBounds_toArray, List.set_cons_zero, List.set_cons_succ]
        have z0 := HQ.out.m0
        have z1 := HQ.out.m1
        have z2 := HQ.out.m2
        have y0 := HQ.out.f0
        have y1 := HQ.out.f1
        have y2 := HQ.out.f2
        refine anyL_one (i := 9) (by kernel_rfl) rfl (by rfl) fun J hJ => ?_
        go_simp
        refine hJ _ _ (fun e => absurd e (by decide)) ?_
        clear hJ J
        refine anyL_one (i := 10) (by kernel_rfl) rfl (by rfl) fun J hJ => ?_
        go_simp
        refine hJ _ _ (fun e => absurd e (by decide)) ?_
        clear hJ J
        refine anyL_done (by kernel_rfl) ?_ _
        go_wp2_with fail
        go_meet
        have hg := stored3_gb uice q (.int .i64 0) (.int .i64 0) (.slice none 0 0)
        exact ⟨q, rfl, rfl, HBW.out.grown hg HBW.out.size (fun k hk => by injection hk with hk; have := HQW.out; omega)⟩
    case rest =>
    obtain ⟨q22, rfl, rfl, hbo⟩ := hcut
    replace HM := Lib.hid (HM.out.below hbo)
    replace HB := Lib.hid (below_via HB.out hbo)
    clear hbo HATL HMLP
    have hpos := HPOS.out
    have g3 : (0 : Int) ≤ (sp : Int) - 1 := by omega
    have g4 : (0 : Int) ≤ (sq : Int) - 1 := by omega
    have v3 : IntKind.i64.wrap ((sp : Int) - 1 + ((sq : Int) - 1)) = (sp : Int) - 1 + ((sq : Int) - 1) := IntWalk.i64_in _ (by omega)
    have g5 : (256 : Int) < (sp : Int) - 1 + ((sq : Int) - 1) := by omega
    clear HLM HPOS hpos hL
    go_wp2_with fail
    go_ret
    exact ⟨rfl, HB.out⟩
  · have HATM := Lib.hid (fun (u : World) (x : Value) (hu : Below w.heap.size w u) hx => HATM0.out u x (by omega) hu hx)
    go_upto_region 18 with fail
    go_cut [22, 19] (fun v8 v9 wx => ∃ q l9 : Nat, v8 = .pointer (some ⟨q, 0, none⟩) ∧ v9 = .int .i64 0 ∧ MatV wx q n N (.slice (some ⟨l9, 0, none⟩) N N) GM ∧ Below w11.heap.size w11 wx)
    case first =>
      have x0 := HM.out.m0
      have x1 := HM.out.m1
      have x2 := HM.out.m2
      have hSK : ∀ u, Below w11.heap.size w11 u → (u.cell? ⟨w.heap.size, 0, none⟩ = some (.int .i64 n) ∧ u.cell? ⟨w.heap.size, 1, none⟩ = some (.int .i64 n) ∧ u.cell? ⟨w.heap.size, 2, none⟩ = some (.slice a N cap)) := fun u hu => ⟨cell_stays hu x0, cell_stays hu x1, cell_stays hu x2⟩
      have HSK := Lib.hid hSK
      clear hSK
      refine region_early (fun u => u.cell? ⟨w.heap.size, 0, none⟩ = some (.int .i64 n) ∧ u.cell? ⟨w.heap.size, 1, none⟩ = some (.int .i64 n) ∧ u.cell? ⟨w.heap.size, 2, none⟩ = some (.slice a N cap)) 9 [0, 1, 3] 8 hmix (by kernel_rfl) rfl (by kernel_rfl) (fun _ _ d _ _ h => by cases d <;> exact h) ⟨x0, x1, x2⟩ ?_
      iterate 3 (refine early_take rfl (by rfl) ?_; apply Exists.intro; refine ⟨fun u hu => ?_, ?_⟩; (obtain ⟨u_1, u_2, u_3⟩ := hu; go_simp; rfl); simp only [Act.put, List.getElem_toArray, List.getElem_cons_zero, List.getElem_cons_succ, List.setIfInBounds_toArray, List.set_cons_zero, List.set_cons_succ])
      refine early_done ?_
      simp only [marked]
      clear x0 x1 x2
      have HBW := Lib.hid (bl_drew w11)
      refine anyL_two (i := 2) (j := 8) (by kernel_rfl) rfl (by rfl) rfl (by rfl) (fun J hJ => ?_) (fun J hJ => ?_)
      · go_simp
        refine (HMLP.out w11.drew (HB.out.trans (HBW.out.mono HB.out.size))).mono ?_
        rintro e uc ⟨vl, rfl, hli, hbo⟩
        obtain ⟨al, cl, rfl, -⟩ := hli.slice
        replace HBW := Lib.hid (below_via HBW.out hbo)
        have HLI := Lib.hid hli.rd
        refine hJ _ _ (fun _ => HSK.out _ HBW.out) ?_
        clear hJ J hbo hli
        refine anyL_two (i := 4) (j := 8) (by kernel_rfl) rfl (by rfl) rfl (by rfl) (fun J hJ => ?_) (fun J hJ => ?_)
        · go_simp
          refine (HATM.out uc _ (HB.out.trans (HBW.out.mono HB.out.size)) HLI.out).mono ?_
          rintro e uce ⟨l9, rfl, hf, hbo⟩
          have HF := Lib.hid hf
          replace HBW := Lib.hid (below_via HBW.out hbo)
          refine hJ _ _ (fun _ => HSK.out _ HBW.out) ?_
          clear hJ J hbo hf HLI
          refine anyL_yield (i := 5) rfl (by kernel_rfl) (by kernel_rfl) (by kernel_rfl) (by kernel_rfl) (fun _ _ d _ _ h => by cases d <;> exact h) (by rfl) (HSK.out _ HBW.out) ?_
          apply Exists.intro
          refine ⟨fun u => ?_, ?_⟩
          · go_simp
            rfl
          simp only [Act.put, List.getElem_toArray, List.getElem_cons_zero, List.getElem_cons_succ, List.setIfInBounds_toArray, List.set_cons_zero, List.set_cons_succ]
          refine anyL_yield (i := 6) rfl (by kernel_rfl) (by kernel_rfl) (by kernel_rfl) (by kernel_rfl) (fun _ _ d _ _ h => by cases d <;> exact h) (by rfl) (HSK.out _ HBW.out) ?_
          apply Exists.intro
          refine ⟨fun u => ?_, ?_⟩
          · go_simp
            rfl
          simp only [Act.put, List.getElem_toArray, List.getElem_cons_zero, List.getElem_cons_succ, List.setIfInBounds_toArray, List.set_cons_zero, List.set_cons_succ]
          refine anyL_yield (i := 7) rfl (by kernel_rfl) (by kernel_rfl) (by kernel_rfl) (by kernel_rfl) (fun _ _ d _ _ h => by cases d <;> exact h) (by rfl) (HSK.out _ HBW.out) ?_
          apply Exists.intro
          refine ⟨fun u => ?_, ?_⟩
          · go_simp
            rfl
          simp only [Act.put, List.getElem_toArray, List.getElem_cons_zero, List.getElem_cons_succ, List.setIfInBounds_toArray, List.set_cons_zero, List.set_cons_succ]
          refine anyL_one (i := 8) (by kernel_rfl) rfl (by rfl) fun J hJ => ?_
          go_simp
          have hbo : Below uce.heap.size uce (uce.alloc (.cells #[.int .i64 0, .int .i64 0, .slice none 0 0] 24)) := bl_alloc uce (.cells #[.int .i64 0, .int .i64 0, .slice none 0 0] 24)
          have HQ := Lib.hid (show MBox (uce.alloc (.cells #[.int .i64 0, .int .i64 0, .slice none 0 0] 24)) uce.heap.size 0 0 (.slice none 0 0) from MBox.new uce 0 0 (.slice none 0 0))
          have hqs : w11.heap.size ≤ uce.heap.size := HBW.out.size
          replace HBW := Lib.hid (below_via HBW.out hbo)
          have hl9 := HF.out.lt
          have HNE := Lib.hid (show l9 ≠ uce.heap.size by omega)
          have HP := Lib.hid ((HF.out.turnD (D' := fun b => b ≤ l9 ∨ b = uce.heap.size) (fun b hb hn hd => hd.elim hn (fun e => by omega))).below hbo)
          clear hl9 HF
          obtain ⟨q, hq⟩ : ∃ q, q = uce.heap.size := ⟨_, rfl⟩
          have HQW := Lib.hid (show w11.heap.size ≤ q by omega)
          rw [← hq] at HQ HNE HP ⊢
          clear hq hqs
          generalize hww : uce.alloc (.cells #[.int .i64 0, .int .i64 0, .slice none 0 0] 24) = ucei at *
          clear hww
          refine hJ _ _ (fun _ => HSK.out _ HBW.out) ?_
          clear hJ J hbo
          have z0 := HQ.out.m0
          have z1 := HQ.out.m1
          have z2 := HQ.out.m2
          have y0 := HQ.out.f0
          have y1 := HQ.out.f1
          have y2 := HQ.out.f2
          refine anyL_one (i := 9) (by kernel_rfl) rfl (by rfl) fun J hJ => ?_
          go_simp
          refine hJ _ _ (fun e => absurd e (by decide)) ?_
          clear hJ J
          refine anyL_one (i := 10) (by kernel_rfl) rfl (by rfl) fun J hJ => ?_
          go_simp
          refine hJ _ _ (fun e => absurd e (by decide)) ?_
          clear hJ J
          refine anyL_done (by kernel_rfl) ?_ _
          go_wp2_with fail
          go_meet
          have hg := stored3_gb ucei q (.int .i64 n) (.int .i64 n) (.slice (some ⟨l9, 0, none⟩) N N)
          exact ⟨q, l9, rfl, rfl, ⟨HQ.out.store (r' := n) (c' := n) (v' := .slice (some ⟨l9, 0, none⟩) N N), (HP.out.grown hg HNE.out (Or.inr rfl)).lee (Nat.le_refl _) (Nat.le_refl _) (by omega)⟩, HBW.out.grown hg HBW.out.size (fun k hk => by injection hk with hk; have := HQW.out; omega)⟩
        · go_simp
          have hbo : Below uc.heap.size uc (uc.alloc (.cells #[.int .i64 0, .int .i64 0, .slice none 0 0] 24)) := bl_alloc uc (.cells #[.int .i64 0, .int .i64 0, .slice none 0 0] 24)
          have HQ := Lib.hid (show MBox (uc.alloc (.cells #[.int .i64 0, .int .i64 0, .slice none 0 0] 24)) uc.heap.size 0 0 (.slice none 0 0) from MBox.new uc 0 0 (.slice none 0 0))
          have hqs : w11.heap.size ≤ uc.heap.size := HBW.out.size
          replace HBW := Lib.hid (below_via HBW.out hbo)
          replace HLI := Lib.hid (HLI.out.below hbo)
          obtain ⟨q, hq⟩ : ∃ q, q = uc.heap.size := ⟨_, rfl⟩
          have HQW := Lib.hid (show w11.heap.size ≤ q by omega)
          rw [← hq] at HQ ⊢
          clear hq hqs
          generalize hww : uc.alloc (.cells #[.int .i64 0, .int .i64 0, .slice none 0 0] 24) = uci at *
          clear hww
          refine hJ _ _ (fun _ => HSK.out _ HBW.out) ?_
          clear hJ J hbo
          refine anyL_one (i := 4) (by kernel_rfl) rfl (by rfl) fun J hJ => ?_
          go_simp
          refine (HATM.out uci _ (HB.out.trans (HBW.out.mono HB.out.size)) HLI.out).mono ?_
          rintro e ucie ⟨l9, rfl, hf, hbo⟩
          have hqq := World.block_lt_of_cell? uci _ HQ.out.m0
          have hqq : q < uci.heap.size := hqq
          have hfo := hf.own
          have HNE := Lib.hid (show l9 ≠ q by omega)
          have HP := Lib.hid (hf.turnD (D' := fun b => b ≤ l9 ∨ b = q) (fun b hb hn hd => hd.elim hn (fun e => hn (by omega))))
          clear hqq hfo
          replace HBW := Lib.hid (below_via HBW.out hbo)
          replace HQ := Lib.hid (HQ.out.below hbo)
          refine hJ _ _ (fun _ => HSK.out _ HBW.out) ?_
          clear hJ J hbo hf HLI
          refine anyL_yield (i := 5) rfl (by kernel_rfl) (by kernel_rfl) (by kernel_rfl) (by kernel_rfl) (fun _ _ d _ _ h => by cases d <;> exact h) (by rfl) (HSK.out _ HBW.out) ?_
          apply Exists.intro
          refine ⟨fun u => ?_, ?_⟩
          · go_simp
            rfl
          simp only [Act.put, List.getElem_toArray, List.getElem_cons_zero, List.getElem_cons_succ, List.setIfInBounds_toArray, List.set_cons_zero, List.set_cons_succ]
          refine anyL_yield (i := 6) rfl (by kernel_rfl) (by kernel_rfl) (by kernel_rfl) (by kernel_rfl) (fun _ _ d _ _ h => by cases d <;> exact h) (by rfl) (HSK.out _ HBW.out) ?_
          apply Exists.intro
          refine ⟨fun u => ?_, ?_⟩
          · go_simp
            rfl
          simp only [Act.put, List.getElem_toArray, List.getElem_cons_zero, List.getElem_cons_succ, List.setIfInBounds_toArray, List.set_cons_zero, List.set_cons_succ]
          refine anyL_yield (i := 7) rfl (by kernel_rfl) (by kernel_rfl) (by kernel_rfl) (by kernel_rfl) (fun _ _ d _ _ h => by cases d <;> exact h) (by rfl) (HSK.out _ HBW.out) ?_
          apply Exists.intro
          refine ⟨fun u => ?_, ?_⟩
          · go_simp
            rfl
          simp only [Act.put, List.getElem_toArray, List.getElem_cons_zero, List.getElem_cons_succ, List.setIfInBounds_toArray, List.set_cons_zero, List.set_cons_succ]
          have z0 := HQ.out.m0
          have z1 := HQ.out.m1
          have z2 := HQ.out.m2
          have y0 := HQ.out.f0
          have y1 := HQ.out.f1
          have y2 := HQ.out.f2
          refine anyL_one (i := 9) (by kernel_rfl) rfl (by rfl) fun J hJ => ?_
          go_simp
          refine hJ _ _ (fun e => absurd e (by decide)) ?_
          clear hJ J
          refine anyL_one (i := 10) (by kernel_rfl) rfl (by rfl) fun J hJ => ?_
          go_simp
          refine hJ _ _ (fun e => absurd e (by decide)) ?_
          clear hJ J
          refine anyL_done (by kernel_rfl) ?_ _
          go_wp2_with fail
          go_meet
          have hg := stored3_gb ucie q (.int .i64 n) (.int .i64 n) (.slice (some ⟨l9, 0, none⟩) N N)
          exact ⟨q, l9, rfl, rfl, ⟨HQ.out.store (r' := n) (c' := n) (v' := .slice (some ⟨l9, 0, none⟩) N N), (HP.out.grown hg HNE.out (Or.inr rfl)).lee (Nat.le_refl _) (Nat.le_refl _) (by omega)⟩, HBW.out.grown hg HBW.out.size (fun k hk => by injection hk with hk; have := HQW.out; omega)⟩
      · go_simp
        have hbo : Below w11.drew.heap.size w11.drew ((w11.alloc (.cells #[.int .i64 0, .int .i64 0, .slice none 0 0] 24)).drew) := bl_alloc w11.drew (.cells #[.int .i64 0, .int .i64 0, .slice none 0 0] 24)
        have HQ := Lib.hid (show MBox ((w11.alloc (.cells #[.int .i64 0, .int .i64 0, .slice none 0 0] 24)).drew) w11.heap.size 0 0 (.slice none 0 0) from MBox.new w11.drew 0 0 (.slice none 0 0))
        have hqs : w11.heap.size ≤ w11.heap.size := HBW.out.size
        replace HBW := Lib.hid (below_via HBW.out hbo)
        obtain ⟨q, hq⟩ : ∃ q, q = w11.heap.size := ⟨_, rfl⟩
        have HQW := Lib.hid (show w11.heap.size ≤ q by omega)
        rw [← hq] at HQ ⊢
        clear hq hqs
        generalize hww : (w11.alloc (.cells #[.int .i64 0, .int .i64 0, .slice none 0 0] 24)).drew = ui at *
        clear hww
        refine hJ _ _ (fun _ => HSK.out _ HBW.out) ?_
        clear hJ J hbo
        refine anyL_one (i := 2) (by kernel_rfl) rfl (by rfl) fun J hJ => ?_
        go_simp
        refine (HMLP.out ui (HB.out.trans (HBW.out.mono HB.out.size))).mono ?_
        rintro e uic ⟨vl, rfl, hli, hbo⟩
        obtain ⟨al, cl, rfl, -⟩ := hli.slice
        replace HBW := Lib.hid (below_via HBW.out hbo)
        replace HQ := Lib.hid (HQ.out.below hbo)
        have HLI := Lib.hid hli.rd
        refine hJ _ _ (fun _ => HSK.out _ HBW.out) ?_
        clear hJ J hbo hli
        refine anyL_one (i := 4) (by kernel_rfl) rfl (by rfl) fun J hJ => ?_
        go_simp
        refine (HATM.out uic _ (HB.out.trans (HBW.out.mono HB.out.size)) HLI.out).mono ?_
        rintro e uice ⟨l9, rfl, hf, hbo⟩
        have hqq := World.block_lt_of_cell? uic _ HQ.out.m0
        have hqq : q < uic.heap.size := hqq
        have hfo := hf.own
        have HNE := Lib.hid (show l9 ≠ q by omega)
        have HP := Lib.hid (hf.turnD (D' := fun b => b ≤ l9 ∨ b = q) (fun b hb hn hd => hd.elim hn (fun e => hn (by omega))))
        clear hqq hfo
        replace HBW := Lib.hid (below_via HBW.out hbo)
        replace HQ := Lib.hid (HQ.out.below hbo)
        refine hJ _ _ (fun _ => HSK.out _ HBW.out) ?_
        clear hJ J hbo hf HLI
        refine anyL_yield (i := 5) rfl (by kernel_rfl) (by kernel_rfl) (by kernel_rfl) (by kernel_rfl) (fun _ _ d _ _ h => by cases d <;> exact h) (by rfl) (HSK.out _ HBW.out) ?_
        apply Exists.intro
        refine ⟨fun u => ?_, ?_⟩
        · go_simp
          rfl
        simp only [Act.put, List.getElem_toArray, List.getElem_cons_zero, List.getElem_cons_succ, List.setIfInBounds_toArray, List.set_cons_zero, List.set_cons_succ]
        refine anyL_yield (i := 6) rfl (by kernel_rfl) (by kernel_rfl) (by kernel_rfl) (by kernel_rfl) (fun _ _ d _ _ h => by cases d <;> exact h) (by rfl) (HSK.out _ HBW.out) ?_
        apply Exists.intro
        refine ⟨fun u => ?_, ?_⟩
        · go_simp
          rfl
        simp only [Act.put, List.getElem_toArray, List.getElem_cons_zero, List.getElem_cons_succ, List.setIfInBounds_toArray, List.set_cons_zero, List.set_cons_succ]
        refine anyL_yield (i := 7) rfl (by kernel_rfl) (by kernel_rfl) (by kernel_rfl) (by kernel_rfl) (fun _ _ d _ _ h => by cases d <;> exact h) (by rfl) (HSK.out _ HBW.out) ?_
        apply Exists.intro
        refine ⟨fun u => ?_, ?_⟩
        · go_simp
          rfl
        simp only [Act.put, List.getElem_toArray, List.getElem_cons_zero, List.getElem_cons_succ, List.setIfInBounds_toArray, List.set_cons_zero, List.set_cons_succ]
        have z0 := HQ.out.m0
        have z1 := HQ.out.m1
        have z2 := HQ.out.m2
        have y0 := HQ.out.f0
        have y1 := HQ.out.f1
        have y2 := HQ.out.f2
        refine anyL_one (i := 9) (by kernel_rfl) rfl (by rfl) fun J hJ => ?_
        go_simp
        refine hJ _ _ (fun e => absurd e (by decide)) ?_
        clear hJ J
        refine anyL_one (i := 10) (by kernel_rfl) rfl (by rfl) fun J hJ => ?_
        go_simp
        refine hJ _ _ (fun e => absurd e (by decide)) ?_
        clear hJ J
        refine anyL_done (by kernel_rfl) ?_ _
        go_wp2_with fail
        go_meet
        have hg := stored3_gb uice q (.int .i64 n) (.int .i64 n) (.slice (some ⟨l9, 0, none⟩) N N)
        exact ⟨q, l9, rfl, rfl, ⟨HQ.out.store (r' := n) (c' := n) (v' := .slice (some ⟨l9, 0, none⟩) N N), (HP.out.grown hg HNE.out (Or.inr rfl)).lee (Nat.le_refl _) (Nat.le_refl _) (by omega)⟩, HBW.out.grown hg HBW.out.size (fun k hk => by injection hk with hk; have := HQW.out; omega)⟩
    case rest =>
    obtain ⟨q22, l22, rfl, rfl, hmv, hbo⟩ := hcut
    have HX22 := Lib.hid hmv
    replace HM := Lib.hid (HM.out.below hbo)
    replace HX13 := Lib.hid (HX13.out.below hbo)
    replace HX14 := Lib.hid (HX14.out.below hbo)
    replace HB := Lib.hid (below_via HB.out hbo)
    clear hbo hmv HATM HMLP HATM0 HATL0
    have a0 := HX13.out.m.m0
    have a1 := HX13.out.m.m1
    have a2 := HX13.out.m.m2
    have b0 := HX14.out.m.m0
    have b1 := HX14.out.m.m1
    have b2 := HX14.out.m.m2
    have hma := HMMU.out _ _ _ HX13.out.e.rd HX14.out.e.rd
    have HMA := Lib.hid hma
    clear hma HMMU
    by_cases h0 : sp = 0
    · have g3 : ¬ (0 : Int) ≤ (sp : Int) - 1 := by omega
      clear HLM
      go_wp2_with fail
      (refine (HMA.out).mono ?_)
      rintro e w12 ⟨l23, rfl, hf, hbo⟩
      clear a0 a1 a2 b0 b1 b2 HMA
      have hmn := MatV.new (n := n) hf (by omega)
      have hbb := below_via hbo (bl_alloc w12 (.cells #[.int .i64 n, .int .i64 n, .slice (some ⟨l23, 0, none⟩) N N] 24))
      replace HX22 := Lib.hid (HX22.out.below hbb)
      replace HB := Lib.hid (below_via HB.out hbb)
      have HX23 := Lib.hid hmn
      clear hf hbo hmn hbb
      go_upto_region 22 with fail
      obtain ⟨q23, hqq⟩ : ∃ q, q = w12.heap.size := ⟨_, rfl⟩
      rw [← hqq] at HX23 ⊢
      clear hqq
      generalize w12.alloc (.cells #[.int .i64 n, .int .i64 n, .slice (some ⟨l23, 0, none⟩) N N] 24) = vw12 at *
      have a0 := HX22.out.m.m0
      have a1 := HX22.out.m.m1
      have a2 := HX22.out.m.m2
      have b0 := HX23.out.m.m0
      have b1 := HX23.out.m.m1
      have b2 := HX23.out.m.m2
      have HSM := Lib.hid (SameMat_yes n n _ _ N GM vw12 HX22.out.e (HX23.out.e.congr (fun q hq => (HPRD.out q hq).symm)))
      go_wp2_with fail
      (refine (HSM.out).mono ?_)
      rintro e w13 ⟨rfl, hbo⟩
      replace HB := Lib.hid (below_via HB.out hbo)
      clear hbo HSM HX22 HX23 a0 a1 a2 b0 b1 b2
      go_wp2_with fail
      go_ret
      exact ⟨rfl, HB.out⟩
    · have g3 : (0 : Int) ≤ (sp : Int) - 1 := by omega
      by_cases h1 : sq = 0
      · have g4 : ¬ (0 : Int) ≤ (sq : Int) - 1 := by omega
        clear HLM
        go_wp2_with fail
        (refine (HMA.out).mono ?_)
        rintro e w12 ⟨l23, rfl, hf, hbo⟩
        clear a0 a1 a2 b0 b1 b2 HMA
        have hmn := MatV.new (n := n) hf (by omega)
        have hbb := below_via hbo (bl_alloc w12 (.cells #[.int .i64 n, .int .i64 n, .slice (some ⟨l23, 0, none⟩) N N] 24))
        replace HX22 := Lib.hid (HX22.out.below hbb)
        replace HB := Lib.hid (below_via HB.out hbb)
        have HX23 := Lib.hid hmn
        clear hf hbo hmn hbb
        go_upto_region 22 with fail
        obtain ⟨q23, hqq⟩ : ∃ q, q = w12.heap.size := ⟨_, rfl⟩
        rw [← hqq] at HX23 ⊢
        clear hqq
        generalize w12.alloc (.cells #[.int .i64 n, .int .i64 n, .slice (some ⟨l23, 0, none⟩) N N] 24) = vw12 at *
        have a0 := HX22.out.m.m0
        have a1 := HX22.out.m.m1
        have a2 := HX22.out.m.m2
        have b0 := HX23.out.m.m0
        have b1 := HX23.out.m.m1
        have b2 := HX23.out.m.m2
        have HSM := Lib.hid (SameMat_yes n n _ _ N GM vw12 HX22.out.e (HX23.out.e.congr (fun q hq => (HPRD.out q hq).symm)))
        go_wp2_with fail
        (refine (HSM.out).mono ?_)
        rintro e w13 ⟨rfl, hbo⟩
        replace HB := Lib.hid (below_via HB.out hbo)
        clear hbo HSM HX22 HX23 a0 a1 a2 b0 b1 b2
        go_wp2_with fail
        go_ret
        exact ⟨rfl, HB.out⟩
      · have g4 : (0 : Int) ≤ (sq : Int) - 1 := by omega
        have hLL := HLM.out
        rw [if_neg (by omega)] at hLL
        have v3 : IntKind.i64.wrap ((sp : Int) - 1 + ((sq : Int) - 1)) = (sp : Int) - 1 + ((sq : Int) - 1) := IntWalk.i64_in _ (by omega)
        have g5 : ¬ (256 : Int) < (sp : Int) - 1 + ((sq : Int) - 1) := by omega
        clear HLM hLL
        go_wp2_with fail
        (refine (HMA.out).mono ?_)
        rintro e w12 ⟨l23, rfl, hf, hbo⟩
        clear a0 a1 a2 b0 b1 b2 HMA
        have hmn := MatV.new (n := n) hf (by omega)
        have hbb := below_via hbo (bl_alloc w12 (.cells #[.int .i64 n, .int .i64 n, .slice (some ⟨l23, 0, none⟩) N N] 24))
        replace HX22 := Lib.hid (HX22.out.below hbb)
        replace HB := Lib.hid (below_via HB.out hbb)
        have HX23 := Lib.hid hmn
        clear hf hbo hmn hbb
        go_upto_region 22 with fail
        obtain ⟨q23, hqq⟩ : ∃ q, q = w12.heap.size := ⟨_, rfl⟩
        rw [← hqq] at HX23 ⊢
        clear hqq
        generalize w12.alloc (.cells #[.int .i64 n, .int .i64 n, .slice (some ⟨l23, 0, none⟩) N N] 24) = vw12 at *
        have a0 := HX22.out.m.m0
        have a1 := HX22.out.m.m1
        have a2 := HX22.out.m.m2
        have b0 := HX23.out.m.m0
        have b1 := HX23.out.m.m1
        have b2 := HX23.out.m.m2
        have HSM := Lib.hid (SameMat_yes n n _ _ N GM vw12 HX22.out.e (HX23.out.e.congr (fun q hq => (HPRD.out q hq).symm)))
        go_wp2_with fail
        (refine (HSM.out).mono ?_)
        rintro e w13 ⟨rfl, hbo⟩
        replace HB := Lib.hid (below_via HB.out hbo)
        clear hbo HSM HX22 HX23 a0 a1 a2 b0 b1 b2
        go_wp2_with fail
        go_ret
        exact ⟨rfl, HB.out⟩
end Go.Proofs.Ytejliecmdkmgiaa

namespace Go.Proofs.Ytejliecmdkmgiaa
open Go.RowKit Go.Shelf

set_option maxHeartbeats 2000000 in
set_option maxRecDepth 100000 in
theorem Ats_head (r c : Int) (a : Option Addr) (n cap : Nat) (xp xq : Value) (hn : n ≤ 17592186044416) (h0 : sqE r c n ≠ 0) (w : World) :
    Calls Try.prog 7 #[xp, xq, .agg #[.int .i64 r, .int .i64 c, .slice a n cap]] w fun e w' => e = .returned (.bool true) ∧ Below w.heap.size w w' := by
  have hb1 := bl_alloc w (.cells #[.int .i64 r, .int .i64 c, .slice a n cap] 24)
  have hbx := MBox.new w r c (.slice a n cap)
  have HRF := Lib.hid (fun (u : World) => refused16_bad r c a n cap hn h0 u)
  have HB := Lib.hid hb1
  have x0 := hbx.m0
  have x1 := hbx.m1
  have x2 := hbx.m2
  clear hb1 hbx h0
  go_enter Try.func7, Try.ntmps7
  go_upto_region 1 with fail
  generalize w.alloc (.cells #[.int .i64 r, .int .i64 c, .slice a n cap] 24) = W at *
  go_wp2_with fail
  (refine (HRF.out W).mono ?_)
  rintro e w1 ⟨rfl, hb1⟩
  replace HB := Lib.hid (below_via HB.out hb1)
  clear hb1 HRF x0 x1 x2
  go_wp2_with fail
  (refine (awake16_any w1).mono ?_)
  rintro e w2 ⟨rfl, hb2⟩
  replace HB := Lib.hid (below_via HB.out hb2)
  clear hb2
  go_wp2_with fail
  (refine (awake16_any w2).mono ?_)
  rintro e w3 ⟨rfl, hb3⟩
  replace HB := Lib.hid (below_via HB.out hb3)
  clear hb3
  go_wp2_with fail
  go_ret
  exact ⟨rfl, HB.out⟩

theorem Ats_law (xp xq : Value) (la lb : Nat) (rp rq : Nat → Raw) (r c : Int) (s : Value) (n : Nat) (x : Nat → Raw) (w : World) (hp : RdL w xp la rp) (hpx : ∀ i, i < la → (rp i).n ≤ 1048576) (hq : RdL w xq lb rq) (hqx : ∀ i, i < lb → (rq i).n ≤ 1048576) (hr : RdL w s n x) (hx : ∀ i, i < n → (x i).n ≤ 1048576) (hla : la + lb ≤ 1048576) :
    Calls Try.prog 7 #[xp, xq, .agg #[.int .i64 r, .int .i64 c, s]] w fun e w' => e = .returned (.bool true) ∧ Below w.heap.size w w' := by
  obtain ⟨a, cap, rfl, hcap, hn, -⟩ := id hr
  by_cases h0 : sqE r c n = 0
  · rcases check_cases r c n with h | ⟨R, C, rfl, rfl, hR, hC, rfl⟩
    · unfold sqE at h0
      rw [if_neg (by rw [h]; decide)] at h0
      exact absurd h0 (by decide)
    · unfold sqE at h0
      rw [if_pos (checkE_ok hR hC rfl)] at h0
      by_cases e : (R : Int) = (C : Int)
      · obtain rfl : R = C := by omega
        have hK4 : R * R ≤ 4096 := Nat.mul_le_mul hR hR
        have k1 := hr.rde (by omega) (fun i hi => by have := hx i hi; omega)
        have k2 := hp.rde (by omega) (fun i hi => by have := hpx i hi; omega)
        have k3 := hq.rde (by omega) (fun i hi => by have := hqx i hi; omega)
        by_cases hs : szE (fun i => (rp i).val) la ≤ 257 ∧ szE (fun i => (rq i).val) lb ≤ 257
        · exact Ats_few R 1048576 1048576 la lb xp xq _ _ _ _ w hR (by omega) (by omega) k1 (hr.zbs hx) k2 k3 (hp.zbs hpx) (hq.zbs hqx) hla hs
        · exact Ats_many R 1048576 1048576 la lb xp xq _ _ _ _ w hR (by omega) (by omega) k1 (hr.zbs hx) k2 k3 (hp.zbs hpx) (hq.zbs hqx) hla (by omega)
      · rw [if_neg e] at h0
        exact absurd h0 (by decide)
  · exact Ats_head r c a n cap xp xq (by omega) h0 w
end Go.Proofs.Ytejliecmdkmgiaa

namespace Go.Proofs.Ytejliecmdkmgiaa.charpolyAts
open Go.ChangeShapes Go.WideShapes Go.ChangeAt Go.RowKit

theorem own : ownKnob Try.prog.godebug = none := by kernel_rfl

set_option maxRecDepth 100000 in
theorem contract (H : Type) (enc : TypeId × Value → H) (W : World) (base : Nat) (args : Array Value) (ds gs : List (DataW H)) (before : List MemPlace)
    (hval : ∀ (j : Nat) t v, Try.f7.params[j]? = some t → args[j]? = some v → Value.okWide Try.prog W .any base t v)
    (hW : DataW.Whole enc Try.prog Try.f7.params.toList Rows.charpolyAtsSpec.vars false W args.toList ds gs before) (hk : Rows.uptoSmall H (ds ++ gs) = true) :
    Calls Try.prog 7 args W fun e W' => ∃ v, e = .returned v ∧ Rows.charpolyAtsSpec.post enc Try.prog Try.f7 false true false false W args v W' := by
  have hW' := hW
  have hlt : ∀ x ∈ before, x.block < W.heap.size := fun x hx => hW.lt x hx
  obtain ⟨p, q, hA0, hV, rfl, hfz, hnd⟩ := hW
  have hA : DataW.TrodAll enc Try.prog W 0 (fun _ => true) true Try.f7.params.toList args.toList ds p := hA0
  rw [Try.params7] at hA hval
  obtain ⟨v0, vs0, d0, ds0, p0, q0, hargs, rfl, rfl, h0, r0⟩ := trodAll_cons hA
  obtain ⟨v1, vs1, d1, ds1, p1, q1, rfl, rfl, rfl, h1, r1⟩ := trodAll_cons r0
  obtain ⟨v2, vs2, d2, ds2, p2, q2, rfl, rfl, rfl, h2, r2⟩ := trodAll_cons r1
  obtain ⟨rfl, rfl, rfl⟩ := trodAll_nil r2
  obtain rfl : args = #[v0, v1, v2] := by cases args; simp_all
  obtain ⟨rfl, rfl⟩ := trodVars_none hV
  have h0k := h0
  have h1k := h1
  have h2k := h2
  clear hA0
  simp only [List.append_nil] at hW' hk hlt
  have hbk : Rows.uptoBulkAll [d0, d1, d2] ≤ 1048576 := of_decide_eq_true hk
  simp only [Rows.uptoBulkAll] at hbk
  obtain ⟨a0, l0, c0, rfl⟩ := okWide_slice Try.underlying22 (hval 0 22 v0 rfl rfl)
  obtain ⟨fuel0, h0⟩ := h0
  have h0 : DataW.trod enc Try.prog W 0 (fun _ => true) true fuel0 22 [.slice a0 l0 c0] = some (d0, p0) := h0
  obtain ⟨n0, x0, hr0, hn0, hx0⟩ := open_list (B := Rows.uptoBulk d0) h0 (Nat.le_refl _) (by omega)
  obtain ⟨a1, l1, c1, rfl⟩ := okWide_slice Try.underlying22 (hval 1 22 v1 rfl rfl)
  obtain ⟨fuel1, h1⟩ := h1
  have h1 : DataW.trod enc Try.prog W 0 (fun _ => true) true fuel1 22 [.slice a1 l1 c1] = some (d1, p1) := h1
  obtain ⟨n1, x1, hr1, hn1, hx1⟩ := open_list (B := Rows.uptoBulk d1) h1 (Nat.le_refl _) (by omega)
  obtain ⟨R2, C2, s2, n2, x2, rfl, hr2, hn2, hx2, -, -⟩ := open_mat (B := 1048576) (hval 2 24 v2 rfl rfl) h2 (by omega) (by omega)
  refine (Ats_law _ _ n0 n1 x0 x1 R2 C2 s2 n2 x2 W hr0 (fun i hi => by have := hx0 i hi; omega) hr1 (fun i hi => by have := hx1 i hi; omega) hr2 hx2 (by omega)).mono fun e W' ⟨he, hg⟩ => ?_
  subst he
  refine ⟨_, rfl, post_of_below (pa := (p0 ++ (p1 ++ (p2 ++ [])))) (pv := []) hW' (fun _ _ _ => (trodAll_cons_mk (shut_bool Try.underlying4 _) trodAll_mk0)) (fun sp hsp => (trodAll_cons_mk (WideElems.Trod_stays (P := Try.prog) (by kernel_rfl) (by kernel_rfl) (of_decide_eq_true (by kernel_rfl)) h0k (fun x hx => hg.same (hlt x (by simp [hx]))) (fun x hx => hsp x (by simp [hx]))) (trodAll_cons_mk (WideElems.Trod_stays (P := Try.prog) (by kernel_rfl) (by kernel_rfl) (of_decide_eq_true (by kernel_rfl)) h1k (fun x hx => hg.same (hlt x (by simp [hx]))) (fun x hx => hsp x (by simp [hx]))) (trodAll_cons_mk (WideElems.Trod_stays (P := Try.prog) (by kernel_rfl) (by kernel_rfl) (of_decide_eq_true (by kernel_rfl)) h2k (fun x hx => hg.same (hlt x (by simp [hx]))) (fun x hx => hsp x (by simp [hx]))) trodAll_mk0)))) (fun _ _ => rfl) (by simp)
    hg (ok_one (by kernel_rfl) rfl (okWide_bool_mk Try.underlying4 _))⟩

set_option maxRecDepth 100000 in
theorem lifted (os : Os) (started : os.Started) (H : Type) (enc : TypeId × Value → H) (F : Stop.Interp) :
    ReturnsInHanded {} Try.checked os 7 .any ((Rows.OpenSpec.upto Rows.charpolyAtsSpec).pre6 enc Try.prog Try.f7 Rows.charpolyAtsUptoRow.domain false) (((Rows.OpenSpec.upto Rows.charpolyAtsSpec).at F).post enc Try.prog Try.f7 false true false false) := by
  refine returnsInHanded_of_cond (C := Try.checked) (s := Rows.OpenSpec.upto Rows.charpolyAtsSpec) (k := Rows.uptoSmall) rfl own started (by kernel_rfl) Try.func7
    (OpenSpec.witness (enc := enc) (C := Try.checked) (s := Rows.OpenSpec.upto Rows.charpolyAtsSpec) (k := Rows.uptoSmall) rfl false ⟨#[], #[.slice none 0 0, .slice none 0 0, .agg #[.int .i64 0, .int .i64 0, .slice none 0 0]], []⟩ 8 (by kernel_rfl) (by kernel_rfl) (by kernel_rfl)
      (x := ([.nil, .nil, .agg [.lit (.int .i64 0), .lit (.int .i64 0), .nil]], [], [])) (by kernel_rfl) rfl (by kernel_rfl)) ?_
  intro W base args ds gs before hval hW _ hk _
  exact contract H enc W base args ds gs before hval hW hk

/-- the statement -/
theorem proved : Rows.CharpolyAtsUptoSaid :=
  OpenClaim.holds_of_cond 7 Try.f7 rfl rfl rfl rfl rfl rfl rfl ⟨rfl, rfl, rfl, rfl, rfl⟩ rfl rfl rfl rfl rfl (by kernel_rfl) Try.func7 (by kernel_rfl)
    (of_decide_eq_true (by kernel_rfl)) (by unfold Func.isWrapper; first | (rw [if_pos (by decide +kernel)]; kernel_rfl) | (rw [if_neg (by decide +kernel)]; exact ⟨rfl, rfl⟩))
    (fun os started H enc _ F => lifted os started H enc F)
#print axioms proved
end Go.Proofs.Ytejliecmdkmgiaa.charpolyAts
