/- The walk of the law ModpKernels. The law ModpKernels, whatever is handed in. 'ModpKernels', where what it reads is of bulk at most 1,048,576: for every a and p the law returns true and its arguments read as before. -/
import Derived.Test.YtdlpemmoobbgnaaGK
import Derived.Deep.RegionHeld3
import Derived.Deep.DeepCutAuto
import Derived.Test.YtdlpemmoobbgnaaRows
import Derived.Test.YtdlpemmoobbgnaaGI
import Derived.ProofKit
import Derived.OpenShut
import Derived.Carry
import Derived.JoinedCond
set_option linter.unusedVariables false
set_option linter.unusedSimpArgs false
namespace Go.Proofs.Ytdlpemmoobbgnaa
open Go.RowKit

/-- the integers that the law puts together for one row -/
def rowX (x : Nat → Raw) (C : Nat) (P : Nat → Nat) (r i : Nat) : Nat → Raw := fun j => if j < r then x (i * C + P j) else small 0
theorem rowX_n {x : Nat → Raw} {C : Nat} {P : Nat → Nat} {r i j : Nat} (h : j < r → (x (i * C + P j)).n ≤ 1048576) : (rowX x C P r i j).n ≤ 1048576 := by
  unfold rowX; split
  · rename_i e; exact h e
  · exact Nat.zero_le _
theorem rowX_val {x : Nat → Raw} {C : Nat} {P : Nat → Nat} {r i j : Nat} : (rowX x C P r i j).val = if j < r then (x (i * C + P j)).val else 0 := by
  unfold rowX; split
  · rfl
  · exact small_val (by omega)

set_option maxHeartbeats 8000000 in
set_option maxRecDepth 100000 in
theorem Kernels_good (R C : Nat) (p : Int) (hR : R ≤ 64) (hC : C ≤ 64) (hp : primeB p = true) (s : Value) (x : Nat → Raw) (w : World) (hr : RdL w s (R * C) x) (hsz : ∀ i, i < R * C → (x i).n ≤ 1048576) :
    Calls Try.prog 9 #[.agg #[.int .i64 R, .int .i64 C, s], .int .u64 p] w fun e w' => e = .returned (.bool true) ∧ Below w.heap.size w w' := by
  obtain ⟨a, cap, rfl, hn⟩ := hr.slice
  obtain ⟨p0, p1⟩ := primeB_bd hp
  have hRC : R * C ≤ 4096 := Nat.mul_le_mul hR hC
  have hCR : C * R ≤ 4096 := Nat.mul_le_mul hC hR
  have hsA := fun W => sound_any R C a (R * C) cap hn W
  rw [show soundB R C (R * C) = true by unfold soundB sideB; simp; omega] at hsA
  have hpr := fun W => prime_any p (by omega) W
  rw [hp] at hpr
  obtain ⟨hb0, hx⟩ := box_mat w (.int .i64 R) (.int .i64 C) (.slice a (R * C) cap) 34
  obtain ⟨r, hrk⟩ : ∃ r, r = (redS p R C (resG p C x) C).P.length := ⟨_, rfl⟩
  obtain ⟨P, hP⟩ : ∃ P : Nat → Nat, P = fun i => (redS p R C (resG p C x) C).P.getD i 0 := ⟨_, rfl⟩
  obtain ⟨y, hy⟩ : ∃ y : Nat → Int, y = fun t => (redS p R C (resG p C x) C).G (t / C) (t % C) := ⟨_, rfl⟩
  obtain ⟨Q, hQ⟩ : ∃ Q, Q = R - kerR p R C x := ⟨_, rfl⟩
  have hst := ech_sta hp R C x
  rw [← hrk, ← hP, ← hy] at hst
  have hst2 := ker_sta hp R C x
  have hkr := ker_rank hp R C x
  rw [← hrk] at hkr
  have hkz := ker_zero hp R C x
  obtain ⟨k, hk⟩ : ∃ k : Nat → Int, k = fun t => (kerS p R C x).G (t / R) (t % R) := ⟨_, rfl⟩
  obtain ⟨Pk, hPk⟩ : ∃ P : Nat → Nat, P = fun i => (kerS p R C x).P.getD i 0 := ⟨_, rfl⟩
  have hker := fun W h => Kernel_rd R C p hR hC hp (.slice a (R * C) cap) x W h
  simp only [← hQ] at hker
  rw [← hQ, ← hk, ← hPk] at hst2
  rw [← hQ, ← hk] at hkz
  have hkb : ∀ t, t < Q * R → 0 ≤ k t ∧ k t < p := by
    intro t ht
    rw [hQ] at ht
    obtain ⟨g1, g2⟩ := mul_idx (K := R) ht
    rw [hk]
    exact kerS_res p p0 R C x _ _ g1 g2
  have hyb : ∀ t, t < R * C → 0 ≤ y t ∧ y t < p := by
    intro t ht
    obtain ⟨g1, g2⟩ := mul_idx (K := R) ht
    rw [hy]
    exact redS_res p0 (resG_res p (by omega) R C C x) C _ _ g1 g2
  have hle := hst.le
  have hQr : Q + r = R := by omega
  have hech := fun W h => Echelon_rd R C p hR hC hp (.slice a (R * C) cap) x W h
  have hrank := fun W h => Rank_rd R C p hR hC hp (.slice a (R * C) cap) x W h
  have hrankt := fun (s : Value) xt W h => Rank_rd C R p hC hR hp s xt W h
  have hrow : ∀ i j, i < R → j < C → (dotZ (fun q => (rowX x C P r i q).val) (fun k => y (k * C + j)) R - (x (i * C + j)).val) % p = 0 := fun i j hi hj => by
    rw [hy]; exact row_hangs hp R C x hi hj _ (fun k _ => by rw [rowX_val, hrk, hP])
  have htr := fun (xt : Nat → Raw) ht => turn_rank (R := R) (C := C) (xa := x) (xt := xt) hp ht
  have HA := Lib.hid hr
  have HSA := Lib.hid hsz
  have HSDA := Lib.hid hsA
  have HPR := Lib.hid hpr
  have HP := Lib.hid hp
  have HST := Lib.hid hst
  have HST2 := Lib.hid hst2
  have HKZ := Lib.hid hkz
  have HKB := Lib.hid hkb
  have HYB := Lib.hid hyb
  have HKER := Lib.hid hker
  have HECH := Lib.hid hech
  have HRANK := Lib.hid hrank
  have HRANKT := Lib.hid hrankt
  have HROW := Lib.hid hrow
  have HTR := Lib.hid htr
  have HY := Lib.hid hy
  have HK := Lib.hid hk
  have HRK := Lib.hid hrk
  have HPP := Lib.hid hP
  have hQR : Q ≤ R := by omega
  have hq1 : Q + r ≤ R := by omega
  have hq2 : R ≤ Q + r := by omega
  have hH : Has (w.alloc (.cells #[.int .i64 R, .int .i64 C, .slice a (R * C) cap] 34)) [(_, _), (_, _), (_, _)] := ⟨hx.1, hx.2.1, hx.2.2, trivial⟩
  have H0 := Lib.hid hH
  have G0 := Lib.hid (And.intro hb0 hb0.size)
  clear hr hsz hsA hpr hp hst hst2 hkz hkb hyb hker hech hrank hrankt hrow htr hy hk hrk hP hQ hkr hPk hQr hb0 hH
  obtain ⟨x0, x1, x2⟩ := hx
  go_enter Try.func9, Try.ntmps9
  go_wp2_with fail
  refine (wakes_any _).mono ?_
  rintro e w1 ⟨rfl, hb1⟩
  have G1 := Lib.hid (stage G0.out.1 G0.out.2 hb1)
  have H1 := Lib.hid (H0.out.below hb1)
  clear x0 x1 x2 hb1
  obtain ⟨x0, x1, x2, -⟩ := H1.out
  dsimp only at x0 x1 x2
  go_wp2_with fail
  refine (HSDA.out _).mono ?_
  rintro e w2 ⟨rfl, hb2⟩
  have G2 := Lib.hid (stage G1.out.1 G1.out.2 hb2)
  have H2 := Lib.hid (H1.out.below hb2)
  clear x0 x1 x2 hb2
  obtain ⟨x0, x1, x2, -⟩ := H2.out
  dsimp only at x0 x1 x2
  go_wp2_with (go_at_call 14; refine (HPR.out _).mono ?_; rintro e w4 ⟨rfl, rfl⟩)
  -- the transpose
  refine (Turn_rd R C hR hC _ _ 1048576 (by omega) _ ((HA.out.below G2.out.1).rdn HSA.out)).mono ?_
  rintro e w3 ⟨l3, rfl, ⟨xt, hrd3, hxt⟩, hb3⟩
  have G3 := Lib.hid (stage3 G2.out hb3 (.int .i64 C) (.int .i64 R) (.slice (some ⟨l3, 0, none⟩) (C * R) (C * R)) 34)
  have H3 := Lib.hid ((H2.out.below hb3).box (.int .i64 C) (.int .i64 R) (.slice (some ⟨l3, 0, none⟩) (C * R) (C * R)) 34)
  have R3 := Lib.hid (hrd3.below (box_mat w3 (.int .i64 C) (.int .i64 R) (.slice (some ⟨l3, 0, none⟩) (C * R) (C * R)) 34).1)
  have HT := Lib.hid (HTR.out xt (fun t ht => (hxt t ht).2))
  clear x0 x1 x2 hb3 hrd3 hxt HTR
  obtain ⟨t0, t1, t2, x0, x1, x2, -⟩ := H3.out
  dsimp only at t0 t1 t2 x0 x1 x2
  go_wp2_with fail
  -- the ranks
  refine (HRANK.out _ (HA.out.below G3.out.1)).mono ?_
  rw [← HRK.out]
  rintro e w5 ⟨rfl, hb5⟩
  have G5 := Lib.hid (stage G3.out.1 G3.out.2 hb5)
  have H5 := Lib.hid (H3.out.below hb5)
  have R5 := Lib.hid (R3.out.below hb5)
  clear t0 t1 t2 x0 x1 x2 hb5 R3
  obtain ⟨t0, t1, t2, x0, x1, x2, -⟩ := H5.out
  dsimp only at t0 t1 t2 x0 x1 x2
  go_wp2_with fail
  refine (HRANKT.out _ _ _ R5.out).mono ?_
  rw [HT.out, ← HRK.out]
  rintro e w6 ⟨rfl, hb6⟩
  have G6 := Lib.hid (stage G5.out.1 G5.out.2 hb6)
  have H6 := Lib.hid (H5.out.below hb6)
  clear t0 t1 t2 x0 x1 x2 hb6 R5
  obtain ⟨-, -, -, x0, x1, x2, -⟩ := H6.out
  dsimp only at x0 x1 x2
  go_wp2_with fail
  -- the echelon form
  refine (HECH.out _ (HA.out.below G6.out.1)).mono ?_
  rintro e w7 ⟨l7, rfl, hrd7, hb7⟩
  have hrd7' : RdL w7 (.slice (some ⟨l7, 0, none⟩) (R * C) (R * C)) (R * C) (fun t => small (y t)) := by rw [HY.out]; exact hrd7
  have G7 := Lib.hid (stage3 G6.out hb7 (.int .i64 R) (.int .i64 C) (.slice (some ⟨l7, 0, none⟩) (R * C) (R * C)) 34)
  have H7 := Lib.hid ((H6.out.below hb7).box (.int .i64 R) (.int .i64 C) (.slice (some ⟨l7, 0, none⟩) (R * C) (R * C)) 34)
  have R7 := Lib.hid (hrd7'.below (box_mat w7 (.int .i64 R) (.int .i64 C) (.slice (some ⟨l7, 0, none⟩) (R * C) (R * C)) 34).1)
  clear x0 x1 x2 hb7 hrd7 hrd7'
  obtain ⟨m0, m1, m2, -, -, -, x0, x1, x2, -⟩ := H7.out
  dsimp only at m0 m1 m2 x0 x1 x2
  go_wp2_with fail
  -- the kernel
  refine (HKER.out _ (HA.out.below G7.out.1)).mono ?_
  rintro e w8 ⟨l8, rfl, hrd8, hb8⟩
  have hrd8' : RdL w8 (.slice (some ⟨l8, 0, none⟩) (Q * R) (Q * R)) (Q * R) (fun t => small (k t)) := by rw [HK.out]; exact hrd8
  have G8 := Lib.hid (stage3 G7.out hb8 (.int .i64 Q) (.int .i64 R) (.slice (some ⟨l8, 0, none⟩) (Q * R) (Q * R)) 34)
  have H8 := Lib.hid ((H7.out.below hb8).box (.int .i64 Q) (.int .i64 R) (.slice (some ⟨l8, 0, none⟩) (Q * R) (Q * R)) 34)
  have B8 := hb8.trans ((box_mat w8 (.int .i64 Q) (.int .i64 R) (.slice (some ⟨l8, 0, none⟩) (Q * R) (Q * R)) 34).1.mono hb8.size)
  have R8 := Lib.hid (hrd8'.below (box_mat w8 (.int .i64 Q) (.int .i64 R) (.slice (some ⟨l8, 0, none⟩) (Q * R) (Q * R)) 34).1)
  have R7b := Lib.hid (R7.out.below B8)
  clear m0 m1 m2 x0 x1 x2 hb8 hrd8 hrd8' B8 R7
  obtain ⟨k0, k1, k2, m0, m1, m2, -, -, -, x0, x1, x2, -⟩ := H8.out
  dsimp only at k0 k1 k2 m0 m1 m2 x0 x1 x2
  go_wp2_with fail
  have hsdm := fun W => sound_any R C (some ⟨l7, 0, none⟩) (R * C) (R * C) (by omega) W
  rw [show soundB R C (R * C) = true by unfold soundB sideB; simp; omega] at hsdm
  refine (hsdm _).mono ?_
  rintro e wa ⟨rfl, hba⟩
  have Ga := Lib.hid (stage G8.out.1 G8.out.2 hba)
  have Ha := Lib.hid (H8.out.below hba)
  have Ra7 := Lib.hid (R7b.out.below hba)
  have Ra8 := Lib.hid (R8.out.below hba)
  clear hsdm k0 k1 k2 m0 m1 m2 x0 x1 x2 hba R7b R8
  obtain ⟨k0, k1, k2, m0, m1, m2, -, -, -, x0, x1, x2, -⟩ := Ha.out
  dsimp only at k0 k1 k2 m0 m1 m2 x0 x1 x2
  go_wp2_with fail
  have hQR2 : Q * R ≤ 4096 := Nat.mul_le_mul (show Q ≤ 64 by omega) hR
  have hsdk := fun W => sound_any Q R (some ⟨l8, 0, none⟩) (Q * R) (Q * R) (by omega) W
  rw [show soundB Q R (Q * R) = true by unfold soundB sideB; simp; omega] at hsdk
  refine (hsdk _).mono ?_
  rintro e wb ⟨rfl, hbb⟩
  have Gb := Lib.hid (stage Ga.out.1 Ga.out.2 hbb)
  have Hb := Lib.hid (Ha.out.below hbb)
  have Rb7 := Lib.hid (Ra7.out.below hbb)
  have Rb8 := Lib.hid (Ra8.out.below hbb)
  clear hsdk k0 k1 k2 m0 m1 m2 x0 x1 x2 hbb Ra7 Ra8
  obtain ⟨k0, k1, k2, m0, m1, m2, -, -, -, x0, x1, x2, -⟩ := Hb.out
  dsimp only at k0 k1 k2 m0 m1 m2 x0 x1 x2
  have hqb : ((Q : Int) != (R : Int) - r) = false := bne_eq_false_iff_eq.2 (by omega)
  go_wp2_with fail
  clear hqb
  -- least residues
  refine (least_yes _ (R * C) _ p _ Rb7.out (fun t ht => SmallB.small (HYB.out t ht).1 (HYB.out t ht).2)).mono ?_
  rintro e w' ⟨rfl, rfl⟩
  go_wp2_with fail
  refine (least_yes _ (Q * R) _ p _ Rb8.out (fun t ht => SmallB.small (HKB.out t ht).1 (HKB.out t ht).2)).mono ?_
  rintro e w' ⟨rfl, rfl⟩
  go_wp2_with fail
  -- the stairs
  refine (stairs_yes R C r hR hC P y HST.out _ _ Rb7.out).mono ?_
  rintro e wc ⟨pv, rfl, hoc, hbc⟩
  obtain ⟨pa, pc, rfl⟩ := own_slice hoc
  have Gc := Lib.hid (stage Gb.out.1 Gb.out.2 hbc)
  have Hc := Lib.hid (Hb.out.below hbc)
  have Rc7 := Lib.hid (Rb7.out.below hbc)
  have Rc8 := Lib.hid (Rb8.out.below hbc)
  have OC := Lib.hid (own_fr hoc (by omega))
  clear k0 k1 k2 m0 m1 m2 x0 x1 x2 hbc Rb7 Rb8 hoc
  obtain ⟨k0, k1, k2, m0, m1, m2, -, -, -, x0, x1, x2, -⟩ := Hc.out
  dsimp only at k0 k1 k2 m0 m1 m2 x0 x1 x2
  go_wp2_with fail
  refine (stairs_yes Q R Q (by omega) hR Pk k HST2.out _ _ Rc8.out).mono ?_
  rintro e wd ⟨pv, rfl, hod, hbd⟩
  obtain ⟨pa2, pc2, rfl⟩ := own_slice hod
  have Gd := Lib.hid (stage Gc.out.1 Gc.out.2 hbd)
  have Hd := Lib.hid (Hc.out.below hbd)
  have Rd7 := Lib.hid (Rc7.out.below hbd)
  have Rd8 := Lib.hid (Rc8.out.below hbd)
  have OD := Lib.hid (OC.out.below hbd)
  clear k0 k1 k2 m0 m1 m2 x0 x1 x2 hbd Rc7 Rc8 hod OC
  obtain ⟨k0, k1, k2, m0, m1, m2, -, -, -, x0, x1, x2, -⟩ := Hd.out
  dsimp only at k0 k1 k2 m0 m1 m2 x0 x1 x2
  go_wp2_with fail
  -- the kernel times a
  refine (Mul_rd Q R C (by omega) hR hC _ _ _ _ 1 1048576 (by omega) _ (Rd8.out.smalls (fun t ht => ⟨(HKB.out t ht).1, by have := (HKB.out t ht).2; omega⟩)) ((HA.out.below Gd.out.1).rdn HSA.out)).mono ?_
  rintro e we ⟨le, rfl, ⟨xz, hrde, hxz⟩, hbe⟩
  have hQC : Q * C ≤ 4096 := Nat.mul_le_mul (show Q ≤ 64 by omega) hC
  have Ge := Lib.hid (stage3 Gd.out hbe (.int .i64 Q) (.int .i64 C) (.slice (some ⟨le, 0, none⟩) (Q * C) (Q * C)) 34)
  have He := Lib.hid ((Hd.out.below hbe).box (.int .i64 Q) (.int .i64 C) (.slice (some ⟨le, 0, none⟩) (Q * C) (Q * C)) 34)
  have B9 := hbe.trans ((box_mat we (.int .i64 Q) (.int .i64 C) (.slice (some ⟨le, 0, none⟩) (Q * C) (Q * C)) 34).1.mono hbe.size)
  have Re7 := Lib.hid (Rd7.out.below B9)
  have OE := Lib.hid (OD.out.below B9)
  have hd3 := box_mat we (.int .i64 Q) (.int .i64 C) (.slice (some ⟨le, 0, none⟩) (Q * C) (Q * C)) 34
  have hzy := zero_yes _ (Q * C) xz p (by omega) (by omega) _ (hrde.below hd3.1) (fun t ht => ⟨by have := (hxz t ht).1; omega, by rw [(hxz t ht).2]; exact HKZ.out t ht⟩)
  have HZY := Lib.hid hzy
  obtain ⟨-, -, -, d2⟩ := hd3
  clear k0 k1 k2 m0 m1 m2 x0 x1 x2 hbe hrde hxz hzy Rd7 Rd8 OD B9
  go_wp2_with fail
  refine HZY.out.mono ?_
  rintro e wl ⟨rfl, hbl⟩
  have Gl := Lib.hid (stage Ge.out.1 Ge.out.2 hbl)
  have Hl := Lib.hid (He.out.below hbl)
  have Rl7 := Lib.hid (Re7.out.below hbl)
  have OL := Lib.hid (OE.out.below hbl)
  clear hbl Re7 OE d2 HZY
  obtain ⟨-, -, -, -, -, -, m0, m1, m2, -, -, -, x0, x1, x2, -⟩ := Hl.out
  dsimp only at m0 m1 m2 x0 x1 x2
  go_wp2_with fail
  clear HKER HECH HRANK HRANKT HSDA HPR HST2 HKZ HKB H0 H1 H2 H3 H5 H6 H7 H8 Ha Hb Hc Hd He G0 G1 G2 G3 G5 G6 G7 G8 Ga Gb Gc Gd Ge HT
  clear m0 m1 m2 x0 x1 x2
  have hpiv : ∀ j, j < r → ∃ b o, pa = some ⟨b, o, none⟩ ∧ wl.cell? ⟨b, o + j, none⟩ = some (.int .i64 (P j)) := fun j hj => by
    obtain ⟨a', cap', e, -, -, h⟩ := OL.out.read
    obtain ⟨b, o, e', hc⟩ := h (by omega)
    injection e with e1 _ _
    exact ⟨b, o, by rw [e1, e'], hc j hj⟩
  have hall : ∀ wr, Below wl.heap.size wl wr → RdL wr (.slice a (R * C) cap) (R * C) x := fun wr h => HA.out.below (Gl.out.1.trans (h.mono Gl.out.2))
  have HPV := Lib.hid hpiv
  have HAL := Lib.hid hall
  clear hpiv hall OL HA
  go_loopw [21] (fun iv wr => ∃ i : Nat, i ≤ R ∧ iv = .int .i64 i ∧ Below wl.heap.size wl wr) (fun iv _ => R - (intOf iv).toNat)
  case atStart => exact ⟨0, by omega, rfl, Below.refl _ _⟩
  case round =>
    obtain ⟨i, i1, rfl, hbi⟩ := hrel
    obtain ⟨wo, rfl⟩ : ∃ wo : World, wo = wr := ⟨_, rfl⟩
    have Ho := Lib.hid (Hl.out.below hbi)
    obtain ⟨-, -, -, -, -, -, m0, m1, m2, -, -, -, x0, x1, x2, -⟩ := Ho.out
    dsimp only at m0 m1 m2 x0 x1 x2
    have HBI := Lib.hid hbi
    clear hbi
    by_cases hi : i < R
    · go_wp2_with fail
      clear m0 m1 m2 x0 x1 x2
      go_loopw [22, 23] (fun cv jv wr => ∃ j : Nat, j ≤ R ∧ jv = .int .i64 j ∧ OwnI wl wr wl.heap.size cv j (rowX x C P r i) ∧ Below wl.heap.size wl wr) (fun _ jv _ => R - (intOf jv).toNat)
      case atStart => exact ⟨0, by omega, rfl, OwnI.start _ _ _ _, HBI.out⟩
      case round =>
        obtain ⟨j, j1, rfl, hown, hbj⟩ := hrel
        obtain ⟨ca, cc, rfl⟩ := hown.slice
        obtain ⟨-, -, -, -, -, -, m0, m1, m2, -, -, -, x0, x1, x2, -⟩ := Hl.out.below hbj
        dsimp only at m0 m1 m2 x0 x1 x2
        have HOW := Lib.hid hown
        have HBJ := Lib.hid hbj
        have hszj := hbj.size
        clear hown hbj
        by_cases hj : j < R
        · by_cases hjr : j < r
          · obtain ⟨pb, po, rfl, hpc⟩ := HPV.out j hjr
            replace hpc := cell_stays HBJ.out hpc
            have hPC := HST.out.lt j hjr
            obtain ⟨q, hq⟩ : ∃ q, q = i * C + P j := ⟨_, rfl⟩
            have hqN : q < R * C := by rw [hq]; exact prod_lt hi hPC
            obtain ⟨e3, e4⟩ := prod64 (r := i) (c := C) (by omega) (by omega)
            have e2 : (i : Int) * C + P j = q := by rw [hq]; simp
            have g2 : IntKind.i64.wrap ((i : Int) * C) = (i : Int) * C := IntWalk.i64_in _ (by omega)
            have g3 : IntKind.i64.wrap ((q : Nat) : Int) = q := IntWalk.i64_in _ (by omega)
            have g4 : IntKind.i64.wrap ((i : Int) * C + P j) = q := by rw [e2]; exact g3
            have g0 : (0 : Int) ≤ (q : Int) := by omega
            have g1 : (q : Int) < ((R * C : Nat) : Int) := by omega
            have g1' : (q : Int) < (R : Int) * (C : Int) := by have := g1; push_cast at this; exact this
            have g5 : (0 : Int) ≤ (j : Int) := by omega
            have g6 : (j : Int) < (r : Int) := by omega
            obtain ⟨ab, ao, rfl, mv, c0, c1, c2⟩ := rdl_at (HAL.out wl (Below.refl _ _)) hqN
            obtain ⟨ad, cd, rfl, -⟩ := c2.1
            have HC2 := Lib.hid c2
            replace c0 := cell_stays HBJ.out c0
            replace c1 := cell_stays HBJ.out c1
            have hz := cells2 wr (.bool false) (.slice none 0 0) 56
            obtain ⟨hb3, z0, z1, -⟩ := zero_boxed wr 56
            have z2 := (hz 0 _ rfl).2
            have z3 := (hz 1 _ rfl).2
            have HB3 := Lib.hid hb3
            have hx0 : rowX x C P r i j = x q := by unfold rowX; rw [if_pos hjr, hq]
            have HX0 := Lib.hid hx0
            have HQ := Lib.hid hq
            replace c0 := cell_stays hb3 c0
            replace c1 := cell_stays hb3 c1
            replace hpc := cell_stays hb3 hpc
            replace x1 := cell_stays hb3 x1
            replace x2 := cell_stays hb3 x2
            clear hb3 hz hx0 hq e2 c2
            go_wp2_with fail
            generalize hw3 : wr.alloc (.cells #[.bool false, .slice none 0 0] 56) = w3 at *
            refine wp_region_still_tail 13 (by kernel_rfl) (by kernel_rfl) ?_
            simp only [List.take_succ_cons, List.take_zero, List.drop_succ_cons, List.drop_zero]
            repeat still_step
            refine wpStill_nil ?_
            change wpList _ _ _ _ _ w3.drew
            have hb4 : Below wr.heap.size wr ((w3.drew.setCell ⟨wr.heap.size, 0, none⟩ (.bool (x q).neg)).setCell ⟨wr.heap.size, 1, none⟩ (.slice ad (x q).n cd)) := (HB3.out.drew.setCell (p := ⟨_, 0, none⟩) (Nat.le_refl _) _).setCell (p := ⟨_, 1, none⟩) (Nat.le_refl _) _
            have HO3 := Lib.hid (HOW.out.below hb4)
            have HB4 := Lib.hid (HBJ.out.trans (hb4.mono HBJ.out.size))
            have hsz3 := HB4.out.size
            have hsz4 : wr.heap.size + 1 = ((w3.drew.setCell ⟨wr.heap.size, 0, none⟩ (.bool (x q).neg)).setCell ⟨wr.heap.size, 1, none⟩ (.slice ad (x q).n cd)).heap.size := by rw [← hw3]; simp [World.setCell]
            have HS4 := Lib.hid hsz4
            have HS3 := Lib.hid hsz3
            clear hb4 hsz3 hsz4 hw3
            go_wp2_with (at_builtin; refine wp_pushI rfl _ _ 32 rfl Try.underlying32 HO3.out rfl rfl (by simp [World.setCell]) HS3.out (by omega) (x q) rfl HC2.out ?_)
            intro v' w2 hown' hb2
            have HO4 := Lib.hid (hown'.congr (Y := rowX x C P r i) fun q _ => by
              by_cases e : q = j
              · simp only [if_pos e]; rw [e, HX0.out]
              · simp only [if_neg e])
            have HB5 := Lib.hid (HB4.out.trans hb2)
            clear hown' hb2
            go_wp2_with fail
            go_roundw
            case rel => exact ⟨j + 1, by omega, by go_num, HO4.out, HB5.out⟩
            case measure => simp [intOf]; omega
          · have hz := cells2 wr (.bool false) (.slice none 0 0) 56
            obtain ⟨hb3, z0, z1, -⟩ := zero_boxed wr 56
            have HB3 := Lib.hid hb3
            have HO3 := Lib.hid (HOW.out.below hb3)
            have hx0 : rowX x C P r i j = small 0 := by unfold rowX; rw [if_neg hjr]
            have HX0 := Lib.hid hx0
            have hsz3 : wl.heap.size ≤ (wr.alloc (.cells #[.bool false, .slice none 0 0] 56)).heap.size := by simp; omega
            clear hb3 hz hx0
            go_wp2_with (at_builtin; refine wp_pushI rfl _ _ 32 rfl Try.underlying32 HO3.out rfl rfl (by simp) hsz3 (by omega) (small 0) rfl ⟨⟨none, 0, rfl, Nat.le_refl _, Nat.zero_le _, fun h => absurd h (Nat.lt_irrefl 0)⟩, fun i hi => absurd hi (Nat.not_lt_zero i)⟩ ?_)
            intro v' w2 hown' hb2
            have HO4 := Lib.hid (hown'.congr (Y := rowX x C P r i) fun q _ => by
              by_cases e : q = j
              · simp only [if_pos e]; rw [e, HX0.out]
              · simp only [if_neg e])
            have HB4 := Lib.hid ((HBJ.out.trans (HB3.out.mono HBJ.out.size)).trans hb2)
            clear hown' hb2
            go_wp2_with fail
            go_roundw
            case rel => exact ⟨j + 1, by omega, by go_num, HO4.out, HB4.out⟩
            case measure => simp [intOf]; omega
        · have ejR : R = j := by omega
          subst ejR
          have hX := (HOW.out.read HBJ.out (by omega)).rdn (S := 1048576) (fun q _ => rowX_n (fun hq => HSA.out _ (prod_lt hi (HST.out.lt q hq))))
          have hM := (Rl7.out.below HBJ.out).smalls (fun t ht => ⟨(HYB.out t ht).1, by have := (HYB.out t ht).2; omega⟩)
          have HX := Lib.hid hX
          have HM := Lib.hid hM
          clear hX hM
          go_wp2_with fail
          refine (VecMul_any R C hR hC _ _ _ _ 1048576 1 (by omega) _ HX.out HM.out).mono ?_
          rintro e wv ⟨lv, rfl, ⟨xv, hrdv, hxv⟩, hbv⟩
          have hxz : ∀ j, j < C → (xv j).n ≤ 1048578 ∧ ((xv j).val - (x (i * C + j)).val) % p = 0 := fun j hj => ⟨(hxv j hj).1, by rw [(hxv j hj).2]; exact HROW.out i j hi hj⟩
          have HXZ := Lib.hid hxz
          have HRV := Lib.hid hrdv
          have HBV := Lib.hid (HBJ.out.trans (hbv.mono HBJ.out.size))
          clear hxv hxz hrdv hbv HX HM m0 m1 m2 x0 x1 x2 HOW HBJ hszj
          obtain ⟨-, -, -, -, -, -, -, -, -, -, -, -, x0, x1, x2, -⟩ := Hl.out.below HBV.out
          dsimp only at x0 x1 x2
          go_wp2_with fail
          clear x0 x1 x2
          go_loopw [27] (fun jv wr => ∃ j : Nat, j ≤ C ∧ jv = .int .i64 j ∧ Below wv.heap.size wv wr) (fun jv _ => C - (intOf jv).toNat)
          case atStart => exact ⟨0, by omega, rfl, Below.refl _ _⟩
          case round =>
            obtain ⟨j, j1, rfl, hbj⟩ := hrel
            have hbl := HBV.out.trans (hbj.mono HBV.out.size)
            obtain ⟨-, -, -, -, -, -, -, -, -, -, -, -, x0, x1, x2, -⟩ := Hl.out.below hbl
            dsimp only at x0 x1 x2
            have HBL := Lib.hid hbl
            have HBJ := Lib.hid hbj
            clear hbl hbj
            by_cases hj : j < C
            · obtain ⟨q, hq⟩ : ∃ q, q = i * C + j := ⟨_, rfl⟩
              have hqN : q < R * C := by rw [hq]; exact prod_lt hi hj
              obtain ⟨e3, e4⟩ := prod64 (r := i) (c := C) (by omega) (by omega)
              have e2 : (i : Int) * C + j = q := by rw [hq]; simp
              have g2 : IntKind.i64.wrap ((i : Int) * C) = (i : Int) * C := IntWalk.i64_in _ (by omega)
              have g3 : IntKind.i64.wrap ((q : Nat) : Int) = q := IntWalk.i64_in _ (by omega)
              have g4 : IntKind.i64.wrap ((i : Int) * C + j) = q := by rw [e2]; exact g3
              have g0 : (0 : Int) ≤ (q : Int) := by omega
              have g1 : (q : Int) < ((R * C : Nat) : Int) := by omega
              have g1' : (q : Int) < (R : Int) * (C : Int) := by have := g1; push_cast at this; exact this
              have g5 : (0 : Int) ≤ (j : Int) := by omega
              have g6 : (j : Int) < (C : Int) := by omega
              obtain ⟨vb, vo, ev, mv, c0, c1, c2⟩ := rdl_at (HRV.out.below HBJ.out) hj
              injection ev with ev
              injection ev with e5 e6 _
              subst e5; subst e6
              rw [Nat.zero_add] at c0 c1
              obtain ⟨ab, ao, rfl, ma, d0, d1, d2⟩ := rdl_at (HAL.out wr HBL.out) hqN
              obtain ⟨av, cv, rfl, -⟩ := c2.1
              obtain ⟨aa, ca', rfl, -⟩ := d2.1
              have hr1 : RdZ wr (.agg #[.bool (xv j).neg, .slice av (xv j).n cv]) (xv j).val := ⟨xv j, ⟨_, rfl, c2⟩, rfl, by have := (HXZ.out j hj).1; omega⟩
              have hr2 : RdZ wr (.agg #[.bool (x q).neg, .slice aa (x q).n ca']) (x q).val := ⟨x q, ⟨_, rfl, d2⟩, rfl, by have := HSA.out q hqN; omega⟩
              have hzb : ZB (1048578 + 1048576 + 1) ((xv j).val - (x q).val) := by
                rw [Int.sub_eq_add_neg]
                exact ((RdI.zb ⟨_, rfl, c2⟩).mono (HXZ.out j hj).1).add ((RdI.zb ⟨_, rfl, d2⟩).mono (HSA.out q hqN)).neg
              have hzm : ((xv j).val - (x q).val) % p = 0 := by rw [hq]; exact (HXZ.out j hj).2
              have cm1 : ∀ W, Below wr.heap.size wr W → Calls Try.prog 32 #[.agg #[.bool (xv j).neg, .slice av (xv j).n cv], .agg #[.bool (x q).neg, .slice aa (x q).n ca']] W fun e w' => ∃ bd ad nd cd, e = .returned (.agg #[.bool bd, .slice ad nd cd]) ∧
                  FrZ w' W.heap.size (.agg #[.bool bd, .slice ad nd cd]) ((xv j).val - (x q).val) ∧ Below wr.heap.size wr w' ∧ Below W.heap.size W w' := fun W hW => by
                refine (Sub05_any _ _ _ _ W (hr1.below hW) (hr2.below hW)).mono ?_
                rintro e w' ⟨v, rfl, hz, h3⟩
                obtain ⟨m, n', f, rfl, h1, h2⟩ := hz
                obtain ⟨a', c', rfl⟩ := h1.slice
                exact ⟨_, a', n', c', rfl, ⟨_, n', f, rfl, h1, h2⟩, hW.trans (h3.mono hW.size), h3⟩
              have CM1 := Lib.hid cm1
              have HZM := Lib.hid hzm
              have HZB := Lib.hid hzb
              have s1 := World.block_lt_of_cell? wr _ c0
              have s2 := World.block_lt_of_cell? wr _ d0
              have s3 := World.block_lt_of_cell? wr _ x1
              dsimp only at s1 s2 s3
              clear c2 d2 hr1 hr2 hzb hzm cm1 hq e2
              generalize (xv j).val - (x q).val = dz at *
              generalize (xv j).neg = ng at *
              generalize (xv j).n = nv at *
              generalize (x q).neg = nga at *
              generalize (x q).n = na at *
              go_upto_region 37 with fail
              go_cut [28] (fun v28 wx => ∃ (db : Nat) (bd : Bool) (ad : Option Addr) (nd cd : Nat), v28 = .pointer (some ⟨db, 0, none⟩) ∧ wx.cell? ⟨db, 0, none⟩ = some (.bool bd) ∧ wx.cell? ⟨db, 1, none⟩ = some (.slice ad nd cd) ∧ RdZ wx (.agg #[.bool bd, .slice ad nd cd]) dz ∧ Below wr.heap.size wr wx)
              case first =>
                go_region_held3 (fun w' => w'.cell? ⟨lv, j * 2, none⟩ = some (.bool ng) ∧ w'.cell? ⟨lv, j * 2 + 1, none⟩ = some (.slice av nv cv) ∧ w'.cell? ⟨ab, ao + q * 2, none⟩ = some (.bool nga) ∧ w'.cell? ⟨ab, ao + q * 2 + 1, none⟩ = some (.slice aa na ca') ∧
                    w'.cell? ⟨w.heap.size, 1, none⟩ = some (.int .i64 C) ∧ w'.cell? ⟨w.heap.size, 2, none⟩ = some (.slice (some ⟨ab, ao, none⟩) (R * C) cap))
                  (first
                    | go_keep
                    | (exact ⟨cell_stays hb8 c0, cell_stays hb8 c1, cell_stays hb8 d0, cell_stays hb8 d1, cell_stays hb8 x1, cell_stays hb8 x2⟩)
                    | (have hk := hb8.alloc hb8.size (.cells #[.bool bd, .slice ad nd cd] 56); exact ⟨cell_stays hk c0, cell_stays hk c1, cell_stays hk d0, cell_stays hk d1, cell_stays hk x1, cell_stays hk x2⟩)
                    | (have hk := (hb8.setCell (p := ⟨_, 0, none⟩) (Nat.le_refl _) (.bool bd)).setCell (p := ⟨_, 1, none⟩) (Nat.le_refl _) (.slice ad nd cd); exact ⟨cell_stays hk c0, cell_stays hk c1, cell_stays hk d0, cell_stays hk d1, cell_stays hk x1, cell_stays hk x2⟩))
                  (first
                    | (go_at_call 32; (with_reducible refine (CM1.out wr.drew ?_).mono ?_); exact (Below.refl _ _).drew; rintro e w8 ⟨bd, ad, nd, cd, rfl, hz8, hb8, hc8⟩)
                    | (go_at_call 32; (with_reducible refine (CM1.out (wr.alloc (.cells #[.bool false, .slice none 0 0] 56)).drew ?_).mono ?_); exact ((Below.refl _ _).alloc (Nat.le_refl _) _).drew; rintro e w7 ⟨bd, ad, nd, cd, rfl, hz8, hb8, hc8⟩; obtain ⟨j0, j1, j2, j3⟩ := box_kept' hc8))
                all_goals
                  go_wp2_with fail
                  go_meet
                  first
                    | exact ⟨_, _, _, _, _, rfl, fin_alloc _ hz8 HZB.out (by omega) hb8⟩
                    | exact ⟨_, _, _, _, _, rfl, fin_store hz8 HZB.out (by omega) hb8 j0 j1⟩
              case rest =>
                clear CM1 HZB d1 d0 c1 c0 x0 x1 x2
                obtain ⟨db, bd, ad, nd, cd, rfl, e0, e1, hrz, hbx⟩ := hcut
                have HZ1 := Lib.hid (zero_one hrz (by omega) (by omega) HZM.out 56)
                have HBX := Lib.hid (HBJ.out.trans (hbx.mono HBJ.out.size))
                clear hrz
                go_wp2_with (go_at_call 24; (with_reducible first | refine (HZ1.out _ (Below.refl _ _)).mono ?_ | refine (HZ1.out _ (Below.refl _ _).drew).mono ?_); rintro e w9 ⟨rfl, hb9⟩; have HB9 := Lib.hid (HBJ.out.trans ((hbx.trans (hb9.mono hbx.size)).mono HBJ.out.size)))
                go_roundw
                case rel => exact ⟨j + 1, by omega, by go_num, HB9.out⟩
                case measure => simp [intOf]; omega
            · have ejC : C = j := by omega
              subst ejC
              go_wp2_with fail
              go_roundw
              case rel => exact ⟨i + 1, by omega, by go_num, HBL.out⟩
              case measure => simp [intOf]; omega
    · go_wp2_with fail
      go_ret
      exact ⟨rfl, Gl.out.1.trans (HBI.out.mono Gl.out.2)⟩
end Go.Proofs.Ytdlpemmoobbgnaa

namespace Go.Proofs.Ytdlpemmoobbgnaa
open Go.RowKit

set_option maxHeartbeats 4000000 in
set_option maxRecDepth 100000 in
theorem Kernels_law (r c : Int) (p : Int) (hp : 0 ≤ p) (s : Value) (n : Nat) (x : Nat → Raw) (w : World) (hr : RdL w s n x) (hsz : ∀ i, i < n → (x i).n ≤ 1048576) :
    Calls Try.prog 9 #[.agg #[.int .i64 r, .int .i64 c, s], .int .u64 p] w fun e w' => e = .returned (.bool true) ∧ Below w.heap.size w w' := by
  by_cases hgood : soundB r c n = true ∧ primeB p = true
  · obtain ⟨R, C, rfl, rfl, hR, hC, hN, -, -, -, -⟩ := openE_ok (r := r) (c := c) (n := n) (p := p) (fit := true) (by unfold openE; rw [if_pos hgood.1, if_pos rfl, if_pos hgood.2])
    subst hN
    exact Kernels_good R C p hR hC hgood.2 s x w hr hsz
  · obtain ⟨a, cap, rfl, hn⟩ := hr.slice
    have hsd := fun W => sound_any r c a n cap hn W
    have hpr := fun W => prime_any p hp W
    have HR := Lib.hid hr
    obtain ⟨hb0, x0, x1, x2⟩ := box_mat w (.int .i64 r) (.int .i64 c) (.slice a n cap) 34
    have HB0 := Lib.hid hb0
    have hrf := fun W (h : RdL W (.slice a n cap) n x) => refuses_yes r c p hp (.slice a n cap) n x W h hgood
    have HRF := Lib.hid hrf
    have hprE : soundB r c n = true → primeB p = false := fun e => by simpa using fun e2 => hgood ⟨e, e2⟩
    have HPE := Lib.hid hprE
    clear hrf hprE hgood hr hsz hb0
    generalize soundB r c n = sd at hsd HPE
    generalize primeB p = pr at hpr HPE
    have HSD := Lib.hid hsd
    have HPR := Lib.hid hpr
    clear hsd hpr
    cases sd with
    | false =>
      clear HPE
      go_enter Try.func9, Try.ntmps9
      go_wp2_with (first
        | (go_at_call 11; refine (wakes_any _).mono ?_; rintro e w1 ⟨rfl, hb1⟩; have HB1 := Lib.hid (HB0.out.trans (hb1.mono HB0.out.size)); have x0 := cell_stays hb1 x0; have x1 := cell_stays hb1 x1; have x2 := cell_stays hb1 x2; clear hb1)
        | (go_at_call 15; refine (HSD.out _).mono ?_; rintro e w2 ⟨rfl, hb2⟩; have HB2 := Lib.hid (HB1.out.trans (hb2.mono HB1.out.size)); have x0 := cell_stays hb2 x0; have x1 := cell_stays hb2 x1; have x2 := cell_stays hb2 x2; clear hb2)
        | (go_at_call 34; refine (HRF.out _ (HR.out.below HB2.out)).mono ?_; rintro e w3 ⟨rfl, hb3⟩))
      go_ret
      exact ⟨rfl, HB2.out.trans (hb3.mono HB2.out.size)⟩
    | true =>
      obtain rfl : pr = false := HPE.out rfl
      clear HPE
      go_enter Try.func9, Try.ntmps9
      go_wp2_with (first
        | (go_at_call 11; refine (wakes_any _).mono ?_; rintro e w1 ⟨rfl, hb1⟩; have HB1 := Lib.hid (HB0.out.trans (hb1.mono HB0.out.size)); have x0 := cell_stays hb1 x0; have x1 := cell_stays hb1 x1; have x2 := cell_stays hb1 x2; clear hb1)
        | (go_at_call 15; refine (HSD.out _).mono ?_; rintro e w2 ⟨rfl, hb2⟩; have HB2 := Lib.hid (HB1.out.trans (hb2.mono HB1.out.size)); have x0 := cell_stays hb2 x0; have x1 := cell_stays hb2 x1; have x2 := cell_stays hb2 x2; clear hb2)
        | (go_at_call 14; refine (HPR.out _).mono ?_; rintro e w3 ⟨rfl, rfl⟩)
        | (go_at_call 34; refine (HRF.out _ (HR.out.below HB2.out)).mono ?_; rintro e w3 ⟨rfl, hb3⟩))
      go_ret
      exact ⟨rfl, HB2.out.trans (hb3.mono HB2.out.size)⟩
end Go.Proofs.Ytdlpemmoobbgnaa

namespace Go.Proofs.Ytdlpemmoobbgnaa.modpKernels
open Go.ChangeShapes Go.WideShapes Go.ChangeAt Go.RowKit

theorem own : ownKnob Try.prog.godebug = none := by kernel_rfl

set_option maxRecDepth 100000 in
theorem contract (H : Type) (enc : TypeId × Value → H) (W : World) (base : Nat) (args : Array Value) (ds gs : List (DataW H)) (before : List MemPlace)
    (hval : ∀ (j : Nat) t v, Try.f9.params[j]? = some t → args[j]? = some v → Value.okWide Try.prog W .any base t v)
    (hW : DataW.Whole enc Try.prog Try.f9.params.toList Rows.modpKernelsSpec.vars false W args.toList ds gs before) (hk : Rows.uptoSmall H (ds ++ gs) = true) :
    Calls Try.prog 9 args W fun e W' => ∃ v, e = .returned v ∧ Rows.modpKernelsSpec.post enc Try.prog Try.f9 false true false false W args v W' := by
  have hW' := hW
  have hlt : ∀ x ∈ before, x.block < W.heap.size := fun x hx => hW.lt x hx
  obtain ⟨p, q, hA0, hV, rfl, hfz, hnd⟩ := hW
  have hA : DataW.TrodAll enc Try.prog W 0 (fun _ => true) true Try.f9.params.toList args.toList ds p := hA0
  rw [Try.params9] at hA hval
  obtain ⟨v0, vs0, d0, ds0, p0, q0, hargs, rfl, rfl, h0, r0⟩ := trodAll_cons hA
  obtain ⟨v1, vs1, d1, ds1, p1, q1, rfl, rfl, rfl, h1, r1⟩ := trodAll_cons r0
  obtain ⟨rfl, rfl, rfl⟩ := trodAll_nil r1
  obtain rfl : args = #[v0, v1] := by cases args; simp_all
  obtain ⟨rfl, rfl⟩ := trodVars_none hV
  have h0k := h0
  obtain ⟨P, rfl, rfl, rfl, w1⟩ := open_int Try.underlying22 (hval 1 22 v1 rfl rfl) h1
  clear hA0
  simp only [List.append_nil] at hW' hk hlt
  have hbk : Rows.uptoBulkAll [d0, DataW.lit (.int .u64 P)] ≤ 1048576 := of_decide_eq_true hk
  simp only [Rows.uptoBulkAll] at hbk
  obtain ⟨R, C, s, n, x, rfl, hr, hn, hx, -, -⟩ := open_mat (B := 1048576) (hval 0 34 v0 rfl rfl) h0 (by omega) (by omega)
  refine (Kernels_law R C P (bounds_u64 w1).1 s n x W hr hx).mono fun e W' ⟨he, hg⟩ => ?_
  subst he
  refine ⟨_, rfl, post_of_below (pa := p0 ++ ([] ++ [])) (pv := []) hW' (fun _ _ _ => (trodAll_cons_mk (shut_bool Try.underlying4 _) trodAll_mk0)) (fun sp hsp => (trodAll_cons_mk (WideElems.Trod_stays (P := Try.prog) (by kernel_rfl) (by kernel_rfl) (of_decide_eq_true (by kernel_rfl)) h0k (fun x hx => hg.same (hlt x (by simpa using hx))) (fun x hx => hsp x (by simpa using hx))) (trodAll_cons_mk (shut_int Try.underlying22 w1) trodAll_mk0))) (fun _ _ => rfl) (by simp)
    hg (ok_one (by kernel_rfl) rfl (okWide_bool_mk Try.underlying4 _))⟩

set_option maxRecDepth 100000 in
theorem lifted (os : Os) (started : os.Started) (H : Type) (enc : TypeId × Value → H) (F : Stop.Interp) :
    ReturnsInHanded {} Try.checked os 9 .any ((Rows.OpenSpec.upto Rows.modpKernelsSpec).pre6 enc Try.prog Try.f9 Rows.modpKernelsUptoRow.domain false) (((Rows.OpenSpec.upto Rows.modpKernelsSpec).at F).post enc Try.prog Try.f9 false true false false) := by
  refine returnsInHanded_of_cond (C := Try.checked) (s := Rows.OpenSpec.upto Rows.modpKernelsSpec) (k := Rows.uptoSmall) rfl own started (by kernel_rfl) Try.func9
    (OpenSpec.witness (enc := enc) (C := Try.checked) (s := Rows.OpenSpec.upto Rows.modpKernelsSpec) (k := Rows.uptoSmall) rfl false ⟨#[], #[.agg #[.int .i64 0, .int .i64 0, .slice none 0 0], .int .u64 0], []⟩ 8 (by kernel_rfl) (by kernel_rfl) (by kernel_rfl)
      (x := ([.agg [.lit (.int .i64 0), .lit (.int .i64 0), .nil], .lit (.int .u64 0)], [], [])) (by kernel_rfl) rfl (by kernel_rfl)) ?_
  intro W base args ds gs before hval hW _ hk _
  exact contract H enc W base args ds gs before hval hW hk

/-- the statement -/
theorem proved : Rows.ModpKernelsUptoSaid :=
  OpenClaim.holds_of_cond 9 Try.f9 rfl rfl rfl rfl rfl rfl rfl ⟨rfl, rfl, rfl, rfl, rfl⟩ rfl rfl rfl rfl rfl (by kernel_rfl) Try.func9 (by kernel_rfl)
    (of_decide_eq_true (by kernel_rfl)) (by unfold Func.isWrapper; first | (rw [if_pos (by decide +kernel)]; kernel_rfl) | (rw [if_neg (by decide +kernel)]; exact ⟨rfl, rfl⟩))
    (fun os started H enc _ F => lifted os started H enc F)
#print axioms proved
end Go.Proofs.Ytdlpemmoobbgnaa.modpKernels
