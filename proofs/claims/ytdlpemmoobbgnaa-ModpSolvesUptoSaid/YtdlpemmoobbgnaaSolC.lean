/- The walk of the law ModpKernels. The walk of the law ModpSolves, where the matrix is sound and p is a prime. The law ModpSolves, whatever is handed in. 'ModpSolves', where what it reads is of bulk at most 1,048,576: for every matrix a, list x and p the law returns true and its arguments read as before. -/
import Derived.Test.YtdlpemmoobbgnaaGK
import Derived.Deep.RegionHeld3
import Derived.Deep.DeepCutAuto
import Derived.Test.YtdlpemmoobbgnaaGY
import Derived.Test.YtdlpemmoobbgnaaRows
import Derived.Deep.Slices
import Derived.Test.YtdlpemmoobbgnaaGI
import Derived.ProofKit
import Derived.OpenShut
import Derived.Carry
import Derived.JoinedCond
set_option linter.unusedVariables false
set_option linter.unusedSimpArgs false
namespace Go.Proofs.Ytdlpemmoobbgnaa
open Go.RowKit

/-- the integers that the law puts together for one row -/
def rowX (x : Nat → Raw) (C : Nat) (P : Nat → Nat) (r i : Nat) : Nat → Raw := fun j => if j < r then x (i * C + P j) else small 0
theorem rowX_n {x : Nat → Raw} {C : Nat} {P : Nat → Nat} {r i j : Nat} (h : j < r → (x (i * C + P j)).n ≤ 1048576) : (rowX x C P r i j).n ≤ 1048576 := by
  unfold rowX; split
  · rename_i e; exact h e
  · exact Nat.zero_le _
theorem rowX_val {x : Nat → Raw} {C : Nat} {P : Nat → Nat} {r i j : Nat} : (rowX x C P r i j).val = if j < r then (x (i * C + P j)).val else 0 := by
  unfold rowX; split
  · rfl
  · exact small_val (by omega)

set_option maxHeartbeats 8000000 in
set_option maxRecDepth 100000 in
theorem Kernels_good (R C : Nat) (p : Int) (hR : R ≤ 64) (hC : C ≤ 64) (hp : primeB p = true) (s : Value) (x : Nat → Raw) (w : World) (hr : RdL w s (R * C) x) (hsz : ∀ i, i < R * C → (x i).n ≤ 1048576) :
    Calls Try.prog 9 #[.agg #[.int .i64 R, .int .i64 C, s], .int .u64 p] w fun e w' => e = .returned (.bool true) ∧ Below w.heap.size w w' := by
  obtain ⟨a, cap, rfl, hn⟩ := hr.slice
  obtain ⟨p0, p1⟩ := primeB_bd hp
  have hRC : R * C ≤ 4096 := Nat.mul_le_mul hR hC
  have hCR : C * R ≤ 4096 := Nat.mul_le_mul hC hR
  have hsA := fun W => sound_any R C a (R * C) cap hn W
  rw [show soundB R C (R * C) = true by unfold soundB sideB; simp; omega] at hsA
  have hpr := fun W => prime_any p (by omega) W
  rw [hp] at hpr
  obtain ⟨hb0, hx⟩ := box_mat w (.int .i64 R) (.int .i64 C) (.slice a (R * C) cap) 34
  obtain ⟨r, hrk⟩ : ∃ r, r = (redS p R C (resG p C x) C).P.length := ⟨_, rfl⟩
  obtain ⟨P, hP⟩ : ∃ P : Nat → Nat, P = fun i => (redS p R C (resG p C x) C).P.getD i 0 := ⟨_, rfl⟩
  obtain ⟨y, hy⟩ : ∃ y : Nat → Int, y = fun t => (redS p R C (resG p C x) C).G (t / C) (t % C) := ⟨_, rfl⟩
  obtain ⟨Q, hQ⟩ : ∃ Q, Q = R - kerR p R C x := ⟨_, rfl⟩
  have hst := ech_sta hp R C x
  rw [← hrk, ← hP, ← hy] at hst
  have hst2 := ker_sta hp R C x
  have hkr := ker_rank hp R C x
  rw [← hrk] at hkr
  have hkz := ker_zero hp R C x
  obtain ⟨k, hk⟩ : ∃ k : Nat → Int, k = fun t => (kerS p R C x).G (t / R) (t % R) := ⟨_, rfl⟩
  obtain ⟨Pk, hPk⟩ : ∃ P : Nat → Nat, P = fun i => (kerS p R C x).P.getD i 0 := ⟨_, rfl⟩
  have hker := fun W h => Kernel_rd R C p hR hC hp (.slice a (R * C) cap) x W h
  simp only [← hQ] at hker
  rw [← hQ, ← hk, ← hPk] at hst2
  rw [← hQ, ← hk] at hkz
  have hkb : ∀ t, t < Q * R → 0 ≤ k t ∧ k t < p := by
    intro t ht
    rw [hQ] at ht
    obtain ⟨g1, g2⟩ := mul_idx (K := R) ht
    rw [hk]
    exact kerS_res p p0 R C x _ _ g1 g2
  have hyb : ∀ t, t < R * C → 0 ≤ y t ∧ y t < p := by
    intro t ht
    obtain ⟨g1, g2⟩ := mul_idx (K := R) ht
    rw [hy]
    exact redS_res p0 (resG_res p (by omega) R C C x) C _ _ g1 g2
  have hle := hst.le
  have hQr : Q + r = R := by omega
  have hech := fun W h => Echelon_rd R C p hR hC hp (.slice a (R * C) cap) x W h
  have hrank := fun W h => Rank_rd R C p hR hC hp (.slice a (R * C) cap) x W h
  have hrankt := fun (s : Value) xt W h => Rank_rd C R p hC hR hp s xt W h
  have hrow : ∀ i j, i < R → j < C → (dotZ (fun q => (rowX x C P r i q).val) (fun k => y (k * C + j)) R - (x (i * C + j)).val) % p = 0 := fun i j hi hj => by
    rw [hy]; exact row_hangs hp R C x hi hj _ (fun k _ => by rw [rowX_val, hrk, hP])
  have htr := fun (xt : Nat → Raw) ht => turn_rank (R := R) (C := C) (xa := x) (xt := xt) hp ht
  have HA := Lib.hid hr
  have HSA := Lib.hid hsz
  have HSDA := Lib.hid hsA
  have HPR := Lib.hid hpr
  have HP := Lib.hid hp
  have HST := Lib.hid hst
  have HST2 := Lib.hid hst2
  have HKZ := Lib.hid hkz
  have HKB := Lib.hid hkb
  have HYB := Lib.hid hyb
  have HKER := Lib.hid hker
  have HECH := Lib.hid hech
  have HRANK := Lib.hid hrank
  have HRANKT := Lib.hid hrankt
  have HROW := Lib.hid hrow
  have HTR := Lib.hid htr
  have HY := Lib.hid hy
  have HK := Lib.hid hk
  have HRK := Lib.hid hrk
  have HPP := Lib.hid hP
  have hQR : Q ≤ R := by omega
  have hq1 : Q + r ≤ R := by omega
  have hq2 : R ≤ Q + r := by omega
  have hH : Has (w.alloc (.cells #[.int .i64 R, .int .i64 C, .slice a (R * C) cap] 34)) [(_, _), (_, _), (_, _)] := ⟨hx.1, hx.2.1, hx.2.2, trivial⟩
  have H0 := Lib.hid hH
  have G0 := Lib.hid (And.intro hb0 hb0.size)
  clear hr hsz hsA hpr hp hst hst2 hkz hkb hyb hker hech hrank hrankt hrow htr hy hk hrk hP hQ hkr hPk hQr hb0 hH
  obtain ⟨x0, x1, x2⟩ := hx
  go_enter Try.func9, Try.ntmps9
  go_wp2_with fail
  refine (wakes_any _).mono ?_
  rintro e w1 ⟨rfl, hb1⟩
  have G1 := Lib.hid (stage G0.out.1 G0.out.2 hb1)
  have H1 := Lib.hid (H0.out.below hb1)
  clear x0 x1 x2 hb1
  obtain ⟨x0, x1, x2, -⟩ := H1.out
  dsimp only at x0 x1 x2
  go_wp2_with fail
  refine (HSDA.out _).mono ?_
  rintro e w2 ⟨rfl, hb2⟩
  have G2 := Lib.hid (stage G1.out.1 G1.out.2 hb2)
  have H2 := Lib.hid (H1.out.below hb2)
  clear x0 x1 x2 hb2
  obtain ⟨x0, x1, x2, -⟩ := H2.out
  dsimp only at x0 x1 x2
  go_wp2_with (go_at_call 14; refine (HPR.out _).mono ?_; rintro e w4 ⟨rfl, rfl⟩)
  -- the transpose
  refine (Turn_rd R C hR hC _ _ 1048576 (by omega) _ ((HA.out.below G2.out.1).rdn HSA.out)).mono ?_
  rintro e w3 ⟨l3, rfl, ⟨xt, hrd3, hxt⟩, hb3⟩
  have G3 := Lib.hid (stage3 G2.out hb3 (.int .i64 C) (.int .i64 R) (.slice (some ⟨l3, 0, none⟩) (C * R) (C * R)) 34)
  have H3 := Lib.hid ((H2.out.below hb3).box (.int .i64 C) (.int .i64 R) (.slice (some ⟨l3, 0, none⟩) (C * R) (C * R)) 34)
  have R3 := Lib.hid (hrd3.below (box_mat w3 (.int .i64 C) (.int .i64 R) (.slice (some ⟨l3, 0, none⟩) (C * R) (C * R)) 34).1)
  have HT := Lib.hid (HTR.out xt (fun t ht => (hxt t ht).2))
  clear x0 x1 x2 hb3 hrd3 hxt HTR
  obtain ⟨t0, t1, t2, x0, x1, x2, -⟩ := H3.out
  dsimp only at t0 t1 t2 x0 x1 x2
  go_wp2_with fail
  -- the ranks
  refine (HRANK.out _ (HA.out.below G3.out.1)).mono ?_
  rw [← HRK.out]
  rintro e w5 ⟨rfl, hb5⟩
  have G5 := Lib.hid (stage G3.out.1 G3.out.2 hb5)
  have H5 := Lib.hid (H3.out.below hb5)
  have R5 := Lib.hid (R3.out.below hb5)
  clear t0 t1 t2 x0 x1 x2 hb5 R3
  obtain ⟨t0, t1, t2, x0, x1, x2, -⟩ := H5.out
  dsimp only at t0 t1 t2 x0 x1 x2
  go_wp2_with fail
  refine (HRANKT.out _ _ _ R5.out).mono ?_
  rw [HT.out, ← HRK.out]
  rintro e w6 ⟨rfl, hb6⟩
  have G6 := Lib.hid (stage G5.out.1 G5.out.2 hb6)
  have H6 := Lib.hid (H5.out.below hb6)
  clear t0 t1 t2 x0 x1 x2 hb6 R5
  obtain ⟨-, -, -, x0, x1, x2, -⟩ := H6.out
  dsimp only at x0 x1 x2
  go_wp2_with fail
  -- the echelon form
  refine (HECH.out _ (HA.out.below G6.out.1)).mono ?_
  rintro e w7 ⟨l7, rfl, hrd7, hb7⟩
  have hrd7' : RdL w7 (.slice (some ⟨l7, 0, none⟩) (R * C) (R * C)) (R * C) (fun t => small (y t)) := by rw [HY.out]; exact hrd7
  have G7 := Lib.hid (stage3 G6.out hb7 (.int .i64 R) (.int .i64 C) (.slice (some ⟨l7, 0, none⟩) (R * C) (R * C)) 34)
  have H7 := Lib.hid ((H6.out.below hb7).box (.int .i64 R) (.int .i64 C) (.slice (some ⟨l7, 0, none⟩) (R * C) (R * C)) 34)
  have R7 := Lib.hid (hrd7'.below (box_mat w7 (.int .i64 R) (.int .i64 C) (.slice (some ⟨l7, 0, none⟩) (R * C) (R * C)) 34).1)
  clear x0 x1 x2 hb7 hrd7 hrd7'
  obtain ⟨m0, m1, m2, -, -, -, x0, x1, x2, -⟩ := H7.out
  dsimp only at m0 m1 m2 x0 x1 x2
  go_wp2_with fail
  -- the kernel
  refine (HKER.out _ (HA.out.below G7.out.1)).mono ?_
  rintro e w8 ⟨l8, rfl, hrd8, hb8⟩
  have hrd8' : RdL w8 (.slice (some ⟨l8, 0, none⟩) (Q * R) (Q * R)) (Q * R) (fun t => small (k t)) := by rw [HK.out]; exact hrd8
  have G8 := Lib.hid (stage3 G7.out hb8 (.int .i64 Q) (.int .i64 R) (.slice (some ⟨l8, 0, none⟩) (Q * R) (Q * R)) 34)
  have H8 := Lib.hid ((H7.out.below hb8).box (.int .i64 Q) (.int .i64 R) (.slice (some ⟨l8, 0, none⟩) (Q * R) (Q * R)) 34)
  have B8 := hb8.trans ((box_mat w8 (.int .i64 Q) (.int .i64 R) (.slice (some ⟨l8, 0, none⟩) (Q * R) (Q * R)) 34).1.mono hb8.size)
  have R8 := Lib.hid (hrd8'.below (box_mat w8 (.int .i64 Q) (.int .i64 R) (.slice (some ⟨l8, 0, none⟩) (Q * R) (Q * R)) 34).1)
  have R7b := Lib.hid (R7.out.below B8)
  clear m0 m1 m2 x0 x1 x2 hb8 hrd8 hrd8' B8 R7
  obtain ⟨k0, k1, k2, m0, m1, m2, -, -, -, x0, x1, x2, -⟩ := H8.out
  dsimp only at k0 k1 k2 m0 m1 m2 x0 x1 x2
  go_wp2_with fail
  have hsdm := fun W => sound_any R C (some ⟨l7, 0, none⟩) (R * C) (R * C) (by omega) W
  rw [show soundB R C (R * C) = true by unfold soundB sideB; simp; omega] at hsdm
  refine (hsdm _).mono ?_
  rintro e wa ⟨rfl, hba⟩
  have Ga := Lib.hid (stage G8.out.1 G8.out.2 hba)
  have Ha := Lib.hid (H8.out.below hba)
  have Ra7 := Lib.hid (R7b.out.below hba)
  have Ra8 := Lib.hid (R8.out.below hba)
  clear hsdm k0 k1 k2 m0 m1 m2 x0 x1 x2 hba R7b R8
  obtain ⟨k0, k1, k2, m0, m1, m2, -, -, -, x0, x1, x2, -⟩ := Ha.out
  dsimp only at k0 k1 k2 m0 m1 m2 x0 x1 x2
  go_wp2_with fail
  have hQR2 : Q * R ≤ 4096 := Nat.mul_le_mul (show Q ≤ 64 by omega) hR
  have hsdk := fun W => sound_any Q R (some ⟨l8, 0, none⟩) (Q * R) (Q * R) (by omega) W
  rw [show soundB Q R (Q * R) = true by unfold soundB sideB; simp; omega] at hsdk
  refine (hsdk _).mono ?_
  rintro e wb ⟨rfl, hbb⟩
  have Gb := Lib.hid (stage Ga.out.1 Ga.out.2 hbb)
  have Hb := Lib.hid (Ha.out.below hbb)
  have Rb7 := Lib.hid (Ra7.out.below hbb)
  have Rb8 := Lib.hid (Ra8.out.below hbb)
  clear hsdk k0 k1 k2 m0 m1 m2 x0 x1 x2 hbb Ra7 Ra8
  obtain ⟨k0, k1, k2, m0, m1, m2, -, -, -, x0, x1, x2, -⟩ := Hb.out
  dsimp only at k0 k1 k2 m0 m1 m2 x0 x1 x2
  have hqb : ((Q : Int) != (R : Int) - r) = false := bne_eq_false_iff_eq.2 (by omega)
  go_wp2_with fail
  clear hqb
  -- least residues
  refine (least_yes _ (R * C) _ p _ Rb7.out (fun t ht => SmallB.small (HYB.out t ht).1 (HYB.out t ht).2)).mono ?_
  rintro e w' ⟨rfl, rfl⟩
  go_wp2_with fail
  refine (least_yes _ (Q * R) _ p _ Rb8.out (fun t ht => SmallB.small (HKB.out t ht).1 (HKB.out t ht).2)).mono ?_
  rintro e w' ⟨rfl, rfl⟩
  go_wp2_with fail
  -- the stairs
  refine (stairs_yes R C r hR hC P y HST.out _ _ Rb7.out).mono ?_
  rintro e wc ⟨pv, rfl, hoc, hbc⟩
  obtain ⟨pa, pc, rfl⟩ := own_slice hoc
  have Gc := Lib.hid (stage Gb.out.1 Gb.out.2 hbc)
  have Hc := Lib.hid (Hb.out.below hbc)
  have Rc7 := Lib.hid (Rb7.out.below hbc)
  have Rc8 := Lib.hid (Rb8.out.below hbc)
  have OC := Lib.hid (own_fr hoc (by omega))
  clear k0 k1 k2 m0 m1 m2 x0 x1 x2 hbc Rb7 Rb8 hoc
  obtain ⟨k0, k1, k2, m0, m1, m2, -, -, -, x0, x1, x2, -⟩ := Hc.out
  dsimp only at k0 k1 k2 m0 m1 m2 x0 x1 x2
  go_wp2_with fail
  refine (stairs_yes Q R Q (by omega) hR Pk k HST2.out _ _ Rc8.out).mono ?_
  rintro e wd ⟨pv, rfl, hod, hbd⟩
  obtain ⟨pa2, pc2, rfl⟩ := own_slice hod
  have Gd := Lib.hid (stage Gc.out.1 Gc.out.2 hbd)
  have Hd := Lib.hid (Hc.out.below hbd)
  have Rd7 := Lib.hid (Rc7.out.below hbd)
  have Rd8 := Lib.hid (Rc8.out.below hbd)
  have OD := Lib.hid (OC.out.below hbd)
  clear k0 k1 k2 m0 m1 m2 x0 x1 x2 hbd Rc7 Rc8 hod OC
  obtain ⟨k0, k1, k2, m0, m1, m2, -, -, -, x0, x1, x2, -⟩ := Hd.out
  dsimp only at k0 k1 k2 m0 m1 m2 x0 x1 x2
  go_wp2_with fail
  -- the kernel times a
  refine (Mul_rd Q R C (by omega) hR hC _ _ _ _ 1 1048576 (by omega) _ (Rd8.out.smalls (fun t ht => ⟨(HKB.out t ht).1, by have := (HKB.out t ht).2; omega⟩)) ((HA.out.below Gd.out.1).rdn HSA.out)).mono ?_
  rintro e we ⟨le, rfl, ⟨xz, hrde, hxz⟩, hbe⟩
  have hQC : Q * C ≤ 4096 := Nat.mul_le_mul (show Q ≤ 64 by omega) hC
  have Ge := Lib.hid (stage3 Gd.out hbe (.int .i64 Q) (.int .i64 C) (.slice (some ⟨le, 0, none⟩) (Q * C) (Q * C)) 34)
  have He := Lib.hid ((Hd.out.below hbe).box (.int .i64 Q) (.int .i64 C) (.slice (some ⟨le, 0, none⟩) (Q * C) (Q * C)) 34)
  have B9 := hbe.trans ((box_mat we (.int .i64 Q) (.int .i64 C) (.slice (some ⟨le, 0, none⟩) (Q * C) (Q * C)) 34).1.mono hbe.size)
  have Re7 := Lib.hid (Rd7.out.below B9)
  have OE := Lib.hid (OD.out.below B9)
  have hd3 := box_mat we (.int .i64 Q) (.int .i64 C) (.slice (some ⟨le, 0, none⟩) (Q * C) (Q * C)) 34
  have hzy := zero_yes _ (Q * C) xz p (by omega) (by omega) _ (hrde.below hd3.1) (fun t ht => ⟨by have := (hxz t ht).1; omega, by rw [(hxz t ht).2]; exact HKZ.out t ht⟩)
  have HZY := Lib.hid hzy
  obtain ⟨-, -, -, d2⟩ := hd3
  clear k0 k1 k2 m0 m1 m2 x0 x1 x2 hbe hrde hxz hzy Rd7 Rd8 OD B9
  go_wp2_with fail
  refine HZY.out.mono ?_
  rintro e wl ⟨rfl, hbl⟩
  have Gl := Lib.hid (stage Ge.out.1 Ge.out.2 hbl)
  have Hl := Lib.hid (He.out.below hbl)
  have Rl7 := Lib.hid (Re7.out.below hbl)
  have OL := Lib.hid (OE.out.below hbl)
  clear hbl Re7 OE d2 HZY
  obtain ⟨-, -, -, -, -, -, m0, m1, m2, -, -, -, x0, x1, x2, -⟩ := Hl.out
  dsimp only at m0 m1 m2 x0 x1 x2
  go_wp2_with fail
  clear HKER HECH HRANK HRANKT HSDA HPR HST2 HKZ HKB H0 H1 H2 H3 H5 H6 H7 H8 Ha Hb Hc Hd He G0 G1 G2 G3 G5 G6 G7 G8 Ga Gb Gc Gd Ge HT
  clear m0 m1 m2 x0 x1 x2
  have hpiv : ∀ j, j < r → ∃ b o, pa = some ⟨b, o, none⟩ ∧ wl.cell? ⟨b, o + j, none⟩ = some (.int .i64 (P j)) := fun j hj => by
    obtain ⟨a', cap', e, -, -, h⟩ := OL.out.read
    obtain ⟨b, o, e', hc⟩ := h (by omega)
    injection e with e1 _ _
    exact ⟨b, o, by rw [e1, e'], hc j hj⟩
  have hall : ∀ wr, Below wl.heap.size wl wr → RdL wr (.slice a (R * C) cap) (R * C) x := fun wr h => HA.out.below (Gl.out.1.trans (h.mono Gl.out.2))
  have HPV := Lib.hid hpiv
  have HAL := Lib.hid hall
  clear hpiv hall OL HA
  go_loopw [21] (fun iv wr => ∃ i : Nat, i ≤ R ∧ iv = .int .i64 i ∧ Below wl.heap.size wl wr) (fun iv _ => R - (intOf iv).toNat)
  case atStart => exact ⟨0, by omega, rfl, Below.refl _ _⟩
  case round =>
    obtain ⟨i, i1, rfl, hbi⟩ := hrel
    obtain ⟨wo, rfl⟩ : ∃ wo : World, wo = wr := ⟨_, rfl⟩
    have Ho := Lib.hid (Hl.out.below hbi)
    obtain ⟨-, -, -, -, -, -, m0, m1, m2, -, -, -, x0, x1, x2, -⟩ := Ho.out
    dsimp only at m0 m1 m2 x0 x1 x2
    have HBI := Lib.hid hbi
    clear hbi
    by_cases hi : i < R
    · go_wp2_with fail
      clear m0 m1 m2 x0 x1 x2
      go_loopw [22, 23] (fun cv jv wr => ∃ j : Nat, j ≤ R ∧ jv = .int .i64 j ∧ OwnI wl wr wl.heap.size cv j (rowX x C P r i) ∧ Below wl.heap.size wl wr) (fun _ jv _ => R - (intOf jv).toNat)
      case atStart => exact ⟨0, by omega, rfl, OwnI.start _ _ _ _, HBI.out⟩
      case round =>
        obtain ⟨j, j1, rfl, hown, hbj⟩ := hrel
        obtain ⟨ca, cc, rfl⟩ := hown.slice
        obtain ⟨-, -, -, -, -, -, m0, m1, m2, -, -, -, x0, x1, x2, -⟩ := Hl.out.below hbj
        dsimp only at m0 m1 m2 x0 x1 x2
        have HOW := Lib.hid hown
        have HBJ := Lib.hid hbj
        have hszj := hbj.size
        clear hown hbj
        by_cases hj : j < R
        · by_cases hjr : j < r
          · obtain ⟨pb, po, rfl, hpc⟩ := HPV.out j hjr
            replace hpc := cell_stays HBJ.out hpc
            have hPC := HST.out.lt j hjr
            obtain ⟨q, hq⟩ : ∃ q, q = i * C + P j := ⟨_, rfl⟩
            have hqN : q < R * C := by rw [hq]; exact prod_lt hi hPC
            obtain ⟨e3, e4⟩ := prod64 (r := i) (c := C) (by omega) (by omega)
            have e2 : (i : Int) * C + P j = q := by rw [hq]; simp
            have g2 : IntKind.i64.wrap ((i : Int) * C) = (i : Int) * C := IntWalk.i64_in _ (by omega)
            have g3 : IntKind.i64.wrap ((q : Nat) : Int) = q := IntWalk.i64_in _ (by omega)
            have g4 : IntKind.i64.wrap ((i : Int) * C + P j) = q := by rw [e2]; exact g3
            have g0 : (0 : Int) ≤ (q : Int) := by omega
            have g1 : (q : Int) < ((R * C : Nat) : Int) := by omega
            have g1' : (q : Int) < (R : Int) * (C : Int) := by have := g1; push_cast at this; exact this
            have g5 : (0 : Int) ≤ (j : Int) := by omega
            have g6 : (j : Int) < (r : Int) := by omega
            obtain ⟨ab, ao, rfl, mv, c0, c1, c2⟩ := rdl_at (HAL.out wl (Below.refl _ _)) hqN
            obtain ⟨ad, cd, rfl, -⟩ := c2.1
            have HC2 := Lib.hid c2
            replace c0 := cell_stays HBJ.out c0
            replace c1 := cell_stays HBJ.out c1
            have hz := cells2 wr (.bool false) (.slice none 0 0) 56
            obtain ⟨hb3, z0, z1, -⟩ := zero_boxed wr 56
            have z2 := (hz 0 _ rfl).2
            have z3 := (hz 1 _ rfl).2
            have HB3 := Lib.hid hb3
            have hx0 : rowX x C P r i j = x q := by unfold rowX; rw [if_pos hjr, hq]
            have HX0 := Lib.hid hx0
            have HQ := Lib.hid hq
            replace c0 := cell_stays hb3 c0
            replace c1 := cell_stays hb3 c1
            replace hpc := cell_stays hb3 hpc
            replace x1 := cell_stays hb3 x1
            replace x2 := cell_stays hb3 x2
            clear hb3 hz hx0 hq e2 c2
            go_wp2_with fail
            generalize hw3 : wr.alloc (.cells #[.bool false, .slice none 0 0] 56) = w3 at *
            refine wp_region_still_tail 13 (by kernel_rfl) (by kernel_rfl) ?_
            simp only [List.take_succ_cons, List.take_zero, List.drop_succ_cons, List.drop_zero]
            repeat still_step
            refine wpStill_nil ?_
            change wpList _ _ _ _ _ w3.drew
            have hb4 : Below wr.heap.size wr ((w3.drew.setCell ⟨wr.heap.size, 0, none⟩ (.bool (x q).neg)).setCell ⟨wr.heap.size, 1, none⟩ (.slice ad (x q).n cd)) := (HB3.out.drew.setCell (p := ⟨_, 0, none⟩) (Nat.le_refl _) _).setCell (p := ⟨_, 1, none⟩) (Nat.le_refl _) _
            have HO3 := Lib.hid (HOW.out.below hb4)
            have HB4 := Lib.hid (HBJ.out.trans (hb4.mono HBJ.out.size))
            have hsz3 := HB4.out.size
            have hsz4 : wr.heap.size + 1 = ((w3.drew.setCell ⟨wr.heap.size, 0, none⟩ (.bool (x q).neg)).setCell ⟨wr.heap.size, 1, none⟩ (.slice ad (x q).n cd)).heap.size := by rw [← hw3]; simp [World.setCell]
            have HS4 := Lib.hid hsz4
            have HS3 := Lib.hid hsz3
            clear hb4 hsz3 hsz4 hw3
            go_wp2_with (at_builtin; refine wp_pushI rfl _ _ 32 rfl Try.underlying32 HO3.out rfl rfl (by simp [World.setCell]) HS3.out (by omega) (x q) rfl HC2.out ?_)
            intro v' w2 hown' hb2
            have HO4 := Lib.hid (hown'.congr (Y := rowX x C P r i) fun q _ => by
              by_cases e : q = j
              · simp only [if_pos e]; rw [e, HX0.out]
              · simp only [if_neg e])
            have HB5 := Lib.hid (HB4.out.trans hb2)
            clear hown' hb2
            go_wp2_with fail
            go_roundw
            case rel => exact ⟨j + 1, by omega, by go_num, HO4.out, HB5.out⟩
            case measure => simp [intOf]; omega
          · have hz := cells2 wr (.bool false) (.slice none 0 0) 56
            obtain ⟨hb3, z0, z1, -⟩ := zero_boxed wr 56
            have HB3 := Lib.hid hb3
            have HO3 := Lib.hid (HOW.out.below hb3)
            have hx0 : rowX x C P r i j = small 0 := by unfold rowX; rw [if_neg hjr]
            have HX0 := Lib.hid hx0
            have hsz3 : wl.heap.size ≤ (wr.alloc (.cells #[.bool false, .slice none 0 0] 56)).heap.size := by simp; omega
            clear hb3 hz hx0
            go_wp2_with (at_builtin; refine wp_pushI rfl _ _ 32 rfl Try.underlying32 HO3.out rfl rfl (by simp) hsz3 (by omega) (small 0) rfl ⟨⟨none, 0, rfl, Nat.le_refl _, Nat.zero_le _, fun h => absurd h (Nat.lt_irrefl 0)⟩, fun i hi => absurd hi (Nat.not_lt_zero i)⟩ ?_)
            intro v' w2 hown' hb2
            have HO4 := Lib.hid (hown'.congr (Y := rowX x C P r i) fun q _ => by
              by_cases e : q = j
              · simp only [if_pos e]; rw [e, HX0.out]
              · simp only [if_neg e])
            have HB4 := Lib.hid ((HBJ.out.trans (HB3.out.mono HBJ.out.size)).trans hb2)
            clear hown' hb2
            go_wp2_with fail
            go_roundw
            case rel => exact ⟨j + 1, by omega, by go_num, HO4.out, HB4.out⟩
            case measure => simp [intOf]; omega
        · have ejR : R = j := by omega
          subst ejR
          have hX := (HOW.out.read HBJ.out (by omega)).rdn (S := 1048576) (fun q _ => rowX_n (fun hq => HSA.out _ (prod_lt hi (HST.out.lt q hq))))
          have hM := (Rl7.out.below HBJ.out).smalls (fun t ht => ⟨(HYB.out t ht).1, by have := (HYB.out t ht).2; omega⟩)
          have HX := Lib.hid hX
          have HM := Lib.hid hM
          clear hX hM
          go_wp2_with fail
          refine (VecMul_any R C hR hC _ _ _ _ 1048576 1 (by omega) _ HX.out HM.out).mono ?_
          rintro e wv ⟨lv, rfl, ⟨xv, hrdv, hxv⟩, hbv⟩
          have hxz : ∀ j, j < C → (xv j).n ≤ 1048578 ∧ ((xv j).val - (x (i * C + j)).val) % p = 0 := fun j hj => ⟨(hxv j hj).1, by rw [(hxv j hj).2]; exact HROW.out i j hi hj⟩
          have HXZ := Lib.hid hxz
          have HRV := Lib.hid hrdv
          have HBV := Lib.hid (HBJ.out.trans (hbv.mono HBJ.out.size))
          clear hxv hxz hrdv hbv HX HM m0 m1 m2 x0 x1 x2 HOW HBJ hszj
          obtain ⟨-, -, -, -, -, -, -, -, -, -, -, -, x0, x1, x2, -⟩ := Hl.out.below HBV.out
          dsimp only at x0 x1 x2
          go_wp2_with fail
          clear x0 x1 x2
          go_loopw [27] (fun jv wr => ∃ j : Nat, j ≤ C ∧ jv = .int .i64 j ∧ Below wv.heap.size wv wr) (fun jv _ => C - (intOf jv).toNat)
          case atStart => exact ⟨0, by omega, rfl, Below.refl _ _⟩
          case round =>
            obtain ⟨j, j1, rfl, hbj⟩ := hrel
            have hbl := HBV.out.trans (hbj.mono HBV.out.size)
            obtain ⟨-, -, -, -, -, -, -, -, -, -, -, -, x0, x1, x2, -⟩ := Hl.out.below hbl
            dsimp only at x0 x1 x2
            have HBL := Lib.hid hbl
            have HBJ := Lib.hid hbj
            clear hbl hbj
            by_cases hj : j < C
            · obtain ⟨q, hq⟩ : ∃ q, q = i * C + j := ⟨_, rfl⟩
              have hqN : q < R * C := by rw [hq]; exact prod_lt hi hj
              obtain ⟨e3, e4⟩ := prod64 (r := i) (c := C) (by omega) (by omega)
              have e2 : (i : Int) * C + j = q := by rw [hq]; simp
              have g2 : IntKind.i64.wrap ((i : Int) * C) = (i : Int) * C := IntWalk.i64_in _ (by omega)
              have g3 : IntKind.i64.wrap ((q : Nat) : Int) = q := IntWalk.i64_in _ (by omega)
              have g4 : IntKind.i64.wrap ((i : Int) * C + j) = q := by rw [e2]; exact g3
              have g0 : (0 : Int) ≤ (q : Int) := by omega
              have g1 : (q : Int) < ((R * C : Nat) : Int) := by omega
              have g1' : (q : Int) < (R : Int) * (C : Int) := by have := g1; push_cast at this; exact this
              have g5 : (0 : Int) ≤ (j : Int) := by omega
              have g6 : (j : Int) < (C : Int) := by omega
              obtain ⟨vb, vo, ev, mv, c0, c1, c2⟩ := rdl_at (HRV.out.below HBJ.out) hj
              injection ev with ev
              injection ev with e5 e6 _
              subst e5; subst e6
              rw [Nat.zero_add] at c0 c1
              obtain ⟨ab, ao, rfl, ma, d0, d1, d2⟩ := rdl_at (HAL.out wr HBL.out) hqN
              obtain ⟨av, cv, rfl, -⟩ := c2.1
              obtain ⟨aa, ca', rfl, -⟩ := d2.1
              have hr1 : RdZ wr (.agg #[.bool (xv j).neg, .slice av (xv j).n cv]) (xv j).val := ⟨xv j, ⟨_, rfl, c2⟩, rfl, by have := (HXZ.out j hj).1; omega⟩
              have hr2 : RdZ wr (.agg #[.bool (x q).neg, .slice aa (x q).n ca']) (x q).val := ⟨x q, ⟨_, rfl, d2⟩, rfl, by have := HSA.out q hqN; omega⟩
              have hzb : ZB (1048578 + 1048576 + 1) ((xv j).val - (x q).val) := by
                rw [Int.sub_eq_add_neg]
                exact ((RdI.zb ⟨_, rfl, c2⟩).mono (HXZ.out j hj).1).add ((RdI.zb ⟨_, rfl, d2⟩).mono (HSA.out q hqN)).neg
              have hzm : ((xv j).val - (x q).val) % p = 0 := by rw [hq]; exact (HXZ.out j hj).2
              have cm1 : ∀ W, Below wr.heap.size wr W → Calls Try.prog 32 #[.agg #[.bool (xv j).neg, .slice av (xv j).n cv], .agg #[.bool (x q).neg, .slice aa (x q).n ca']] W fun e w' => ∃ bd ad nd cd, e = .returned (.agg #[.bool bd, .slice ad nd cd]) ∧
                  FrZ w' W.heap.size (.agg #[.bool bd, .slice ad nd cd]) ((xv j).val - (x q).val) ∧ Below wr.heap.size wr w' ∧ Below W.heap.size W w' := fun W hW => by
                refine (Sub05_any _ _ _ _ W (hr1.below hW) (hr2.below hW)).mono ?_
                rintro e w' ⟨v, rfl, hz, h3⟩
                obtain ⟨m, n', f, rfl, h1, h2⟩ := hz
                obtain ⟨a', c', rfl⟩ := h1.slice
                exact ⟨_, a', n', c', rfl, ⟨_, n', f, rfl, h1, h2⟩, hW.trans (h3.mono hW.size), h3⟩
              have CM1 := Lib.hid cm1
              have HZM := Lib.hid hzm
              have HZB := Lib.hid hzb
              have s1 := World.block_lt_of_cell? wr _ c0
              have s2 := World.block_lt_of_cell? wr _ d0
              have s3 := World.block_lt_of_cell? wr _ x1
              dsimp only at s1 s2 s3
              clear c2 d2 hr1 hr2 hzb hzm cm1 hq e2
              generalize (xv j).val - (x q).val = dz at *
              generalize (xv j).neg = ng at *
              generalize (xv j).n = nv at *
              generalize (x q).neg = nga at *
              generalize (x q).n = na at *
              go_upto_region 37 with fail
              go_cut [28] (fun v28 wx => ∃ (db : Nat) (bd : Bool) (ad : Option Addr) (nd cd : Nat), v28 = .pointer (some ⟨db, 0, none⟩) ∧ wx.cell? ⟨db, 0, none⟩ = some (.bool bd) ∧ wx.cell? ⟨db, 1, none⟩ = some (.slice ad nd cd) ∧ RdZ wx (.agg #[.bool bd, .slice ad nd cd]) dz ∧ Below wr.heap.size wr wx)
              case first =>
                go_region_held3 (fun w' => w'.cell? ⟨lv, j * 2, none⟩ = some (.bool ng) ∧ w'.cell? ⟨lv, j * 2 + 1, none⟩ = some (.slice av nv cv) ∧ w'.cell? ⟨ab, ao + q * 2, none⟩ = some (.bool nga) ∧ w'.cell? ⟨ab, ao + q * 2 + 1, none⟩ = some (.slice aa na ca') ∧
                    w'.cell? ⟨w.heap.size, 1, none⟩ = some (.int .i64 C) ∧ w'.cell? ⟨w.heap.size, 2, none⟩ = some (.slice (some ⟨ab, ao, none⟩) (R * C) cap))
                  (first
                    | go_keep
                    | (exact ⟨cell_stays hb8 c0, cell_stays hb8 c1, cell_stays hb8 d0, cell_stays hb8 d1, cell_stays hb8 x1, cell_stays hb8 x2⟩)
                    | (have hk := hb8.alloc hb8.size (.cells #[.bool bd, .slice ad nd cd] 56); exact ⟨cell_stays hk c0, cell_stays hk c1, cell_stays hk d0, cell_stays hk d1, cell_stays hk x1, cell_stays hk x2⟩)
                    | (have hk := (hb8.setCell (p := ⟨_, 0, none⟩) (Nat.le_refl _) (.bool bd)).setCell (p := ⟨_, 1, none⟩) (Nat.le_refl _) (.slice ad nd cd); exact ⟨cell_stays hk c0, cell_stays hk c1, cell_stays hk d0, cell_stays hk d1, cell_stays hk x1, cell_stays hk x2⟩))
                  (first
                    | (go_at_call 32; (with_reducible refine (CM1.out wr.drew ?_).mono ?_); exact (Below.refl _ _).drew; rintro e w8 ⟨bd, ad, nd, cd, rfl, hz8, hb8, hc8⟩)
                    | (go_at_call 32; (with_reducible refine (CM1.out (wr.alloc (.cells #[.bool false, .slice none 0 0] 56)).drew ?_).mono ?_); exact ((Below.refl _ _).alloc (Nat.le_refl _) _).drew; rintro e w7 ⟨bd, ad, nd, cd, rfl, hz8, hb8, hc8⟩; obtain ⟨j0, j1, j2, j3⟩ := box_kept' hc8))
                all_goals
                  go_wp2_with fail
                  go_meet
                  first
                    | exact ⟨_, _, _, _, _, rfl, fin_alloc _ hz8 HZB.out (by omega) hb8⟩
                    | exact ⟨_, _, _, _, _, rfl, fin_store hz8 HZB.out (by omega) hb8 j0 j1⟩
              case rest =>
                clear CM1 HZB d1 d0 c1 c0 x0 x1 x2
                obtain ⟨db, bd, ad, nd, cd, rfl, e0, e1, hrz, hbx⟩ := hcut
                have HZ1 := Lib.hid (zero_one hrz (by omega) (by omega) HZM.out 56)
                have HBX := Lib.hid (HBJ.out.trans (hbx.mono HBJ.out.size))
                clear hrz
                go_wp2_with (go_at_call 24; (with_reducible first | refine (HZ1.out _ (Below.refl _ _)).mono ?_ | refine (HZ1.out _ (Below.refl _ _).drew).mono ?_); rintro e w9 ⟨rfl, hb9⟩; have HB9 := Lib.hid (HBJ.out.trans ((hbx.trans (hb9.mono hbx.size)).mono HBJ.out.size)))
                go_roundw
                case rel => exact ⟨j + 1, by omega, by go_num, HB9.out⟩
                case measure => simp [intOf]; omega
            · have ejC : C = j := by omega
              subst ejC
              go_wp2_with fail
              go_roundw
              case rel => exact ⟨i + 1, by omega, by go_num, HBL.out⟩
              case measure => simp [intOf]; omega
    · go_wp2_with fail
      go_ret
      exact ⟨rfl, Gl.out.1.trans (HBI.out.mono Gl.out.2)⟩
end Go.Proofs.Ytdlpemmoobbgnaa

namespace Go.Proofs.Ytdlpemmoobbgnaa
open Go.RowKit

theorem openE_fit {R C : Nat} {n : Nat} {p : Int} (hR : R ≤ 64) (hC : C ≤ 64) (hN : n = R * C) : openE R C n p false = 2 := by
  have hs : soundB R C n = true := by
    unfold soundB sideB; rw [hN]; simp; omega
  unfold openE
  rw [if_pos hs, if_neg (by decide)]

theorem Solve_ok (R C : Nat) (p : Int) (hR : R ≤ 64) (hC : C ≤ 64) (hp : primeB p = true) (s : Value) (x : Nat → Raw) (sb : Value) (b : Nat → Raw) (w : World) (hr : RdL w s (R * C) x) (hb : RdL w sb C b) (hz : anyNZ (sol1 p R C x b) C = false) :
    Calls Try.prog 29 #[.agg #[.int .i64 R, .int .i64 C, s], sb, .int .u64 p] w fun e w' => ∃ lb, e = .returned (.tuple #[.slice (some ⟨lb, 0, none⟩) R R, .int .i64 0]) ∧
      RdL w' (.slice (some ⟨lb, 0, none⟩) R R) R (fun q => small (sol3 p R C x b q)) ∧ Below w.heap.size w w' := by
  obtain ⟨p0, p1⟩ := primeB_bd hp
  have ho : openE R C (R * C) p ((C : Int) == C) = 0 := by rw [show ((C : Int) == C) = true by simp]; exact openE_good hR hC rfl hp
  have hs : solE R C (R * C) C x b p = 0 := by unfold solE; rw [if_pos ho, Int.toNat_natCast, Int.toNat_natCast, hz]; rfl
  have hbd := (sol_good (R := R) (C := C) (xa := x) (b := b) hp hz).1
  refine (Solve_any R C p (by omega) s (R * C) x sb C b w hr hb).mono ?_
  rw [hs, Int.toNat_natCast, Int.toNat_natCast]
  rintro e w' ⟨v, rfl, h1, -, hb⟩
  obtain ⟨lb, M, rfl, hls⟩ := h1 rfl
  exact ⟨lb, rfl, small_read (y := sol3 p R C x b) hls (by omega) (fun q hq => by have := hbd q hq; omega), hb⟩
theorem Solve_no (R C : Nat) (p : Int) (hR : R ≤ 64) (hC : C ≤ 64) (hp : primeB p = true) (s : Value) (x : Nat → Raw) (sb : Value) (b : Nat → Raw) (w : World) (hr : RdL w s (R * C) x) (hb : RdL w sb C b) (hz : anyNZ (sol1 p R C x b) C = true) :
    Calls Try.prog 29 #[.agg #[.int .i64 R, .int .i64 C, s], sb, .int .u64 p] w fun e w' => e = .returned (.tuple #[.slice none 0 0, .int .i64 6]) ∧ Below w.heap.size w w' := by
  obtain ⟨p0, p1⟩ := primeB_bd hp
  have ho : openE R C (R * C) p ((C : Int) == C) = 0 := by rw [show ((C : Int) == C) = true by simp]; exact openE_good hR hC rfl hp
  have hs : solE R C (R * C) C x b p = 6 := by unfold solE; rw [if_pos ho, Int.toNat_natCast, Int.toNat_natCast, hz]; rfl
  refine (Solve_any R C p (by omega) s (R * C) x sb C b w hr hb).mono ?_
  rw [hs]
  rintro e w' ⟨v, rfl, -, h2, hb⟩
  obtain rfl := h2 (by decide)
  exact ⟨rfl, hb⟩
theorem Solve_fit (R C : Nat) (p : Int) (hR : R ≤ 64) (hC : C ≤ 64) (hp : primeB p = true) (s : Value) (x : Nat → Raw) (sb : Value) (nb : Nat) (b : Nat → Raw) (w : World) (hr : RdL w s (R * C) x) (hb : RdL w sb nb b) (hn : nb ≠ C) :
    Calls Try.prog 29 #[.agg #[.int .i64 R, .int .i64 C, s], sb, .int .u64 p] w fun e w' => e = .returned (.tuple #[.slice none 0 0, .int .i64 2]) ∧ Below w.heap.size w w' := by
  obtain ⟨p0, p1⟩ := primeB_bd hp
  have hf : ((nb : Int) == C) = false := beq_eq_false_iff_ne.2 (by omega)
  have ho : openE R C (R * C) p ((nb : Int) == C) = 2 := by rw [hf]; exact openE_fit hR hC rfl
  have hs : solE R C (R * C) nb x b p = 2 := by unfold solE; rw [ho, if_neg (by decide)]
  refine (Solve_any R C p (by omega) s (R * C) x sb nb b w hr hb).mono ?_
  rw [hs]
  rintro e w' ⟨v, rfl, -, h2, hb⟩
  obtain rfl := h2 (by decide)
  exact ⟨rfl, hb⟩

set_option maxHeartbeats 8000000 in
set_option maxRecDepth 100000 in
theorem Solves_fit (R C : Nat) (p : Int) (hR : R ≤ 64) (hC : C ≤ 64) (hp : primeB p = true) (sa sx : Value) (xa xx : Nat → Raw) (nx : Nat) (w : World) (ha : RdL w sa (R * C) xa) (hx : RdL w sx nx xx) (hsa : ∀ i, i < R * C → (xa i).n ≤ 1048576) (hsx : ∀ i, i < nx → (xx i).n ≤ 1048576) (hne : nx ≠ R) (hnc : nx ≠ C) :
    Calls Try.prog 6 #[.agg #[.int .i64 R, .int .i64 C, sa], sx, .int .u64 p] w fun e w' => e = .returned (.bool true) ∧ Below w.heap.size w w' := by
  obtain ⟨a, cap, rfl, hla⟩ := ha.slice
  obtain ⟨b, cap', rfl, hlb⟩ := hx.slice
  obtain ⟨p0, p1⟩ := primeB_bd hp
  have hRC4 : R * C ≤ 4096 := Nat.mul_le_mul hR hC
  have hsA := fun W => sound_any R C a (R * C) cap hla W
  rw [show soundB R C (R * C) = true by unfold soundB sideB; simp; omega] at hsA
  have hpr := fun W => prime_any p (by omega) W
  rw [hp] at hpr
  have hbx0 := box_mat w (.int .i64 R) (.int .i64 C) (.slice a (R * C) cap) 34
  obtain ⟨Q, hQ⟩ : ∃ Q, Q = R - kerR p R C xa := ⟨_, rfl⟩
  obtain ⟨k, hk⟩ : ∃ k : Nat → Int, k = fun t => (kerS p R C xa).G (t / R) (t % R) := ⟨_, rfl⟩
  obtain ⟨Pk, hPk⟩ : ∃ P : Nat → Nat, P = fun i => (kerS p R C xa).P.getD i 0 := ⟨_, rfl⟩
  have hker := fun W h => Kernel_rd R C p hR hC hp (.slice a (R * C) cap) xa W h
  simp only [← hQ] at hker
  have hst2 := ker_sta hp R C xa
  rw [← hQ, ← hk, ← hPk] at hst2
  have hneb : ((nx : Int) == R) = false := beq_eq_false_iff_ne.2 (by omega)
  have hncb : ((nx : Int) != C) = true := by rw [bne_iff_ne]; omega
  have HNC := Lib.hid hnc
  clear hne hnc
  have HA := Lib.hid ha
  have HX := Lib.hid hx
  have HSA := Lib.hid hsa
  have HSX := Lib.hid hsx
  have HSDA := Lib.hid hsA
  have HPR := Lib.hid hpr
  have HP := Lib.hid hp
  have HKER := Lib.hid hker
  have HST2 := Lib.hid hst2
  have HK := Lib.hid hk
  have HPK := Lib.hid hPk
  have HQ := Lib.hid hQ
  have hQR : Q ≤ R := by omega
  have hH : Has (w.alloc (.cells #[.int .i64 R, .int .i64 C, .slice a (R * C) cap] 34)) [(_, _), (_, _), (_, _)] := ⟨hbx0.2.1, hbx0.2.2.1, hbx0.2.2.2, trivial⟩
  have H0 := Lib.hid hH
  have G0 := Lib.hid (And.intro hbx0.1 hbx0.1.size)
  clear ha hx hsa hsx hsA hpr hp hker hst2 hk hPk hQ hH hbx0
  go_enter Try.func6, Try.ntmps6
  go_wp2_with fail
  refine (wakes_any _).mono ?_
  rintro e w1 ⟨rfl, hbw1⟩
  have G1 := Lib.hid (stage G0.out.1 G0.out.2 hbw1)
  have H1 := Lib.hid (H0.out.below hbw1)
  have B1 := hbw1
  clear hbw1 B1
  obtain ⟨x0, x1, x2, -⟩ := H1.out
  dsimp only at x0 x1 x2
  go_wp2_with fail
  refine (HSDA.out _).mono ?_
  rintro e w2 ⟨rfl, hbw2⟩
  have G2 := Lib.hid (stage G1.out.1 G1.out.2 hbw2)
  have H2 := Lib.hid (H1.out.below hbw2)
  have B2 := hbw2
  clear x0 x1 x2 hbw2 B2
  obtain ⟨x0, x1, x2, -⟩ := H2.out
  dsimp only at x0 x1 x2
  go_wp2_with (go_at_call 14; refine (HPR.out _).mono ?_; rintro e w' ⟨rfl, rfl⟩)
  refine (HKER.out _ (HA.out.below G2.out.1)).mono ?_
  rintro e w3 ⟨l3, rfl, hrd3, hbw3⟩
  have G3 := Lib.hid (stage3 G2.out hbw3 (.int .i64 Q) (.int .i64 R) (.slice (some ⟨l3, 0, none⟩) (Q * R) (Q * R)) 34)
  have H3 := Lib.hid ((H2.out.below hbw3).box (.int .i64 Q) (.int .i64 R) (.slice (some ⟨l3, 0, none⟩) (Q * R) (Q * R)) 34)
  have bx3 := box_mat w3 (.int .i64 Q) (.int .i64 R) (.slice (some ⟨l3, 0, none⟩) (Q * R) (Q * R)) 34
  have B3 := hbw3.trans (bx3.1.mono hbw3.size)
  have RK_3 := Lib.hid ((show RdL w3 (.slice (some ⟨l3, 0, none⟩) (Q * R) (Q * R)) (Q * R) (fun t => small (k t)) by rw [HK.out]; exact hrd3).below bx3.1)
  clear hrd3
  have hQR2 : Q * R ≤ 4096 := Nat.mul_le_mul (show Q ≤ 64 by omega) hR
  have hsdk := fun W => sound_any Q R (some ⟨l3, 0, none⟩) (Q * R) (Q * R) (by omega) W
  rw [show soundB Q R (Q * R) = true by unfold soundB sideB; simp; omega] at hsdk
  have HSDK := Lib.hid hsdk
  clear hsdk
  clear x0 x1 x2 hbw3 B3 bx3
  obtain ⟨k0, k1, k2, x0, x1, x2, -⟩ := H3.out
  dsimp only at k0 k1 k2 x0 x1 x2
  go_wp2_with fail
  refine (HSDK.out _).mono ?_
  rintro e w4 ⟨rfl, hbw4⟩
  have G4 := Lib.hid (stage G3.out.1 G3.out.2 hbw4)
  have H4 := Lib.hid (H3.out.below hbw4)
  have B4 := hbw4
  have RK_4 := Lib.hid (RK_3.out.below B4)
  clear k0 k1 k2 x0 x1 x2 hbw4 B4
  obtain ⟨k0, k1, k2, x0, x1, x2, -⟩ := H4.out
  dsimp only at k0 k1 k2 x0 x1 x2
  go_wp2_with fail
  refine (stairs_yes Q R Q (by omega) hR Pk k HST2.out _ _ RK_4.out).mono ?_
  rintro e w5 ⟨pv, rfl, hoc, hbw5⟩
  have G5 := Lib.hid (stage G4.out.1 G4.out.2 hbw5)
  have H5 := Lib.hid (H4.out.below hbw5)
  have B5 := hbw5
  have RK_5 := Lib.hid (RK_4.out.below B5)
  obtain ⟨pa, pc, rfl⟩ := own_slice hoc
  have OC_5 := Lib.hid (own_fr hoc (by omega))
  clear hoc
  clear k0 k1 k2 x0 x1 x2 hbw5 B5
  obtain ⟨-, -, -, x0, x1, x2, -⟩ := H5.out
  dsimp only at x0 x1 x2
  go_wp2_with fail
  refine (Solve_fit R C p hR hC HP.out _ xa _ nx xx _ (HA.out.below G5.out.1) (HX.out.below G5.out.1) HNC.out).mono ?_
  rintro e wy ⟨rfl, hbwy⟩
  have G6 := Lib.hid (stage G5.out.1 G5.out.2 hbwy)
  have H6 := Lib.hid (H5.out.below hbwy)
  have B6 := hbwy
  have OC_6 := Lib.hid (OC_5.out.below B6)
  clear x0 x1 x2 hbwy B6
  obtain ⟨k0, k1, k2, x0, x1, x2, -⟩ := H6.out
  dsimp only at k0 k1 k2 x0 x1 x2
  go_wp2_with fail
  go_ret
  exact ⟨rfl, G6.out.1⟩

set_option maxHeartbeats 8000000 in
set_option maxRecDepth 100000 in
theorem Solves_no (R C : Nat) (p : Int) (hR : R ≤ 64) (hC : C ≤ 64) (hp : primeB p = true) (sa sx : Value) (xa xx : Nat → Raw) (w : World) (ha : RdL w sa (R * C) xa) (hx : RdL w sx C xx) (hsa : ∀ i, i < R * C → (xa i).n ≤ 1048576) (hsx : ∀ i, i < C → (xx i).n ≤ 1048576) (hne : C ≠ R) (hnz : anyNZ (sol1 p R C xa xx) C = true) (hna : ∀ c, sa = .slice none (R * C) c → c = 0) (hnx : ∀ c, sx = .slice none C c → c = 0) :
    Calls Try.prog 6 #[.agg #[.int .i64 R, .int .i64 C, sa], sx, .int .u64 p] w fun e w' => e = .returned (.bool true) ∧ Below w.heap.size w w' := by
  obtain ⟨a, cap, rfl, hla⟩ := ha.slice
  obtain ⟨b, cap', rfl, hlb⟩ := hx.slice
  obtain ⟨p0, p1⟩ := primeB_bd hp
  have hRC4 : R * C ≤ 4096 := Nat.mul_le_mul hR hC
  have hsA := fun W => sound_any R C a (R * C) cap hla W
  rw [show soundB R C (R * C) = true by unfold soundB sideB; simp; omega] at hsA
  have hpr := fun W => prime_any p (by omega) W
  rw [hp] at hpr
  have hbx0 := box_mat w (.int .i64 R) (.int .i64 C) (.slice a (R * C) cap) 34
  obtain ⟨Q, hQ⟩ : ∃ Q, Q = R - kerR p R C xa := ⟨_, rfl⟩
  obtain ⟨k, hk⟩ : ∃ k : Nat → Int, k = fun t => (kerS p R C xa).G (t / R) (t % R) := ⟨_, rfl⟩
  obtain ⟨Pk, hPk⟩ : ∃ P : Nat → Nat, P = fun i => (kerS p R C xa).P.getD i 0 := ⟨_, rfl⟩
  have hker := fun W h => Kernel_rd R C p hR hC hp (.slice a (R * C) cap) xa W h
  simp only [← hQ] at hker
  have hst2 := ker_sta hp R C xa
  rw [← hQ, ← hk, ← hPk] at hst2
  have hneb : ((C : Int) == R) = false := beq_eq_false_iff_ne.2 (by omega)
  have hnew : ((C : Int) != R) = true := by rw [bne_iff_ne]; omega
  have hbad := fun (xm : Nat → Raw) h => sol_bad (R := R) (C := C) (xa := xa) (b := xx) hp hnz xm h
  have hrank := fun W h => Rank_rd R C p hR hC hp (.slice a (R * C) cap) xa W h
  obtain ⟨R1, hR1⟩ : ∃ R1, R1 = R + 1 := ⟨_, rfl⟩
  have hrankm := fun (h1 : R + 1 ≤ 64) (s : Value) xs W h => Rank_rd (R + 1) C p h1 hC hp s xs W h
  obtain ⟨r, hr⟩ : ∃ r, r = (redS p R C (resG p C xa) C).P.length := ⟨_, rfl⟩
  have hrR : r ≤ R := by rw [hr]; exact RS.run_len (s := ⟨resG p C xa, [], 1 % p⟩) (Nat.zero_le _) C
  simp only [← hr] at hrank hbad
  simp only [← hR1] at hrankm hbad
  have HBAD := Lib.hid hbad
  have HRANK := Lib.hid hrank
  have HRANKM := Lib.hid hrankm
  have HNZ := Lib.hid hnz
  have HNE := Lib.hid hne
  have hn1 : a = none → cap = 0 := fun e => hna cap (by rw [e])
  have hn2 : b = none → cap' = 0 := fun e => hnx cap' (by rw [e])
  have HN1 := Lib.hid hn1
  have HN2 := Lib.hid hn2
  have HR1 := Lib.hid hR1
  clear hnz hne hbad hrank hrankm hr hna hnx hn1 hn2 hR1
  have HA := Lib.hid ha
  have HX := Lib.hid hx
  have HSA := Lib.hid hsa
  have HSX := Lib.hid hsx
  have HSDA := Lib.hid hsA
  have HPR := Lib.hid hpr
  have HP := Lib.hid hp
  have HKER := Lib.hid hker
  have HST2 := Lib.hid hst2
  have HK := Lib.hid hk
  have HPK := Lib.hid hPk
  have HQ := Lib.hid hQ
  have hQR : Q ≤ R := by omega
  have hH : Has (w.alloc (.cells #[.int .i64 R, .int .i64 C, .slice a (R * C) cap] 34)) [(_, _), (_, _), (_, _)] := ⟨hbx0.2.1, hbx0.2.2.1, hbx0.2.2.2, trivial⟩
  have H0 := Lib.hid hH
  have G0 := Lib.hid (And.intro hbx0.1 hbx0.1.size)
  clear ha hx hsa hsx hsA hpr hp hker hst2 hk hPk hQ hH hbx0
  go_enter Try.func6, Try.ntmps6
  go_wp2_with fail
  refine (wakes_any _).mono ?_
  rintro e w1 ⟨rfl, hbw1⟩
  have G1 := Lib.hid (stage G0.out.1 G0.out.2 hbw1)
  have H1 := Lib.hid (H0.out.below hbw1)
  have B1 := hbw1
  clear hbw1 B1
  obtain ⟨x0, x1, x2, -⟩ := H1.out
  dsimp only at x0 x1 x2
  go_wp2_with fail
  refine (HSDA.out _).mono ?_
  rintro e w2 ⟨rfl, hbw2⟩
  have G2 := Lib.hid (stage G1.out.1 G1.out.2 hbw2)
  have H2 := Lib.hid (H1.out.below hbw2)
  have B2 := hbw2
  clear x0 x1 x2 hbw2 B2
  obtain ⟨x0, x1, x2, -⟩ := H2.out
  dsimp only at x0 x1 x2
  go_wp2_with (go_at_call 14; refine (HPR.out _).mono ?_; rintro e w' ⟨rfl, rfl⟩)
  refine (HKER.out _ (HA.out.below G2.out.1)).mono ?_
  rintro e w3 ⟨l3, rfl, hrd3, hbw3⟩
  have G3 := Lib.hid (stage3 G2.out hbw3 (.int .i64 Q) (.int .i64 R) (.slice (some ⟨l3, 0, none⟩) (Q * R) (Q * R)) 34)
  have H3 := Lib.hid ((H2.out.below hbw3).box (.int .i64 Q) (.int .i64 R) (.slice (some ⟨l3, 0, none⟩) (Q * R) (Q * R)) 34)
  have bx3 := box_mat w3 (.int .i64 Q) (.int .i64 R) (.slice (some ⟨l3, 0, none⟩) (Q * R) (Q * R)) 34
  have B3 := hbw3.trans (bx3.1.mono hbw3.size)
  have RK_3 := Lib.hid ((show RdL w3 (.slice (some ⟨l3, 0, none⟩) (Q * R) (Q * R)) (Q * R) (fun t => small (k t)) by rw [HK.out]; exact hrd3).below bx3.1)
  clear hrd3
  have hQR2 : Q * R ≤ 4096 := Nat.mul_le_mul (show Q ≤ 64 by omega) hR
  have hsdk := fun W => sound_any Q R (some ⟨l3, 0, none⟩) (Q * R) (Q * R) (by omega) W
  rw [show soundB Q R (Q * R) = true by unfold soundB sideB; simp; omega] at hsdk
  have HSDK := Lib.hid hsdk
  clear hsdk
  clear x0 x1 x2 hbw3 B3 bx3
  obtain ⟨k0, k1, k2, x0, x1, x2, -⟩ := H3.out
  dsimp only at k0 k1 k2 x0 x1 x2
  go_wp2_with fail
  refine (HSDK.out _).mono ?_
  rintro e w4 ⟨rfl, hbw4⟩
  have G4 := Lib.hid (stage G3.out.1 G3.out.2 hbw4)
  have H4 := Lib.hid (H3.out.below hbw4)
  have B4 := hbw4
  have RK_4 := Lib.hid (RK_3.out.below B4)
  clear k0 k1 k2 x0 x1 x2 hbw4 B4
  obtain ⟨k0, k1, k2, x0, x1, x2, -⟩ := H4.out
  dsimp only at k0 k1 k2 x0 x1 x2
  go_wp2_with fail
  refine (stairs_yes Q R Q (by omega) hR Pk k HST2.out _ _ RK_4.out).mono ?_
  rintro e w5 ⟨pv, rfl, hoc, hbw5⟩
  have G5 := Lib.hid (stage G4.out.1 G4.out.2 hbw5)
  have H5 := Lib.hid (H4.out.below hbw5)
  have B5 := hbw5
  have RK_5 := Lib.hid (RK_4.out.below B5)
  obtain ⟨pa, pc, rfl⟩ := own_slice hoc
  have OC_5 := Lib.hid (own_fr hoc (by omega))
  clear hoc
  clear k0 k1 k2 x0 x1 x2 hbw5 B5
  obtain ⟨-, -, -, x0, x1, x2, -⟩ := H5.out
  dsimp only at x0 x1 x2
  go_wp2_with fail
  refine (Solve_no R C p hR hC HP.out _ xa _ xx _ (HA.out.below G5.out.1) (HX.out.below G5.out.1) HNZ.out).mono ?_
  rintro e wy ⟨rfl, hbwy⟩
  have G6 := Lib.hid (stage G5.out.1 G5.out.2 hbwy)
  have H6 := Lib.hid (H5.out.below hbwy)
  have B6 := hbwy
  have OC_6 := Lib.hid (OC_5.out.below B6)
  clear x0 x1 x2 hbwy B6
  obtain ⟨k0, k1, k2, x0, x1, x2, -⟩ := H6.out
  dsimp only at k0 k1 k2 x0 x1 x2
  by_cases h64 : R = 64
  · have h64b : ((R : Int) == 64) = true := beq_iff_eq.2 (by omega)
    have H64 := Lib.hid h64
    clear h64
    go_wp2_with fail
    go_ret
    exact ⟨rfl, G6.out.1⟩
  · have h64b : ((R : Int) == 64) = false := beq_eq_false_iff_ne.2 (by omega)
    have h63 : R + 1 ≤ 64 := by omega
    clear h64
    have hcl := cellsOf wy [.int .i64 R, .int .i64 C, .slice a (R * C) cap, .int .i64 1, .int .i64 C, .slice b C cap'] 34
    have hba : Below wy.heap.size wy (wy.alloc (.cells #[.int .i64 R, .int .i64 C, .slice a (R * C) cap, .int .i64 1, .int .i64 C, .slice b C cap'] 34)) := (Below.refl _ _).alloc (Nat.le_refl _) _
    have hgw := G6.out.1.trans (hba.mono G6.out.2)
    have hst := Stack_two wy.heap.size R C h63 hC a b cap cap' xa xx _ (HA.out.below hgw) (HX.out.below hgw) HN1.out HN2.out HSA.out HSX.out (hcl 0 _ rfl).1 (hcl 1 _ rfl).1 (hcl 2 _ rfl).1 (hcl 3 _ rfl).1 (hcl 4 _ rfl).1 (hcl 5 _ rfl).1
    simp only [← HR1.out] at hst
    have HSTK := Lib.hid hst
    have HGA := Lib.hid (stage G6.out.1 G6.out.2 hba)
    have HHA := Lib.hid (H6.out.below hba)
    clear hcl hba hgw hst
    go_wp2_with fail
    refine HSTK.out.mono ?_
    rintro e wz ⟨lz, rfl, ⟨xm, hrdm, hxm⟩, hbz⟩
    have hbm := box_mat wz (.int .i64 R1) (.int .i64 C) (.slice (some ⟨lz, 0, none⟩) (R1 * C) (R1 * C)) 34
    have HGZ := Lib.hid (stage3 HGA.out hbz (.int .i64 R1) (.int .i64 C) (.slice (some ⟨lz, 0, none⟩) (R1 * C) (R1 * C)) 34)
    have HHZ := Lib.hid ((HHA.out.below hbz).box (.int .i64 R1) (.int .i64 C) (.slice (some ⟨lz, 0, none⟩) (R1 * C) (R1 * C)) 34)
    have RM := Lib.hid (hrdm.below hbm.1)
    have hbad2 := HBAD.out xm (fun t ht => (hxm t ht).2)
    have HB2 := Lib.hid hbad2
    clear x0 x1 x2 hbm hbz hrdm hxm hbad2
    obtain ⟨m0, m1, m2, -, -, -, x0, x1, x2, -⟩ := HHZ.out
    dsimp only at m0 m1 m2 x0 x1 x2
    go_wp2_with fail
    refine (HRANK.out _ (HA.out.below HGZ.out.1)).mono ?_
    rintro e wr1 ⟨rfl, hbr1⟩
    have HG1 := Lib.hid (stage HGZ.out.1 HGZ.out.2 hbr1)
    have RM1 := Lib.hid (RM.out.below hbr1)
    replace m0 := cell_stays hbr1 m0
    replace m1 := cell_stays hbr1 m1
    replace m2 := cell_stays hbr1 m2
    clear x0 x1 x2 hbr1
    go_wp2_with fail
    refine (HRANKM.out (by have := HR1.out; omega) _ xm _ RM1.out).mono ?_
    rw [HB2.out]
    rintro e wr2 ⟨rfl, hbr2⟩
    have HG2 := Lib.hid (stage HG1.out.1 HG1.out.2 hbr2)
    clear hbr2 m0 m1 m2
    go_wp2_with fail
    go_ret
    exact ⟨by simp, HG2.out.1⟩

set_option maxHeartbeats 8000000 in
set_option maxRecDepth 100000 in
theorem Solves_a (R C : Nat) (p : Int) (hR : R ≤ 64) (hC : C ≤ 64) (hp : primeB p = true) (sa sx : Value) (xa xx : Nat → Raw) (w : World) (ha : RdL w sa (R * C) xa) (hx : RdL w sx R xx) (hsa : ∀ i, i < R * C → (xa i).n ≤ 1048576) (hsx : ∀ i, i < R → (xx i).n ≤ 1048576) :
    Calls Try.prog 6 #[.agg #[.int .i64 R, .int .i64 C, sa], sx, .int .u64 p] w fun e w' => e = .returned (.bool true) ∧ Below w.heap.size w w' := by
  obtain ⟨a, cap, rfl, hla⟩ := ha.slice
  obtain ⟨b, cap', rfl, hlb⟩ := hx.slice
  obtain ⟨p0, p1⟩ := primeB_bd hp
  have hRC4 : R * C ≤ 4096 := Nat.mul_le_mul hR hC
  have hsA := fun W => sound_any R C a (R * C) cap hla W
  rw [show soundB R C (R * C) = true by unfold soundB sideB; simp; omega] at hsA
  have hpr := fun W => prime_any p (by omega) W
  rw [hp] at hpr
  have hbx0 := box_mat w (.int .i64 R) (.int .i64 C) (.slice a (R * C) cap) 34
  obtain ⟨Q, hQ⟩ : ∃ Q, Q = R - kerR p R C xa := ⟨_, rfl⟩
  obtain ⟨k, hk⟩ : ∃ k : Nat → Int, k = fun t => (kerS p R C xa).G (t / R) (t % R) := ⟨_, rfl⟩
  obtain ⟨Pk, hPk⟩ : ∃ P : Nat → Nat, P = fun i => (kerS p R C xa).P.getD i 0 := ⟨_, rfl⟩
  have hker := fun W h => Kernel_rd R C p hR hC hp (.slice a (R * C) cap) xa W h
  simp only [← hQ] at hker
  have hst2 := ker_sta hp R C xa
  rw [← hQ, ← hk, ← hPk] at hst2
  have hslv : ∀ xb : Nat → Raw, (∀ j, j < C → (xb j).val = dotZ (fun t => (xx t).val) (fun i => (xa (i * C + j)).val) R) → anyNZ (sol1 p R C xa xb) C = false := fun xb h => solv_ok hp ⟨fun t => (xx t).val, fun j hj => by rw [h j hj, Int.sub_self]; rfl⟩
  have HSLV := Lib.hid hslv
  clear hslv
  have HA := Lib.hid ha
  have HX := Lib.hid hx
  have HSA := Lib.hid hsa
  have HSX := Lib.hid hsx
  have HSDA := Lib.hid hsA
  have HPR := Lib.hid hpr
  have HP := Lib.hid hp
  have HKER := Lib.hid hker
  have HST2 := Lib.hid hst2
  have HK := Lib.hid hk
  have HPK := Lib.hid hPk
  have HQ := Lib.hid hQ
  have hQR : Q ≤ R := by omega
  have hH : Has (w.alloc (.cells #[.int .i64 R, .int .i64 C, .slice a (R * C) cap] 34)) [(_, _), (_, _), (_, _)] := ⟨hbx0.2.1, hbx0.2.2.1, hbx0.2.2.2, trivial⟩
  have H0 := Lib.hid hH
  have G0 := Lib.hid (And.intro hbx0.1 hbx0.1.size)
  clear ha hx hsa hsx hsA hpr hp hker hst2 hk hPk hQ hH hbx0
  go_enter Try.func6, Try.ntmps6
  go_wp2_with fail
  refine (wakes_any _).mono ?_
  rintro e w1 ⟨rfl, hbw1⟩
  have G1 := Lib.hid (stage G0.out.1 G0.out.2 hbw1)
  have H1 := Lib.hid (H0.out.below hbw1)
  have B1 := hbw1
  clear hbw1 B1
  obtain ⟨x0, x1, x2, -⟩ := H1.out
  dsimp only at x0 x1 x2
  go_wp2_with fail
  refine (HSDA.out _).mono ?_
  rintro e w2 ⟨rfl, hbw2⟩
  have G2 := Lib.hid (stage G1.out.1 G1.out.2 hbw2)
  have H2 := Lib.hid (H1.out.below hbw2)
  have B2 := hbw2
  clear x0 x1 x2 hbw2 B2
  obtain ⟨x0, x1, x2, -⟩ := H2.out
  dsimp only at x0 x1 x2
  go_wp2_with (go_at_call 14; refine (HPR.out _).mono ?_; rintro e w' ⟨rfl, rfl⟩)
  refine (HKER.out _ (HA.out.below G2.out.1)).mono ?_
  rintro e w3 ⟨l3, rfl, hrd3, hbw3⟩
  have G3 := Lib.hid (stage3 G2.out hbw3 (.int .i64 Q) (.int .i64 R) (.slice (some ⟨l3, 0, none⟩) (Q * R) (Q * R)) 34)
  have H3 := Lib.hid ((H2.out.below hbw3).box (.int .i64 Q) (.int .i64 R) (.slice (some ⟨l3, 0, none⟩) (Q * R) (Q * R)) 34)
  have bx3 := box_mat w3 (.int .i64 Q) (.int .i64 R) (.slice (some ⟨l3, 0, none⟩) (Q * R) (Q * R)) 34
  have B3 := hbw3.trans (bx3.1.mono hbw3.size)
  have RK_3 := Lib.hid ((show RdL w3 (.slice (some ⟨l3, 0, none⟩) (Q * R) (Q * R)) (Q * R) (fun t => small (k t)) by rw [HK.out]; exact hrd3).below bx3.1)
  clear hrd3
  have hQR2 : Q * R ≤ 4096 := Nat.mul_le_mul (show Q ≤ 64 by omega) hR
  have hsdk := fun W => sound_any Q R (some ⟨l3, 0, none⟩) (Q * R) (Q * R) (by omega) W
  rw [show soundB Q R (Q * R) = true by unfold soundB sideB; simp; omega] at hsdk
  have HSDK := Lib.hid hsdk
  clear hsdk
  clear x0 x1 x2 hbw3 B3 bx3
  obtain ⟨k0, k1, k2, x0, x1, x2, -⟩ := H3.out
  dsimp only at k0 k1 k2 x0 x1 x2
  go_wp2_with fail
  refine (HSDK.out _).mono ?_
  rintro e w4 ⟨rfl, hbw4⟩
  have G4 := Lib.hid (stage G3.out.1 G3.out.2 hbw4)
  have H4 := Lib.hid (H3.out.below hbw4)
  have B4 := hbw4
  have RK_4 := Lib.hid (RK_3.out.below B4)
  clear k0 k1 k2 x0 x1 x2 hbw4 B4
  obtain ⟨k0, k1, k2, x0, x1, x2, -⟩ := H4.out
  dsimp only at k0 k1 k2 x0 x1 x2
  go_wp2_with fail
  refine (stairs_yes Q R Q (by omega) hR Pk k HST2.out _ _ RK_4.out).mono ?_
  rintro e w5 ⟨pv, rfl, hoc, hbw5⟩
  have G5 := Lib.hid (stage G4.out.1 G4.out.2 hbw5)
  have H5 := Lib.hid (H4.out.below hbw5)
  have B5 := hbw5
  have RK_5 := Lib.hid (RK_4.out.below B5)
  obtain ⟨pa, pc, rfl⟩ := own_slice hoc
  have OC_5 := Lib.hid (own_fr hoc (by omega))
  clear hoc
  clear k0 k1 k2 x0 x1 x2 hbw5 B5
  obtain ⟨-, -, -, x0, x1, x2, -⟩ := H5.out
  dsimp only at x0 x1 x2
  go_wp2_with fail
  refine (VecMul_any R C hR hC _ _ _ _ 1048576 1048576 (by omega) _ ((HX.out.below G5.out.1).rdn HSX.out) ((HA.out.below G5.out.1).rdn HSA.out)).mono ?_
  rintro e w6 ⟨l6, rfl, ⟨xb, hrd6, hxb⟩, hbw6⟩
  have G6 := Lib.hid (stage G5.out.1 G5.out.2 hbw6)
  have H6 := Lib.hid (H5.out.below hbw6)
  have B6 := hbw6
  have OC_6 := Lib.hid (OC_5.out.below B6)
  have RB_6 := Lib.hid hrd6
  have hnz := HSLV.out xb (fun j hj => (hxb j hj).2)
  have HNZ := Lib.hid hnz
  have HGB := Lib.hid (sol_good (R := R) (C := C) (xa := xa) (b := xb) HP.out hnz)
  have HSB := Lib.hid (show ∀ j, j < C → (xb j).n ≤ 2097153 from fun j hj => (hxb j hj).1)
  clear hrd6 hxb hnz
  clear x0 x1 x2 hbw6 B6
  obtain ⟨k0, k1, k2, x0, x1, x2, -⟩ := H6.out
  dsimp only at k0 k1 k2 x0 x1 x2
  go_wp2_with fail
  refine (Solve_ok R C p hR hC HP.out _ xa _ xb _ (HA.out.below G6.out.1) RB_6.out HNZ.out).mono ?_
  rintro e wy ⟨ly, rfl, hrdy, hbwy⟩
  have G7 := Lib.hid (stage G6.out.1 G6.out.2 hbwy)
  have H7 := Lib.hid (H6.out.below hbwy)
  have B7 := hbwy
  have OC_7 := Lib.hid (OC_6.out.below B7)
  have RB_7 := Lib.hid (RB_6.out.below B7)
  have RY_7 := Lib.hid hrdy
  clear hrdy
  clear k0 k1 k2 x0 x1 x2 hbwy B7
  obtain ⟨-, -, -, x0, x1, x2, -⟩ := H7.out
  dsimp only at x0 x1 x2
  go_wp2_with fail
  refine (least_yes _ R _ p _ RY_7.out (fun t ht => SmallB.small (HGB.out.1 t ht).1 (HGB.out.1 t ht).2)).mono ?_
  rintro e w' ⟨rfl, rfl⟩
  go_wp2_with fail
  refine (VecMul_any R C hR hC _ _ _ _ 1 1048576 (by omega) _ (RY_7.out.smalls (fun t ht => ⟨(HGB.out.1 t ht).1, by have := (HGB.out.1 t ht).2; omega⟩)) ((HA.out.below G7.out.1).rdn HSA.out)).mono ?_
  rintro e wv ⟨lv, rfl, ⟨xv, hrdv, hxv⟩, hbwv⟩
  have G8 := Lib.hid (stage G7.out.1 G7.out.2 hbwv)
  have H8 := Lib.hid (H7.out.below hbwv)
  have B8 := hbwv
  have OC_8 := Lib.hid (OC_7.out.below B8)
  have RB_8 := Lib.hid (RB_7.out.below B8)
  have RY_8 := Lib.hid (RY_7.out.below B8)
  have RV_8 := Lib.hid hrdv
  have hxz : ∀ j, j < C → (xv j).n ≤ 1048578 ∧ ((xv j).val - (xb j).val) % p = 0 := fun j hj => ⟨(hxv j hj).1, by rw [(hxv j hj).2]; exact HGB.out.2.1 j hj⟩
  have HXZ := Lib.hid hxz
  clear hrdv hxv hxz
  clear x0 x1 x2 hbwv B8
  obtain ⟨-, -, -, x0, -, -, -⟩ := H8.out
  dsimp only at x0
  go_wp2_with fail
  have hall : ∀ wr, Below wv.heap.size wv wr → RdL wr (.slice (some ⟨l6, 0, none⟩) C C) C xb := fun wr h => RB_8.out.below h
  have HAL := Lib.hid hall
  have hpiv : ∀ i, i < Q → ∃ b o, pa = some ⟨b, o, none⟩ ∧ wv.cell? ⟨b, o + i, none⟩ = some (.int .i64 (Pk i)) := fun i hi => by
    obtain ⟨a', cap', e, -, -, h⟩ := OC_8.out.read
    obtain ⟨b, o, e', hc⟩ := h (by omega)
    injection e with e1 _ _
    exact ⟨b, o, by rw [e1, e'], hc i hi⟩
  have HPV := Lib.hid hpiv
  clear hall hpiv x0
  go_loopw [22] (fun jv wr => ∃ j : Nat, j ≤ C ∧ jv = .int .i64 j ∧ Below wv.heap.size wv wr) (fun jv _ => C - (intOf jv).toNat)
  case atStart => exact ⟨0, by omega, rfl, Below.refl _ _⟩
  case round =>
    obtain ⟨j, j1, rfl, hbj⟩ := hrel
    have HBJ := Lib.hid hbj
    clear hbj
    by_cases hj : j < C
    · have g5 : (0 : Int) ≤ (j : Int) := by omega
      have g6 : (j : Int) < (C : Int) := by omega
      obtain ⟨vb, vo, ev, mv, c0, c1, c2⟩ := rdl_at (RV_8.out.below HBJ.out) hj
      injection ev with ev
      injection ev with e5 e6 _
      subst e5; subst e6
      rw [Nat.zero_add] at c0 c1
      obtain ⟨ab, ao, ea, ma, d0, d1, d2⟩ := rdl_at (HAL.out wr HBJ.out) hj
      injection ea with ea
      injection ea with e7 e8 _
      subst e7; subst e8
      rw [Nat.zero_add] at d0 d1
      obtain ⟨av, cv, rfl, -⟩ := c2.1
      obtain ⟨aa, ca', rfl, -⟩ := d2.1
      have hr1 : RdZ wr (.agg #[.bool (xv j).neg, .slice av (xv j).n cv]) (xv j).val := ⟨xv j, ⟨_, rfl, c2⟩, rfl, by have := (HXZ.out j hj).1; omega⟩
      have hr2 : RdZ wr (.agg #[.bool (xb j).neg, .slice aa (xb j).n ca']) (xb j).val := ⟨xb j, ⟨_, rfl, d2⟩, rfl, by have := HSB.out j hj; omega⟩
      have hzb : ZB (1048578 + 2097153 + 1) ((xv j).val - (xb j).val) := by
        rw [Int.sub_eq_add_neg]
        exact ((RdI.zb ⟨_, rfl, c2⟩).mono (HXZ.out j hj).1).add ((RdI.zb ⟨_, rfl, d2⟩).mono (HSB.out j hj)).neg
      have hzm : ((xv j).val - (xb j).val) % p = 0 := (HXZ.out j hj).2
      have cm1 : ∀ W, Below wr.heap.size wr W → Calls Try.prog 32 #[.agg #[.bool (xv j).neg, .slice av (xv j).n cv], .agg #[.bool (xb j).neg, .slice aa (xb j).n ca']] W fun e w' => ∃ bd ad nd cd, e = .returned (.agg #[.bool bd, .slice ad nd cd]) ∧
          FrZ w' W.heap.size (.agg #[.bool bd, .slice ad nd cd]) ((xv j).val - (xb j).val) ∧ Below wr.heap.size wr w' ∧ Below W.heap.size W w' := fun W hW => by
        refine (Sub05_any _ _ _ _ W (hr1.below hW) (hr2.below hW)).mono ?_
        rintro e w' ⟨v, rfl, hz, h3⟩
        obtain ⟨m, n', f, rfl, h1, h2⟩ := hz
        obtain ⟨a', c', rfl⟩ := h1.slice
        exact ⟨_, a', n', c', rfl, ⟨_, n', f, rfl, h1, h2⟩, hW.trans (h3.mono hW.size), h3⟩
      have CM1 := Lib.hid cm1
      have HZM := Lib.hid hzm
      have HZB := Lib.hid hzb
      have s1 := World.block_lt_of_cell? wr _ c0
      have s2 := World.block_lt_of_cell? wr _ d0
      dsimp only at s1 s2
      clear c2 d2 hr1 hr2 hzb hzm cm1
      generalize (xv j).val - (xb j).val = dz at *
      generalize (xv j).neg = ng at *
      generalize (xv j).n = nv at *
      generalize (xb j).neg = nga at *
      generalize (xb j).n = na at *
      go_upto_region 31 with fail
      go_cut [23] (fun v28 wx => ∃ (db : Nat) (bd : Bool) (ad : Option Addr) (nd cd : Nat), v28 = .pointer (some ⟨db, 0, none⟩) ∧ wx.cell? ⟨db, 0, none⟩ = some (.bool bd) ∧ wx.cell? ⟨db, 1, none⟩ = some (.slice ad nd cd) ∧ RdZ wx (.agg #[.bool bd, .slice ad nd cd]) dz ∧ Below wr.heap.size wr wx)
      case first =>
        go_region_held3 (fun w' => w'.cell? ⟨lv, j * 2, none⟩ = some (.bool ng) ∧ w'.cell? ⟨lv, j * 2 + 1, none⟩ = some (.slice av nv cv) ∧ w'.cell? ⟨l6, j * 2, none⟩ = some (.bool nga) ∧ w'.cell? ⟨l6, j * 2 + 1, none⟩ = some (.slice aa na ca'))
          (first
            | go_keep
            | (exact ⟨cell_stays hb8 c0, cell_stays hb8 c1, cell_stays hb8 d0, cell_stays hb8 d1⟩)
            | (have hk := hb8.alloc hb8.size (.cells #[.bool bd, .slice ad nd cd] 56); exact ⟨cell_stays hk c0, cell_stays hk c1, cell_stays hk d0, cell_stays hk d1⟩)
            | (have hk := (hb8.setCell (p := ⟨_, 0, none⟩) (Nat.le_refl _) (.bool bd)).setCell (p := ⟨_, 1, none⟩) (Nat.le_refl _) (.slice ad nd cd); exact ⟨cell_stays hk c0, cell_stays hk c1, cell_stays hk d0, cell_stays hk d1⟩))
          (first
            | (go_at_call 32; (with_reducible refine (CM1.out wr.drew ?_).mono ?_); exact (Below.refl _ _).drew; rintro e w8 ⟨bd, ad, nd, cd, rfl, hz8, hb8, hc8⟩)
            | (go_at_call 32; (with_reducible refine (CM1.out (wr.alloc (.cells #[.bool false, .slice none 0 0] 56)).drew ?_).mono ?_); exact ((Below.refl _ _).alloc (Nat.le_refl _) _).drew; rintro e w7 ⟨bd, ad, nd, cd, rfl, hz8, hb8, hc8⟩; obtain ⟨j0, j1, j2, j3⟩ := box_kept' hc8))
        all_goals
          go_wp2_with fail
          go_meet
          first
            | exact ⟨_, _, _, _, _, rfl, fin_alloc _ hz8 HZB.out (by omega) hb8⟩
            | exact ⟨_, _, _, _, _, rfl, fin_store hz8 HZB.out (by omega) hb8 j0 j1⟩
      case rest =>
        clear CM1 HZB d1 d0 c1 c0
        obtain ⟨db, bd, ad, nd, cd, rfl, e0, e1, hrz, hbx⟩ := hcut
        have HZ1 := Lib.hid (zero_one hrz (by omega) (by omega) HZM.out 56)
        clear hrz
        go_wp2_with (go_at_call 24; (with_reducible first | refine (HZ1.out _ (Below.refl _ _)).mono ?_ | refine (HZ1.out _ (Below.refl _ _).drew).mono ?_); rintro e w9 ⟨rfl, hb9⟩; have HB9 := Lib.hid (HBJ.out.trans ((hbx.trans (hb9.mono hbx.size)).mono HBJ.out.size)))
        go_roundw
        case rel => exact ⟨j + 1, by omega, by go_num, HB9.out⟩
        case measure => simp [intOf]; omega
    · have ejC : C = j := by omega
      clear hj j1
      subst ejC
      obtain ⟨wo, hwo⟩ : ∃ wo : World, wo = wr := ⟨_, rfl⟩
      subst hwo
      have hry := RY_8.out.below HBJ.out
      have HRY := Lib.hid hry
      clear hry
      go_wp2_with fail
      go_loop [24] (fun iv => ∃ i : Nat, i ≤ Q ∧ iv = .int .i64 i) (fun iv => Q - (intOf iv).toNat)
      case atStart => exact ⟨0, by omega, rfl⟩
      case round =>
        obtain ⟨i, i1, rfl⟩ := hrel
        by_cases hi : i < Q
        · obtain ⟨pb, po, rfl, hpc⟩ := HPV.out i hi
          replace hpc := cell_stays HBJ.out hpc
          have hPR := HST2.out.lt i hi
          obtain ⟨yb, yo, ady, cdy, ey, t0, t1, t2⟩ := rdl_at0 HRY.out hPR
          injection ey with ey
          injection ey with e5 e6 _
          subst e5; subst e6
          rw [Nat.zero_add] at t1
          have hy0 : sol3 p R C xa xb (Pk i) = 0 := by rw [HPK.out]; exact HGB.out.2.2 i (by rw [← HQ.out]; exact hi)
          rw [hy0, w1_zero] at t1
          have HY0 := Lib.hid hy0
          have g5 : (0 : Int) ≤ (i : Int) := by omega
          have g6 : (i : Int) < (Q : Int) := by omega
          have g7 : (0 : Int) ≤ (Pk i : Int) := by omega
          have g8 : (Pk i : Int) < (R : Int) := by omega
          clear t0 t2 hy0
          generalize Pk i = pki at *
          go_wp2_with fail
          go_round
          case rel => exact ⟨i + 1, by omega, by go_num⟩
          case measure => simp [intOf]; omega
        · go_wp2_with fail
          go_ret
          exact ⟨rfl, G8.out.1.trans (HBJ.out.mono G8.out.2)⟩

set_option maxHeartbeats 8000000 in
set_option maxRecDepth 100000 in
theorem Solves_b (R C : Nat) (p : Int) (hR : R ≤ 64) (hC : C ≤ 64) (hp : primeB p = true) (sa sx : Value) (xa xx : Nat → Raw) (w : World) (ha : RdL w sa (R * C) xa) (hx : RdL w sx C xx) (hsa : ∀ i, i < R * C → (xa i).n ≤ 1048576) (hsx : ∀ i, i < C → (xx i).n ≤ 1048576) (hne : C ≠ R) (hnz : anyNZ (sol1 p R C xa xx) C = false) :
    Calls Try.prog 6 #[.agg #[.int .i64 R, .int .i64 C, sa], sx, .int .u64 p] w fun e w' => e = .returned (.bool true) ∧ Below w.heap.size w w' := by
  obtain ⟨a, cap, rfl, hla⟩ := ha.slice
  obtain ⟨b, cap', rfl, hlb⟩ := hx.slice
  obtain ⟨p0, p1⟩ := primeB_bd hp
  have hRC4 : R * C ≤ 4096 := Nat.mul_le_mul hR hC
  have hsA := fun W => sound_any R C a (R * C) cap hla W
  rw [show soundB R C (R * C) = true by unfold soundB sideB; simp; omega] at hsA
  have hpr := fun W => prime_any p (by omega) W
  rw [hp] at hpr
  have hbx0 := box_mat w (.int .i64 R) (.int .i64 C) (.slice a (R * C) cap) 34
  obtain ⟨Q, hQ⟩ : ∃ Q, Q = R - kerR p R C xa := ⟨_, rfl⟩
  obtain ⟨k, hk⟩ : ∃ k : Nat → Int, k = fun t => (kerS p R C xa).G (t / R) (t % R) := ⟨_, rfl⟩
  obtain ⟨Pk, hPk⟩ : ∃ P : Nat → Nat, P = fun i => (kerS p R C xa).P.getD i 0 := ⟨_, rfl⟩
  have hker := fun W h => Kernel_rd R C p hR hC hp (.slice a (R * C) cap) xa W h
  simp only [← hQ] at hker
  have hst2 := ker_sta hp R C xa
  rw [← hQ, ← hk, ← hPk] at hst2
  have hneb : ((C : Int) == R) = false := beq_eq_false_iff_ne.2 (by omega)
  have HGB := Lib.hid (sol_good (R := R) (C := C) (xa := xa) (b := xx) hp hnz)
  have HSB := Lib.hid (show ∀ j, j < C → (xx j).n ≤ 2097153 from fun j hj => by have := hsx j hj; omega)
  have HNZ := Lib.hid hnz
  have HNE := Lib.hid hne
  clear hnz hne
  have HA := Lib.hid ha
  have HX := Lib.hid hx
  have HSA := Lib.hid hsa
  have HSX := Lib.hid hsx
  have HSDA := Lib.hid hsA
  have HPR := Lib.hid hpr
  have HP := Lib.hid hp
  have HKER := Lib.hid hker
  have HST2 := Lib.hid hst2
  have HK := Lib.hid hk
  have HPK := Lib.hid hPk
  have HQ := Lib.hid hQ
  have hQR : Q ≤ R := by omega
  have hH : Has (w.alloc (.cells #[.int .i64 R, .int .i64 C, .slice a (R * C) cap] 34)) [(_, _), (_, _), (_, _)] := ⟨hbx0.2.1, hbx0.2.2.1, hbx0.2.2.2, trivial⟩
  have H0 := Lib.hid hH
  have G0 := Lib.hid (And.intro hbx0.1 hbx0.1.size)
  clear ha hx hsa hsx hsA hpr hp hker hst2 hk hPk hQ hH hbx0
  go_enter Try.func6, Try.ntmps6
  go_wp2_with fail
  refine (wakes_any _).mono ?_
  rintro e w1 ⟨rfl, hbw1⟩
  have G1 := Lib.hid (stage G0.out.1 G0.out.2 hbw1)
  have H1 := Lib.hid (H0.out.below hbw1)
  have B1 := hbw1
  clear hbw1 B1
  obtain ⟨x0, x1, x2, -⟩ := H1.out
  dsimp only at x0 x1 x2
  go_wp2_with fail
  refine (HSDA.out _).mono ?_
  rintro e w2 ⟨rfl, hbw2⟩
  have G2 := Lib.hid (stage G1.out.1 G1.out.2 hbw2)
  have H2 := Lib.hid (H1.out.below hbw2)
  have B2 := hbw2
  clear x0 x1 x2 hbw2 B2
  obtain ⟨x0, x1, x2, -⟩ := H2.out
  dsimp only at x0 x1 x2
  go_wp2_with (go_at_call 14; refine (HPR.out _).mono ?_; rintro e w' ⟨rfl, rfl⟩)
  refine (HKER.out _ (HA.out.below G2.out.1)).mono ?_
  rintro e w3 ⟨l3, rfl, hrd3, hbw3⟩
  have G3 := Lib.hid (stage3 G2.out hbw3 (.int .i64 Q) (.int .i64 R) (.slice (some ⟨l3, 0, none⟩) (Q * R) (Q * R)) 34)
  have H3 := Lib.hid ((H2.out.below hbw3).box (.int .i64 Q) (.int .i64 R) (.slice (some ⟨l3, 0, none⟩) (Q * R) (Q * R)) 34)
  have bx3 := box_mat w3 (.int .i64 Q) (.int .i64 R) (.slice (some ⟨l3, 0, none⟩) (Q * R) (Q * R)) 34
  have B3 := hbw3.trans (bx3.1.mono hbw3.size)
  have RK_3 := Lib.hid ((show RdL w3 (.slice (some ⟨l3, 0, none⟩) (Q * R) (Q * R)) (Q * R) (fun t => small (k t)) by rw [HK.out]; exact hrd3).below bx3.1)
  clear hrd3
  have hQR2 : Q * R ≤ 4096 := Nat.mul_le_mul (show Q ≤ 64 by omega) hR
  have hsdk := fun W => sound_any Q R (some ⟨l3, 0, none⟩) (Q * R) (Q * R) (by omega) W
  rw [show soundB Q R (Q * R) = true by unfold soundB sideB; simp; omega] at hsdk
  have HSDK := Lib.hid hsdk
  clear hsdk
  clear x0 x1 x2 hbw3 B3 bx3
  obtain ⟨k0, k1, k2, x0, x1, x2, -⟩ := H3.out
  dsimp only at k0 k1 k2 x0 x1 x2
  go_wp2_with fail
  refine (HSDK.out _).mono ?_
  rintro e w4 ⟨rfl, hbw4⟩
  have G4 := Lib.hid (stage G3.out.1 G3.out.2 hbw4)
  have H4 := Lib.hid (H3.out.below hbw4)
  have B4 := hbw4
  have RK_4 := Lib.hid (RK_3.out.below B4)
  clear k0 k1 k2 x0 x1 x2 hbw4 B4
  obtain ⟨k0, k1, k2, x0, x1, x2, -⟩ := H4.out
  dsimp only at k0 k1 k2 x0 x1 x2
  go_wp2_with fail
  refine (stairs_yes Q R Q (by omega) hR Pk k HST2.out _ _ RK_4.out).mono ?_
  rintro e w5 ⟨pv, rfl, hoc, hbw5⟩
  have G5 := Lib.hid (stage G4.out.1 G4.out.2 hbw5)
  have H5 := Lib.hid (H4.out.below hbw5)
  have B5 := hbw5
  have RK_5 := Lib.hid (RK_4.out.below B5)
  obtain ⟨pa, pc, rfl⟩ := own_slice hoc
  have OC_5 := Lib.hid (own_fr hoc (by omega))
  clear hoc
  clear k0 k1 k2 x0 x1 x2 hbw5 B5
  obtain ⟨-, -, -, x0, x1, x2, -⟩ := H5.out
  dsimp only at x0 x1 x2
  go_wp2_with fail
  refine (Solve_ok R C p hR hC HP.out _ xa _ xx _ (HA.out.below G5.out.1) (HX.out.below G5.out.1) HNZ.out).mono ?_
  rintro e wy ⟨ly, rfl, hrdy, hbwy⟩
  have G6 := Lib.hid (stage G5.out.1 G5.out.2 hbwy)
  have H6 := Lib.hid (H5.out.below hbwy)
  have B6 := hbwy
  have OC_6 := Lib.hid (OC_5.out.below B6)
  have RY_6 := Lib.hid hrdy
  clear hrdy
  clear x0 x1 x2 hbwy B6
  obtain ⟨-, -, -, x0, x1, x2, -⟩ := H6.out
  dsimp only at x0 x1 x2
  go_wp2_with fail
  refine (least_yes _ R _ p _ RY_6.out (fun t ht => SmallB.small (HGB.out.1 t ht).1 (HGB.out.1 t ht).2)).mono ?_
  rintro e w' ⟨rfl, rfl⟩
  go_wp2_with fail
  refine (VecMul_any R C hR hC _ _ _ _ 1 1048576 (by omega) _ (RY_6.out.smalls (fun t ht => ⟨(HGB.out.1 t ht).1, by have := (HGB.out.1 t ht).2; omega⟩)) ((HA.out.below G6.out.1).rdn HSA.out)).mono ?_
  rintro e wv ⟨lv, rfl, ⟨xv, hrdv, hxv⟩, hbwv⟩
  have G7 := Lib.hid (stage G6.out.1 G6.out.2 hbwv)
  have H7 := Lib.hid (H6.out.below hbwv)
  have B7 := hbwv
  have OC_7 := Lib.hid (OC_6.out.below B7)
  have RY_7 := Lib.hid (RY_6.out.below B7)
  have RV_7 := Lib.hid hrdv
  have hxz : ∀ j, j < C → (xv j).n ≤ 1048578 ∧ ((xv j).val - (xx j).val) % p = 0 := fun j hj => ⟨(hxv j hj).1, by rw [(hxv j hj).2]; exact HGB.out.2.1 j hj⟩
  have HXZ := Lib.hid hxz
  clear hrdv hxv hxz
  clear x0 x1 x2 hbwv B7
  obtain ⟨-, -, -, x0, -, -, -⟩ := H7.out
  dsimp only at x0
  go_wp2_with fail
  have hall : ∀ wr, Below wv.heap.size wv wr → RdL wr (.slice b C cap') C xx := fun wr h => HX.out.below (G7.out.1.trans (h.mono G7.out.2))
  have HAL := Lib.hid hall
  have hpiv : ∀ i, i < Q → ∃ b o, pa = some ⟨b, o, none⟩ ∧ wv.cell? ⟨b, o + i, none⟩ = some (.int .i64 (Pk i)) := fun i hi => by
    obtain ⟨a', cap', e, -, -, h⟩ := OC_7.out.read
    obtain ⟨b, o, e', hc⟩ := h (by omega)
    injection e with e1 _ _
    exact ⟨b, o, by rw [e1, e'], hc i hi⟩
  have HPV := Lib.hid hpiv
  clear hall hpiv x0
  go_loopw [22] (fun jv wr => ∃ j : Nat, j ≤ C ∧ jv = .int .i64 j ∧ Below wv.heap.size wv wr) (fun jv _ => C - (intOf jv).toNat)
  case atStart => exact ⟨0, by omega, rfl, Below.refl _ _⟩
  case round =>
    obtain ⟨j, j1, rfl, hbj⟩ := hrel
    have HBJ := Lib.hid hbj
    clear hbj
    by_cases hj : j < C
    · have g5 : (0 : Int) ≤ (j : Int) := by omega
      have g6 : (j : Int) < (C : Int) := by omega
      obtain ⟨vb, vo, ev, mv, c0, c1, c2⟩ := rdl_at (RV_7.out.below HBJ.out) hj
      injection ev with ev
      injection ev with e5 e6 _
      subst e5; subst e6
      rw [Nat.zero_add] at c0 c1
      obtain ⟨ab, ao, rfl, ma, d0, d1, d2⟩ := rdl_at (HAL.out wr HBJ.out) hj
      obtain ⟨av, cv, rfl, -⟩ := c2.1
      obtain ⟨aa, ca', rfl, -⟩ := d2.1
      have hr1 : RdZ wr (.agg #[.bool (xv j).neg, .slice av (xv j).n cv]) (xv j).val := ⟨xv j, ⟨_, rfl, c2⟩, rfl, by have := (HXZ.out j hj).1; omega⟩
      have hr2 : RdZ wr (.agg #[.bool (xx j).neg, .slice aa (xx j).n ca']) (xx j).val := ⟨xx j, ⟨_, rfl, d2⟩, rfl, by have := HSB.out j hj; omega⟩
      have hzb : ZB (1048578 + 2097153 + 1) ((xv j).val - (xx j).val) := by
        rw [Int.sub_eq_add_neg]
        exact ((RdI.zb ⟨_, rfl, c2⟩).mono (HXZ.out j hj).1).add ((RdI.zb ⟨_, rfl, d2⟩).mono (HSB.out j hj)).neg
      have hzm : ((xv j).val - (xx j).val) % p = 0 := (HXZ.out j hj).2
      have cm1 : ∀ W, Below wr.heap.size wr W → Calls Try.prog 32 #[.agg #[.bool (xv j).neg, .slice av (xv j).n cv], .agg #[.bool (xx j).neg, .slice aa (xx j).n ca']] W fun e w' => ∃ bd ad nd cd, e = .returned (.agg #[.bool bd, .slice ad nd cd]) ∧
          FrZ w' W.heap.size (.agg #[.bool bd, .slice ad nd cd]) ((xv j).val - (xx j).val) ∧ Below wr.heap.size wr w' ∧ Below W.heap.size W w' := fun W hW => by
        refine (Sub05_any _ _ _ _ W (hr1.below hW) (hr2.below hW)).mono ?_
        rintro e w' ⟨v, rfl, hz, h3⟩
        obtain ⟨m, n', f, rfl, h1, h2⟩ := hz
        obtain ⟨a', c', rfl⟩ := h1.slice
        exact ⟨_, a', n', c', rfl, ⟨_, n', f, rfl, h1, h2⟩, hW.trans (h3.mono hW.size), h3⟩
      have CM1 := Lib.hid cm1
      have HZM := Lib.hid hzm
      have HZB := Lib.hid hzb
      have s1 := World.block_lt_of_cell? wr _ c0
      have s2 := World.block_lt_of_cell? wr _ d0
      dsimp only at s1 s2
      clear c2 d2 hr1 hr2 hzb hzm cm1
      generalize (xv j).val - (xx j).val = dz at *
      generalize (xv j).neg = ng at *
      generalize (xv j).n = nv at *
      generalize (xx j).neg = nga at *
      generalize (xx j).n = na at *
      go_upto_region 31 with fail
      go_cut [23] (fun v28 wx => ∃ (db : Nat) (bd : Bool) (ad : Option Addr) (nd cd : Nat), v28 = .pointer (some ⟨db, 0, none⟩) ∧ wx.cell? ⟨db, 0, none⟩ = some (.bool bd) ∧ wx.cell? ⟨db, 1, none⟩ = some (.slice ad nd cd) ∧ RdZ wx (.agg #[.bool bd, .slice ad nd cd]) dz ∧ Below wr.heap.size wr wx)
      case first =>
        go_region_held3 (fun w' => w'.cell? ⟨lv, j * 2, none⟩ = some (.bool ng) ∧ w'.cell? ⟨lv, j * 2 + 1, none⟩ = some (.slice av nv cv) ∧ w'.cell? ⟨ab, ao + j * 2, none⟩ = some (.bool nga) ∧ w'.cell? ⟨ab, ao + j * 2 + 1, none⟩ = some (.slice aa na ca'))
          (first
            | go_keep
            | (exact ⟨cell_stays hb8 c0, cell_stays hb8 c1, cell_stays hb8 d0, cell_stays hb8 d1⟩)
            | (have hk := hb8.alloc hb8.size (.cells #[.bool bd, .slice ad nd cd] 56); exact ⟨cell_stays hk c0, cell_stays hk c1, cell_stays hk d0, cell_stays hk d1⟩)
            | (have hk := (hb8.setCell (p := ⟨_, 0, none⟩) (Nat.le_refl _) (.bool bd)).setCell (p := ⟨_, 1, none⟩) (Nat.le_refl _) (.slice ad nd cd); exact ⟨cell_stays hk c0, cell_stays hk c1, cell_stays hk d0, cell_stays hk d1⟩))
          (first
            | (go_at_call 32; (with_reducible refine (CM1.out wr.drew ?_).mono ?_); exact (Below.refl _ _).drew; rintro e w8 ⟨bd, ad, nd, cd, rfl, hz8, hb8, hc8⟩)
            | (go_at_call 32; (with_reducible refine (CM1.out (wr.alloc (.cells #[.bool false, .slice none 0 0] 56)).drew ?_).mono ?_); exact ((Below.refl _ _).alloc (Nat.le_refl _) _).drew; rintro e w7 ⟨bd, ad, nd, cd, rfl, hz8, hb8, hc8⟩; obtain ⟨j0, j1, j2, j3⟩ := box_kept' hc8))
        all_goals
          go_wp2_with fail
          go_meet
          first
            | exact ⟨_, _, _, _, _, rfl, fin_alloc _ hz8 HZB.out (by omega) hb8⟩
            | exact ⟨_, _, _, _, _, rfl, fin_store hz8 HZB.out (by omega) hb8 j0 j1⟩
      case rest =>
        clear CM1 HZB d1 d0 c1 c0
        obtain ⟨db, bd, ad, nd, cd, rfl, e0, e1, hrz, hbx⟩ := hcut
        have HZ1 := Lib.hid (zero_one hrz (by omega) (by omega) HZM.out 56)
        clear hrz
        go_wp2_with (go_at_call 24; (with_reducible first | refine (HZ1.out _ (Below.refl _ _)).mono ?_ | refine (HZ1.out _ (Below.refl _ _).drew).mono ?_); rintro e w9 ⟨rfl, hb9⟩; have HB9 := Lib.hid (HBJ.out.trans ((hbx.trans (hb9.mono hbx.size)).mono HBJ.out.size)))
        go_roundw
        case rel => exact ⟨j + 1, by omega, by go_num, HB9.out⟩
        case measure => simp [intOf]; omega
    · have ejC : C = j := by omega
      clear hj j1
      subst ejC
      obtain ⟨wo, hwo⟩ : ∃ wo : World, wo = wr := ⟨_, rfl⟩
      subst hwo
      have hry := RY_7.out.below HBJ.out
      have HRY := Lib.hid hry
      clear hry
      go_wp2_with fail
      go_loop [24] (fun iv => ∃ i : Nat, i ≤ Q ∧ iv = .int .i64 i) (fun iv => Q - (intOf iv).toNat)
      case atStart => exact ⟨0, by omega, rfl⟩
      case round =>
        obtain ⟨i, i1, rfl⟩ := hrel
        by_cases hi : i < Q
        · obtain ⟨pb, po, rfl, hpc⟩ := HPV.out i hi
          replace hpc := cell_stays HBJ.out hpc
          have hPR := HST2.out.lt i hi
          obtain ⟨yb, yo, ady, cdy, ey, t0, t1, t2⟩ := rdl_at0 HRY.out hPR
          injection ey with ey
          injection ey with e5 e6 _
          subst e5; subst e6
          rw [Nat.zero_add] at t1
          have hy0 : sol3 p R C xa xx (Pk i) = 0 := by rw [HPK.out]; exact HGB.out.2.2 i (by rw [← HQ.out]; exact hi)
          rw [hy0, w1_zero] at t1
          have HY0 := Lib.hid hy0
          have g5 : (0 : Int) ≤ (i : Int) := by omega
          have g6 : (i : Int) < (Q : Int) := by omega
          have g7 : (0 : Int) ≤ (Pk i : Int) := by omega
          have g8 : (Pk i : Int) < (R : Int) := by omega
          clear t0 t2 hy0
          generalize Pk i = pki at *
          go_wp2_with fail
          go_round
          case rel => exact ⟨i + 1, by omega, by go_num⟩
          case measure => simp [intOf]; omega
        · go_wp2_with fail
          go_ret
          exact ⟨rfl, G7.out.1.trans (HBJ.out.mono G7.out.2)⟩
end Go.Proofs.Ytdlpemmoobbgnaa

namespace Go.Proofs.Ytdlpemmoobbgnaa
open Go.RowKit

set_option maxHeartbeats 4000000 in
set_option maxRecDepth 100000 in
theorem Solves_law (ra ca : Int) (p : Int) (hp : 0 ≤ p) (sa sx : Value) (na nx : Nat) (xa xx : Nat → Raw) (w : World) (ha : RdL w sa na xa) (hx : RdL w sx nx xx) (hsa : ∀ i, i < na → (xa i).n ≤ 1048576) (hsx : ∀ i, i < nx → (xx i).n ≤ 1048576)
    (hna : ∀ c, sa = .slice none na c → c = 0) (hnx : ∀ c, sx = .slice none nx c → c = 0) :
    Calls Try.prog 6 #[.agg #[.int .i64 ra, .int .i64 ca, sa], sx, .int .u64 p] w fun e w' => e = .returned (.bool true) ∧ Below w.heap.size w w' := by
  by_cases hgood : soundB ra ca na = true ∧ primeB p = true
  · obtain ⟨g1, g3⟩ := hgood
    obtain ⟨R, C, hr, hc, hR, hC, hN, p0, p1, -, -⟩ := openE_ok (r := ra) (c := ca) (n := na) (p := p) (fit := true) (by unfold openE; rw [if_pos g1, if_pos rfl, if_pos g3])
    subst hr; subst hc; subst hN
    by_cases h1 : nx = R
    · subst h1
      exact Solves_a nx C p hR hC g3 sa sx xa xx w ha hx hsa hsx
    by_cases h2 : nx = C
    · subst h2
      cases hz : anyNZ (sol1 p R nx xa xx) nx
      · exact Solves_b R nx p hR hC g3 sa sx xa xx w ha hx hsa hsx h1 hz
      · exact Solves_no R nx p hR hC g3 sa sx xa xx w ha hx hsa hsx h1 hz hna hnx
    · exact Solves_fit R C p hR hC g3 sa sx xa xx nx w ha hx hsa hsx h1 h2
  · obtain ⟨a, cap, rfl, hn⟩ := ha.slice
    obtain ⟨b, cap', rfl, hn'⟩ := hx.slice
    have hsA := fun W => sound_any ra ca a na cap hn W
    have hpr := fun W => prime_any p hp W
    have hbx0 := box_mat w (.int .i64 ra) (.int .i64 ca) (.slice a na cap) 34
    have hH : Has (w.alloc (.cells #[.int .i64 ra, .int .i64 ca, .slice a na cap] 34)) [(_, _), (_, _), (_, _)] := ⟨hbx0.2.1, hbx0.2.2.1, hbx0.2.2.2, trivial⟩
    have H0 := Lib.hid hH
    have G0 := Lib.hid (And.intro hbx0.1 hbx0.1.size)
    clear ha hx hsa hsx hna hnx hH hbx0
    have hbad : soundB ra ca na = false ∨ (soundB ra ca na = true ∧ primeB p = false) := by
      cases h1 : soundB ra ca na
      · exact Or.inl rfl
      cases h3 : primeB p
      · exact Or.inr ⟨rfl, rfl⟩
      exact absurd ⟨h1, h3⟩ hgood
    clear hgood
    generalize soundB ra ca na = sdA at *
    generalize primeB p = pr at *
    have HSDA := Lib.hid hsA
    have HPR := Lib.hid hpr
    clear hsA hpr
    rcases hbad with rfl | ⟨rfl, rfl⟩
    all_goals
      go_enter Try.func6, Try.ntmps6
      go_wp2_with fail
      refine (wakes_any _).mono ?_
      rintro e w1 ⟨rfl, hb1⟩
      have HB1 := Lib.hid (stage G0.out.1 G0.out.2 hb1)
      have H1 := Lib.hid (H0.out.below hb1)
      clear hb1
      obtain ⟨x0, x1, x2, -⟩ := H1.out
      dsimp only at x0 x1 x2
      go_wp2_with fail
      refine (HSDA.out _).mono ?_
      rintro e w2 ⟨rfl, hb2⟩
      have HB2 := Lib.hid (stage HB1.out.1 HB1.out.2 hb2)
      replace x0 := cell_stays hb2 x0
      replace x1 := cell_stays hb2 x1
      replace x2 := cell_stays hb2 x2
      clear hb2
      go_wp2_with (go_at_call 14; refine (HPR.out _).mono ?_; rintro e w4 ⟨rfl, rfl⟩)
      go_ret
      exact ⟨rfl, HB2.out.1⟩
end Go.Proofs.Ytdlpemmoobbgnaa

namespace Go.Proofs.Ytdlpemmoobbgnaa.modpSolves
open Go.ChangeShapes Go.WideShapes Go.ChangeAt Go.RowKit

section
variable {H : Type} {enc : TypeId × Value → H} {w : World} {base : Nat} {spare : Nat → Bool} {held : Bool}
/-- a list with no memory has no room -/
theorem no_room {n : Nat} {v : Value} {y : DataW H × List MemPlace} (h : DataW.trod enc Try.prog w base spare held n 32 [v] = some y) {m c : Nat} (hv : v = .slice none m c) : c = 0 := by
  rcases Go.Deep.open_slice Try.underlying32 h with ⟨e, -⟩ | ⟨a, len, cap, m', n', D, Pl, e, -⟩
  · rw [hv] at e; simp at e; exact e.2
  · rw [hv] at e; simp at e
end
set_option maxRecDepth 100000 in
theorem mat_room {H : Type} {enc : TypeId × Value → H} {w : World} {base : Nat} {spare : Nat → Bool} {held : Bool} {r : Reach} {b0 : Nat} {R C : Int} {s : Value} {d : DataW H} {p : List MemPlace} (hv : Value.okWide Try.prog w r b0 34 (.agg #[.int .i64 R, .int .i64 C, s])) (h : DataW.Trod enc Try.prog w base spare held 34 (.agg #[.int .i64 R, .int .i64 C, s]) d p) {m c : Nat} (hs : s = .slice none m c) : c = 0 := by
  obtain ⟨v0, v1, v2, y0, y1, y2, n, e, -, -, -, -, g2⟩ := Go.Joins.open_agg3 Try.underlying34 (by kernel_rfl) (by kernel_rfl) hv h
  injection e with e
  injection e with e
  injection e with _ e
  injection e with _ e
  injection e with e _
  exact no_room g2 (e ▸ hs)

theorem own : ownKnob Try.prog.godebug = none := by kernel_rfl

set_option maxRecDepth 100000 in
theorem contract (H : Type) (enc : TypeId × Value → H) (W : World) (base : Nat) (args : Array Value) (ds gs : List (DataW H)) (before : List MemPlace)
    (hval : ∀ (j : Nat) t v, Try.f6.params[j]? = some t → args[j]? = some v → Value.okWide Try.prog W .any base t v)
    (hW : DataW.Whole enc Try.prog Try.f6.params.toList Rows.modpSolvesSpec.vars false W args.toList ds gs before) (hk : Rows.uptoSmall H (ds ++ gs) = true) :
    Calls Try.prog 6 args W fun e W' => ∃ v, e = .returned v ∧ Rows.modpSolvesSpec.post enc Try.prog Try.f6 false true false false W args v W' := by
  have hW' := hW
  have hlt : ∀ x ∈ before, x.block < W.heap.size := fun x hx => hW.lt x hx
  obtain ⟨p, q, hA0, hV, rfl, hfz, hnd⟩ := hW
  have hA : DataW.TrodAll enc Try.prog W 0 (fun _ => true) true Try.f6.params.toList args.toList ds p := hA0
  rw [Try.params6] at hA hval
  obtain ⟨v0, vs0, d0, ds0, p0, q0, hargs, rfl, rfl, h0, r0⟩ := trodAll_cons hA
  obtain ⟨v1, vs1, d1, ds1, p1, q1, rfl, rfl, rfl, h1, r1⟩ := trodAll_cons r0
  obtain ⟨v2, vs2, d2, ds2, p2, q2, rfl, rfl, rfl, h2, r2⟩ := trodAll_cons r1
  obtain ⟨rfl, rfl, rfl⟩ := trodAll_nil r2
  obtain rfl : args = #[v0, v1, v2] := by cases args; simp_all
  obtain ⟨rfl, rfl⟩ := trodVars_none hV
  have h0k := h0
  have h1k := h1
  obtain ⟨P, rfl, rfl, rfl, w2⟩ := open_int Try.underlying22 (hval 2 22 v2 rfl rfl) h2
  clear hA0
  simp only [List.append_nil] at hW' hk hlt
  have hbk : Rows.uptoBulkAll [d0, d1, DataW.lit (.int .u64 P)] ≤ 1048576 := of_decide_eq_true hk
  simp only [Rows.uptoBulkAll] at hbk
  obtain ⟨R, C, s, n, x, rfl, hr, hn, hx, -, -⟩ := open_mat (B := 1048576) (hval 0 34 v0 rfl rfl) h0 (by omega) (by omega)
  obtain ⟨a1, l1, c1, rfl⟩ := okWide_slice Try.underlying32 (hval 1 32 v1 rfl rfl)
  obtain ⟨fuel, h1⟩ := h1
  have h1 : DataW.trod enc Try.prog W 0 (fun _ => true) true fuel 32 [.slice a1 l1 c1] = some (d1, p1) := h1
  obtain ⟨n', x', hr', hn', hx'⟩ := open_list (B := 1048576) h1 (by dsimp only; omega) (by omega)
  refine (Solves_law R C P (bounds_u64 w2).1 s (.slice a1 l1 c1) n n' x x' W hr hr' hx hx' (fun c e => mat_room (hval 0 34 _ rfl rfl) h0 e) (fun c e => no_room h1 e)).mono fun e W' ⟨he, hg⟩ => ?_
  subst he
  refine ⟨_, rfl, post_of_below (pa := p0 ++ (p1 ++ ([] ++ []))) (pv := []) hW' (fun _ _ _ => (trodAll_cons_mk (shut_bool Try.underlying4 _) trodAll_mk0)) (fun sp hsp => (trodAll_cons_mk (WideElems.Trod_stays (P := Try.prog) (by kernel_rfl) (by kernel_rfl) (of_decide_eq_true (by kernel_rfl)) h0k (fun x hx => hg.same (hlt x (by simp [hx]))) (fun x hx => hsp x (by simp [hx]))) (trodAll_cons_mk (WideElems.Trod_stays (P := Try.prog) (by kernel_rfl) (by kernel_rfl) (of_decide_eq_true (by kernel_rfl)) h1k (fun x hx => hg.same (hlt x (by simp [hx]))) (fun x hx => hsp x (by simp [hx]))) (trodAll_cons_mk (shut_int Try.underlying22 w2) trodAll_mk0)))) (fun _ _ => rfl) (by simp)
    hg (ok_one (by kernel_rfl) rfl (okWide_bool_mk Try.underlying4 _))⟩

set_option maxRecDepth 100000 in
theorem lifted (os : Os) (started : os.Started) (H : Type) (enc : TypeId × Value → H) (F : Stop.Interp) :
    ReturnsInHanded {} Try.checked os 6 .any ((Rows.OpenSpec.upto Rows.modpSolvesSpec).pre6 enc Try.prog Try.f6 Rows.modpSolvesUptoRow.domain false) (((Rows.OpenSpec.upto Rows.modpSolvesSpec).at F).post enc Try.prog Try.f6 false true false false) := by
  refine returnsInHanded_of_cond (C := Try.checked) (s := Rows.OpenSpec.upto Rows.modpSolvesSpec) (k := Rows.uptoSmall) rfl own started (by kernel_rfl) Try.func6
    (OpenSpec.witness (enc := enc) (C := Try.checked) (s := Rows.OpenSpec.upto Rows.modpSolvesSpec) (k := Rows.uptoSmall) rfl false ⟨#[], #[.agg #[.int .i64 0, .int .i64 0, .slice none 0 0], .slice none 0 0, .int .u64 0], []⟩ 8 (by kernel_rfl) (by kernel_rfl) (by kernel_rfl)
      (x := ([.agg [.lit (.int .i64 0), .lit (.int .i64 0), .nil], .nil, .lit (.int .u64 0)], [], [])) (by kernel_rfl) rfl (by kernel_rfl)) ?_
  intro W base args ds gs before hval hW _ hk _
  exact contract H enc W base args ds gs before hval hW hk

/-- the statement -/
theorem proved : Rows.ModpSolvesUptoSaid :=
  OpenClaim.holds_of_cond 6 Try.f6 rfl rfl rfl rfl rfl rfl rfl ⟨rfl, rfl, rfl, rfl, rfl⟩ rfl rfl rfl rfl rfl (by kernel_rfl) Try.func6 (by kernel_rfl)
    (of_decide_eq_true (by kernel_rfl)) (by unfold Func.isWrapper; first | (rw [if_pos (by decide +kernel)]; kernel_rfl) | (rw [if_neg (by decide +kernel)]; exact ⟨rfl, rfl⟩))
    (fun os started H enc _ F => lifted os started H enc F)
#print axioms proved
end Go.Proofs.Ytdlpemmoobbgnaa.modpSolves
