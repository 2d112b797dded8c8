import Derived.Test.YtejliecmdkmgiaaGK
import Derived.Test.YtejliecmdkmgiaaGH
import Derived.Test.YtejliecmdkmgiaaGI
import Derived.Test.YtejliecmdkmgiaaGR
import Derived.Test.YtejliecmdkmgiaaGU
import Derived.Test.YtejliecmdkmgiaaGQ
import Derived.Test.YtejliecmdkmgiaaGJ
import Derived.Test.YtejliecmdkmgiaaGD
set_option linter.unusedVariables false
set_option linter.unusedSimpArgs false
set_option maxHeartbeats 8000000
set_option maxRecDepth 100000
namespace Go.Proofs.Ytejliecmdkmgiaa
open Go.RowKit
def RdL1 (w : World) (v : Value) (z : Int) : Prop := ∃ m n f, v = .agg #[.bool (decide (z < 0)), m] ∧ RdA .u64 w m n f ∧ Dig 18446744073709551616 n f (z.natAbs : Int)
theorem RdL1.below {w w' : World} {v : Value} {z : Int} (h : RdL1 w v z) (hb : Below w.heap.size w w') : RdL1 w' v z := by
  obtain ⟨m, n, f, e, h1, h2⟩ := h
  exact ⟨m, n, f, e, h1.below hb, h2⟩
theorem FrZ.least {w : World} {base : Nat} {v : Value} {z : Int} (h : FrZ w base v z) : RdL1 w v z := by
  obtain ⟨m, n, f, e, h1, h2⟩ := h
  exact ⟨m, n, f, e, h1.read, h2⟩
theorem Like_yes (x y : Value) (z : Int) (w : World) (hx : RdL1 w x z) (hy : RdL1 w y z) :
    Calls Try.prog 59 #[x, y] w fun e w' => e = .returned (.bool true) ∧ Below w.heap.size w w' := by
  obtain ⟨m, n, f, rfl, h1, h2⟩ := hx
  obtain ⟨m', n', f', rfl, h1', h2'⟩ := hy
  obtain ⟨e1, e2⟩ := h2.unique (by omega) h2'
  subst e1
  obtain ⟨am, cm, rfl, -⟩ := id h1
  obtain ⟨al, cl, rfl, -⟩ := id h1'
  generalize decide (z < 0) = sg at *
  obtain ⟨⟨x0, x1, y0, y1, -, -⟩, hb0, -⟩ := boxes2 w (.bool sg) (.slice am n cm) (.bool sg) (.slice al n cl) 49
  have hsm := Same_yes _ _ _ _ _ _ (h1.below hb0) (h1'.below hb0) e2
  have HSM := Lib.hid hsm
  have HB0 := Lib.hid hb0
  clear hb0 hsm e2 h1 h1' h2 h2'
  go_enter Try.func59, Try.ntmps59
  go_wp2_with fail
  refine HSM.out.mono ?_
  rintro e w4 ⟨rfl, hb4⟩
  have HB4 := Lib.hid (below_via HB0.out hb4)
  clear hb4 HSM HB0
  go_wp2_with fail
  go_ret
  exact ⟨rfl, HB4.out⟩
theorem places_yes (v : Value) (r n : Nat) (P : Nat → Nat) (w : World) (hr : r ≤ 64) (hn : n ≤ 64) (hv : RdI64 w v r P) (hl : ∀ i, i < r → P i < n) :
    Calls Try.prog 123 #[v, .int .i64 n] w fun e w' => e = .returned (.bool true) ∧ w = w' := by
  obtain ⟨a, cap, rfl, h1, h2, h3⟩ := wd_get hv
  have H3 := Lib.hid h3
  have HL := Lib.hid hl
  clear hv h3 hl
  go_enter Try.func123, Try.ntmps123
  go_wp2_with fail
  go_loopw [9] (fun iv wr => ∃ i : Nat, i ≤ r ∧ iv = .int .i64 i ∧ wr = w) (fun iv _ => r - (intOf iv).toNat)
  case atStart => exact ⟨0, Nat.zero_le _, rfl, rfl⟩
  case round =>
    obtain ⟨i, hi, rfl, rfl⟩ := hrel
    by_cases hc : i < r
    · obtain ⟨b, o, rfl, hd⟩ := H3.out i hc
      have hpn := HL.out i hc
      generalize P i = q at *
      go_wp2_with fail
      go_roundw
      case rel => exact ⟨i + 1, by omega, by go_num, by first | rfl | trivial⟩
      case measure => simp [intOf]; omega
    · obtain rfl : i = r := by omega
      go_wp2_with fail
      go_ret
      exact ⟨rfl, rfl⟩
theorem pick_zb {A : Nat → Int} {R C S r : Nat} {Q P : Nat → Nat} (hA : ∀ q, q < R * C → ZB S (A q)) (hQ : ∀ i, i < r → Q i < R) (hP : ∀ i, i < r → P i < C) : ∀ q, q < r * r → ZB S (A (Q (q / r) * C + P (q % r))) := fun q hq => by
  obtain ⟨h1, h2⟩ := idx_at hq
  exact hA _ (idx_lt (hQ _ h1) (hP _ h2) rfl).1
theorem Minor_good (R C r S : Nat) (sl rv cv : Value) (P Q : Nat → Nat) (A : Nat → Int) (w : World) (hR : R ≤ 64) (hC : C ≤ 64) (hr64 : r ≤ 64) (hS : S ≤ 268435456) (hQ : ∀ i, i < r → Q i < R) (hP : ∀ j, j < r → P j < C)
    (hA' : RdE w sl (R * C) A) (hA : ∀ q, q < R * C → ZB S (A q)) (hrv : RdI64 w rv r Q) (hcv : RdI64 w cv r P) :
    Calls Try.prog 58 #[.agg #[.int .i64 R, .int .i64 C, sl], rv, cv] w fun e w' => ∃ v, e = .returned (.tuple #[v, .int .i64 0]) ∧ FrZ w' w.heap.size v (laZ.dt r (fun i j => A (Q i * C + P j))) ∧ Below w.heap.size w w' := by
  have hK4 : R * C ≤ 4096 := Nat.mul_le_mul hR hC
  have hrr : r * r ≤ 1048576 := Nat.le_trans (Nat.mul_le_mul hr64 hr64) (by decide)
  obtain ⟨a, cap, rfl, hcap⟩ := hA'.slice
  obtain ⟨ra, rcap, rfl, -, -, -⟩ := wd_get hrv
  obtain ⟨ca, ccap, rfl, -, -, -⟩ := wd_get hcv
  obtain ⟨⟨c0, c1, c2⟩, ⟨z0, z1, z2, z3⟩, hB, hsz⟩ := boxesI w (.int .i64 R) (.int .i64 C) (.slice a (R * C) cap)
  have hck := fun (u : World) => Check_any R C a (R * C) cap (by omega) u
  rw [checkE_ok hR hC rfl] at hck
  have hpl := fun (u : World) (hu : Below w.heap.size w u) => places_yes _ r R Q u hr64 hR (hrv.below hu) hQ
  have hpl' := fun (u : World) (hu : Below w.heap.size w u) => places_yes _ r C P u hr64 hC (hcv.below hu) hP
  have hpk := fun (u : World) (hu : Below w.heap.size w u) => Pick_good R C r r _ _ _ P Q A u hR hC hr64 hr64 hQ hP (hA'.below hu) (hrv.below hu) (hcv.below hu)
  have hdt := fun (s : Value) (u : World) (h : RdE u s (r * r) (fun q => A (Q (q / r) * C + P (q % r)))) => by
    have h := Det_good r S s _ u hr64 hS h (pick_zb hA hQ hP)
    rw [show laZ.dt r (fun i j => A (Q ((i * r + j) / r) * C + P ((i * r + j) % r))) = laZ.dt r (fun i j => A (Q i * C + P j)) from laZ.dt_congr fun i j _ hj => by
      obtain ⟨h1, h2⟩ := idx_dm (i := i) hj
      rw [h1, h2]] at h
    exact h
  obtain ⟨D, hD⟩ : ∃ D, D = laZ.dt r (fun i j => A (Q i * C + P j)) := ⟨_, rfl⟩
  rw [← hD]
  simp only [← hD] at hdt
  generalize R * C = K at *
  have HCK := Lib.hid hck
  have HPL := Lib.hid hpl
  have HPL' := Lib.hid hpl'
  have HPK := Lib.hid hpk
  have HDT := Lib.hid hdt
  have HB := Lib.hid hB
  have HSZ := Lib.hid hsz
  clear hck hpl hpl' hpk hdt hB hsz hA' hA hrv hcv hQ hP hD
  go_enter Try.func58, Try.ntmps58
  go_upto_region 1 with fail
  generalize (w.alloc (.cells #[.int .i64 R, .int .i64 C, .slice a K cap] 24)).alloc (.cells #[.bool false, .slice none 0 0] 49) = W at *
  go_wp2_with fail
  (refine (HCK.out W).mono ?_)
  rintro e w1 ⟨rfl, hb1⟩
  have HS1 := Lib.hid (show w.heap.size + 2 ≤ w1.heap.size by have := HSZ.out; have := hb1.size; omega)
  replace z2 := froz_stays hb1 z0 z2
  replace z3 := froz_stays hb1 z1 z3
  replace z0 := cell_stays hb1 z0
  replace z1 := cell_stays hb1 z1
  replace c0 := cell_stays hb1 c0
  replace c1 := cell_stays hb1 c1
  replace c2 := cell_stays hb1 c2
  replace HB := Lib.hid (below_via HB.out hb1)
  clear hb1 HCK HSZ
  go_wp2_with (first
    | (go_at_call 123; (with_reducible refine (HPL.out w1 HB.out).mono ?_); rintro e w2 ⟨rfl, rfl⟩)
    | (go_at_call 123; (with_reducible refine (HPL'.out w1 HB.out).mono ?_); rintro e w2 ⟨rfl, rfl⟩))
  (refine (HPK.out w1 HB.out).mono ?_)
  rintro e w3 ⟨lb, rfl, hf3, hb3⟩
  have hba := bl_alloc w3 (.cells #[.int .i64 r, .int .i64 r, .slice (some ⟨lb, 0, none⟩) (r * r) (r * r)] 24)
  have hk3 := three_cells w3 (.int .i64 r) (.int .i64 r) (.slice (some ⟨lb, 0, none⟩) (r * r) (r * r)) 24
  have e0 := (hk3 0 _ rfl).1
  have e1 := (hk3 1 _ rfl).1
  have e2 := (hk3 2 _ rfl).1
  have hb3' := below_via hb3 hba
  have HDT' := Lib.hid (HDT.out _ _ ((hf3.rd (Nat.le_refl _) hrr).below hba))
  have HS3 := Lib.hid (Nat.le_trans HS1.out hb3'.size)
  replace z2 := froz_stays hb3' z0 z2
  replace z3 := froz_stays hb3' z1 z3
  replace z0 := cell_stays hb3' z0
  replace z1 := cell_stays hb3' z1
  replace HB := Lib.hid (below_via HB.out hb3')
  clear hb3 hb3' hba hk3 hf3 HPK HDT HPL HPL' c0 c1 c2
  go_wp2_with fail
  (refine HDT'.out.mono ?_)
  rintro e w5 ⟨v, rfl, hf5, hb5⟩
  replace z2 := froz_stays hb5 z0 z2
  replace z3 := froz_stays hb5 z1 z3
  replace z0 := cell_stays hb5 z0
  replace z1 := cell_stays hb5 z1
  obtain ⟨am, an, ac, rfl, f1, f2⟩ := det_fin (b := w.heap.size + 1) (w := w) (hf5.mono HS3.out) (by omega) (by omega) (below_via HB.out hb5)
  have F1 := Lib.hid f1
  have F2 := Lib.hid f2
  clear hf5 hb5 f1 f2 HDT' HB e0 e1 e2
  go_wp2_with fail
  refine bodyPost_ret (v := .tuple #[.agg #[.bool (decide (D < 0)), .slice am an ac], .int .i64 0]) ?_ rfl ⟨_, rfl, F1.out, F2.out⟩
  simp [results, Try.results58, go_sem, z0, z1]
theorem num_pos (n : Int) (h0 : 0 < n) (h1 : n ≤ 9) (w : World) :
    Calls Try.prog 112 #[.int .i64 n] w fun e w' => ∃ b, e = .returned (.agg #[.bool false, .slice (some ⟨b, 0, none⟩) 1 1]) ∧ w'.cell? ⟨b, 0, none⟩ = some (.int .u64 n) ∧ Below w.heap.size w w' := by
  have hw : IntKind.u64.wrap n = n := by rw [IntKind.wrap_u64]; exact Int.emod_eq_of_lt (by omega) (by omega)
  have hn0 : (n == 0) = false := by rw [beq_eq_false_iff_ne]; omega
  go_enter Try.func112, Try.ntmps112
  go_wp2_with fail
  refine bodyPost_ret (v := .agg #[.bool false, .slice (some ⟨w.heap.size + 1, 0, none⟩) 1 1]) (by simp [results, Try.results112, go_sem]) rfl ⟨w.heap.size + 1, rfl, ?_, ?_⟩
  · go_simp
  · exact ((Below.refl _ _).alloc (Nat.le_refl _) _).alloc (by simp) _
theorem num_neg6 (w : World) :
    Calls Try.prog 112 #[.int .i64 (-6)] w fun e w' => ∃ b, e = .returned (.agg #[.bool true, .slice (some ⟨b, 0, none⟩) 1 1]) ∧ w'.cell? ⟨b, 0, none⟩ = some (.int .u64 6) ∧ Below w.heap.size w w' := by
  go_enter Try.func112, Try.ntmps112
  go_wp2_with fail
  refine bodyPost_ret (v := .agg #[.bool true, .slice (some ⟨w.heap.size + 1, 0, none⟩) 1 1]) (by simp [results, Try.results112, go_sem]) rfl ⟨w.heap.size + 1, rfl, ?_, ?_⟩
  · go_simp
  · exact ((Below.refl _ _).alloc (Nat.le_refl _) _).alloc (by simp) _
end Go.Proofs.Ytejliecmdkmgiaa
namespace Go.Proofs.Ytejliecmdkmgiaa
open Go.RowKit
theorem rde_six (w : World) (b1 b2 b3 b4 b5 b6 : Nat) (n1 n2 n3 n4 n5 n6 : Int) (h1 : RdZ w (.agg #[.bool false, .slice (some ⟨b1, 0, none⟩) 1 1]) n1) (h2 : RdZ w (.agg #[.bool false, .slice (some ⟨b2, 0, none⟩) 1 1]) n2) (h3 : RdZ w (.agg #[.bool false, .slice (some ⟨b3, 0, none⟩) 1 1]) n3) (h4 : RdZ w (.agg #[.bool false, .slice (some ⟨b4, 0, none⟩) 1 1]) n4)
    (h5 : RdZ w (.agg #[.bool false, .slice (some ⟨b5, 0, none⟩) 1 1]) n5) (h6 : RdZ w (.agg #[.bool false, .slice (some ⟨b6, 0, none⟩) 1 1]) n6)
    (E : Nat → Int) (e : E 0 = n1 ∧ E 1 = n2 ∧ E 2 = n3 ∧ E 3 = n4 ∧ E 4 = n5 ∧ E 5 = n6) :
    RdE (w.alloc (.cells #[.bool false, .slice (some ⟨b1, 0, none⟩) 1 1, .bool false, .slice (some ⟨b2, 0, none⟩) 1 1, .bool false, .slice (some ⟨b3, 0, none⟩) 1 1, .bool false, .slice (some ⟨b4, 0, none⟩) 1 1, .bool false, .slice (some ⟨b5, 0, none⟩) 1 1, .bool false, .slice (some ⟨b6, 0, none⟩) 1 1] 49)) (.slice (some ⟨w.heap.size, 0, none⟩) 6 6) 6 E := by
  refine ⟨_, 6, rfl, Nat.le_refl _, by omega, fun _ => ⟨w.heap.size, 0, rfl, fun i hi => ?_⟩⟩
  have hn := heap_alloc_new w (.cells #[.bool false, .slice (some ⟨b1, 0, none⟩) 1 1, .bool false, .slice (some ⟨b2, 0, none⟩) 1 1, .bool false, .slice (some ⟨b3, 0, none⟩) 1 1, .bool false, .slice (some ⟨b4, 0, none⟩) 1 1, .bool false, .slice (some ⟨b5, 0, none⟩) 1 1, .bool false, .slice (some ⟨b6, 0, none⟩) 1 1] 49)
  have hb : Below w.heap.size w (w.alloc (.cells #[.bool false, .slice (some ⟨b1, 0, none⟩) 1 1, .bool false, .slice (some ⟨b2, 0, none⟩) 1 1, .bool false, .slice (some ⟨b3, 0, none⟩) 1 1, .bool false, .slice (some ⟨b4, 0, none⟩) 1 1, .bool false, .slice (some ⟨b5, 0, none⟩) 1 1, .bool false, .slice (some ⟨b6, 0, none⟩) 1 1] 49)) := (Below.refl _ _).alloc (Nat.le_refl _) _
  obtain ⟨e1, e2, e3, e4, e5, e6⟩ := e
  match i, hi with
  | 0, _ => exact ⟨false, .slice (some ⟨b1, 0, none⟩) 1 1, by rw [cell_of_row _ _ _ _ _ _ hn]; rfl, by rw [cell_of_row _ _ _ _ _ _ hn]; rfl, by rw [e1]; exact h1.below hb⟩
  | 1, _ => exact ⟨false, .slice (some ⟨b2, 0, none⟩) 1 1, by rw [cell_of_row _ _ _ _ _ _ hn]; rfl, by rw [cell_of_row _ _ _ _ _ _ hn]; rfl, by rw [e2]; exact h2.below hb⟩
  | 2, _ => exact ⟨false, .slice (some ⟨b3, 0, none⟩) 1 1, by rw [cell_of_row _ _ _ _ _ _ hn]; rfl, by rw [cell_of_row _ _ _ _ _ _ hn]; rfl, by rw [e3]; exact h3.below hb⟩
  | 3, _ => exact ⟨false, .slice (some ⟨b4, 0, none⟩) 1 1, by rw [cell_of_row _ _ _ _ _ _ hn]; rfl, by rw [cell_of_row _ _ _ _ _ _ hn]; rfl, by rw [e4]; exact h4.below hb⟩
  | 4, _ => exact ⟨false, .slice (some ⟨b5, 0, none⟩) 1 1, by rw [cell_of_row _ _ _ _ _ _ hn]; rfl, by rw [cell_of_row _ _ _ _ _ _ hn]; rfl, by rw [e5]; exact h5.below hb⟩
  | 5, _ => exact ⟨false, .slice (some ⟨b6, 0, none⟩) 1 1, by rw [cell_of_row _ _ _ _ _ _ hn]; rfl, by rw [cell_of_row _ _ _ _ _ _ hn]; rfl, by rw [e6]; exact h6.below hb⟩
theorem wake14_det : laZ.dt 2 (fun i j => ((i * 3 + 2 * j : Nat) : Int) + 1) = -6 := by decide
theorem wake14_zb (q : Nat) (hq : q < 6) : ZB 1 ((q : Int) + 1) := by
  unfold ZB
  rw [Int.pow_succ, Int.pow_zero]
  omega
theorem six_dig : Dig 18446744073709551616 1 (fun _ => 6) 6 := ⟨fun _ _ => by omega, fun _ => by decide, by decide⟩
theorem two_places (w : World) (x y : Int) (f : Nat → Nat) (h0 : (f 0 : Int) = x) (h1 : (f 1 : Int) = y) : RdI64 (w.alloc (.cells #[.int .i64 x, .int .i64 y] 3)) (.slice (some ⟨w.heap.size, 0, none⟩) 2 2) 2 f := by
  have hn := heap_alloc_new w (.cells #[.int .i64 x, .int .i64 y] 3)
  refine ⟨_, 2, rfl, Nat.le_refl _, by omega, fun _ => ⟨w.heap.size, 0, rfl, fun i hi => ?_⟩⟩
  match i, hi with
  | 0, _ => rw [cell_of_row _ _ _ _ _ _ hn]; simp [h0]
  | 1, _ => rw [cell_of_row _ _ _ _ _ _ hn]; simp [h1]
theorem neg6_least (w : World) (b : Nat) (hc : w.cell? ⟨b, 0, none⟩ = some (.int .u64 6)) : RdL1 w (.agg #[.bool true, .slice (some ⟨b, 0, none⟩) 1 1]) (-6) :=
  ⟨_, 1, fun _ => 6, rfl, ⟨_, 1, rfl, Nat.le_refl _, by omega, fun _ => ⟨b, 0, rfl, fun j hj => by
    obtain rfl : j = 0 := by omega
    exact hc⟩⟩, six_dig⟩
theorem awake14_any (w : World) : Calls Try.prog 46 #[] w fun e w' => e = .returned (.bool true) ∧ Below w.heap.size w w' := by
  go_enter Try.func46, Try.ntmps46
  go_upto_region 2 with (first
    | (go_at_call_of 112 (Value.int .i64 1); refine (num_pos 1 (by omega) (by omega) _).mono ?_; rintro e w1 ⟨b1, rfl, hc1, hb1⟩)
    | (go_at_call_of 112 (Value.int .i64 2); refine (num_pos 2 (by omega) (by omega) _).mono ?_; rintro e w2 ⟨b2, rfl, hc2, hb2⟩)
    | (go_at_call_of 112 (Value.int .i64 3); refine (num_pos 3 (by omega) (by omega) _).mono ?_; rintro e w3 ⟨b3, rfl, hc3, hb3⟩)
    | (go_at_call_of 112 (Value.int .i64 4); refine (num_pos 4 (by omega) (by omega) _).mono ?_; rintro e w4 ⟨b4, rfl, hc4, hb4⟩)
    | (go_at_call_of 112 (Value.int .i64 5); refine (num_pos 5 (by omega) (by omega) _).mono ?_; rintro e w5 ⟨b5, rfl, hc5, hb5⟩)
    | (go_at_call_of 112 (Value.int .i64 6); refine (num_pos 6 (by omega) (by omega) _).mono ?_; rintro e w6 ⟨b6, rfl, hc6, hb6⟩))
  have B45 := below_via hb5 hb6
  have B34 := below_via hb4 B45
  have B23 := below_via hb3 B34
  have B12 := below_via hb2 B23
  have r1 := (rdz_word w1 b1 1 (by omega) (by omega) hc1).below B12
  have r2 := (rdz_word w2 b2 2 (by omega) (by omega) hc2).below B23
  have r3 := (rdz_word w3 b3 3 (by omega) (by omega) hc3).below B34
  have r4 := (rdz_word w4 b4 4 (by omega) (by omega) hc4).below B45
  have r5 := (rdz_word w5 b5 5 (by omega) (by omega) hc5).below hb6
  have r6 := rdz_word w6 b6 6 (by omega) (by omega) hc6
  have hr := rde_six w6 b1 b2 b3 b4 b5 b6 1 2 3 4 5 6 r1 r2 r3 r4 r5 r6 (fun q => (q : Int) + 1) (by decide)
  have hba := below_via (below_via hb1 B12) (bl_alloc w6 (.cells #[.bool false, .slice (some ⟨b1, 0, none⟩) 1 1, .bool false, .slice (some ⟨b2, 0, none⟩) 1 1, .bool false, .slice (some ⟨b3, 0, none⟩) 1 1, .bool false, .slice (some ⟨b4, 0, none⟩) 1 1, .bool false, .slice (some ⟨b5, 0, none⟩) 1 1, .bool false, .slice (some ⟨b6, 0, none⟩) 1 1] 49))
  clear r1 r2 r3 r4 r5 r6 B45 B34 B23 B12 hc1 hc2 hc3 hc4 hc5 hc6 hb1 hb2 hb3 hb4 hb5 hb6
  have hk := three_cells (w6.alloc (.cells #[.bool false, .slice (some ⟨b1, 0, none⟩) 1 1, .bool false, .slice (some ⟨b2, 0, none⟩) 1 1, .bool false, .slice (some ⟨b3, 0, none⟩) 1 1, .bool false, .slice (some ⟨b4, 0, none⟩) 1 1, .bool false, .slice (some ⟨b5, 0, none⟩) 1 1, .bool false, .slice (some ⟨b6, 0, none⟩) 1 1] 49)) (.int .i64 2) (.int .i64 3) (.slice (some ⟨w6.heap.size, 0, none⟩) 6 6) 24
  rw [show (w6.alloc (.cells #[.bool false, .slice (some ⟨b1, 0, none⟩) 1 1, .bool false, .slice (some ⟨b2, 0, none⟩) 1 1, .bool false, .slice (some ⟨b3, 0, none⟩) 1 1, .bool false, .slice (some ⟨b4, 0, none⟩) 1 1, .bool false, .slice (some ⟨b5, 0, none⟩) 1 1, .bool false, .slice (some ⟨b6, 0, none⟩) 1 1] 49)).heap.size = w6.heap.size + 1 by simp] at hk
  have c0 := (hk 0 _ rfl).1
  have c1 := (hk 1 _ rfl).1
  have c2 := (hk 2 _ rfl).1
  have hbb := bl_alloc (w6.alloc (.cells #[.bool false, .slice (some ⟨b1, 0, none⟩) 1 1, .bool false, .slice (some ⟨b2, 0, none⟩) 1 1, .bool false, .slice (some ⟨b3, 0, none⟩) 1 1, .bool false, .slice (some ⟨b4, 0, none⟩) 1 1, .bool false, .slice (some ⟨b5, 0, none⟩) 1 1, .bool false, .slice (some ⟨b6, 0, none⟩) 1 1] 49)) (.cells #[.int .i64 2, .int .i64 3, .slice (some ⟨w6.heap.size, 0, none⟩) 6 6] 24)
  replace hr := hr.below hbb
  have HB := Lib.hid (below_via hba hbb)
  clear hk hbb hba
  generalize (w6.alloc (.cells #[.bool false, .slice (some ⟨b1, 0, none⟩) 1 1, .bool false, .slice (some ⟨b2, 0, none⟩) 1 1, .bool false, .slice (some ⟨b3, 0, none⟩) 1 1, .bool false, .slice (some ⟨b4, 0, none⟩) 1 1, .bool false, .slice (some ⟨b5, 0, none⟩) 1 1, .bool false, .slice (some ⟨b6, 0, none⟩) 1 1] 49)).alloc (.cells #[.int .i64 2, .int .i64 3, .slice (some ⟨w6.heap.size, 0, none⟩) 6 6] 24) = v at *
  generalize w6.heap.size + 1 = qm at *
  generalize w6.heap.size = qe at *
  have hl1 := bl_alloc v (.cells #[.int .i64 0, .int .i64 1] 3)
  have hl2 := bl_alloc (v.alloc (.cells #[.int .i64 0, .int .i64 1] 3)) (.cells #[.int .i64 0, .int .i64 2] 3)
  have hp1 := (two_places v 0 1 (fun i => i) rfl rfl).below hl2
  have hp2 := two_places (v.alloc (.cells #[.int .i64 0, .int .i64 1] 3)) 0 2 (fun j => 2 * j) rfl rfl
  rw [show (v.alloc (.cells #[.int .i64 0, .int .i64 1] 3)).heap.size = v.heap.size + 1 by simp] at hp2
  have hm := Minor_good 2 3 2 1 _ _ _ (fun j => 2 * j) (fun i => i) (fun q => (q : Int) + 1) _ (by omega) (by omega) (by omega) (by omega) (fun i hi => hi) (fun j hj => by show 2 * j < 3; omega) ((hr.below hl1).below hl2) wake14_zb hp1 hp2
  rw [show ((2 : Nat) : Int) = 2 from rfl, show ((3 : Nat) : Int) = 3 from rfl] at hm
  rw [wake14_det] at hm
  have HM := Lib.hid hm
  have HL := Lib.hid (below_via hl1 hl2)
  clear hm hl1 hl2 hp1 hp2 hr
  go_wp2_with fail
  (refine HM.out.mono ?_)
  rintro e w7 ⟨v7, rfl, hf7, hb7⟩
  obtain ⟨am, an, ac, rfl, -⟩ := hf7.agg
  rw [show decide ((-6 : Int) < 0) = true from rfl] at hf7 ⊢
  obtain ⟨x0, x1, -, -⟩ := two_cells w7 (.bool true) (.slice am an ac) 49
  have hba := bl_alloc w7 (.cells #[.bool true, .slice am an ac] 49)
  have RD := Lib.hid (hf7.least.below hba)
  replace HB := Lib.hid (below_via HB.out (below_via HL.out (below_via hb7 hba)))
  clear hf7 hb7 hba HM HL c0 c1 c2
  go_upto_region 3 with fail
  generalize hq : w7.heap.size = q7 at *
  generalize w7.alloc (.cells #[.bool true, .slice am an ac] 49) = v7 at *
  clear hq
  have T3 := Lib.hid (And.intro x0 x1)
  have U1 := Lib.hid (fun u (_ : Below v7.heap.size v7 u) => num_neg6 u)
  go_region_held3 (fun w' => w'.cell? ⟨q7, 0, none⟩ = some (.bool true) ∧ w'.cell? ⟨q7, 1, none⟩ = some (.slice am an ac))
    (first
      | exact T3.out
      | exact T_w8.out
      | exact T_w9.out
      | go_keep)
    (first
      | (go_at_call 112; (first | (with_reducible refine (U1.out _ (bl_refl _)).mono ?_) | (with_reducible refine (U1.out _ (bl_drew _)).mono ?_)); rintro e w8 ⟨b8, rfl, c8, bb_w8⟩
         have b_w8 : Below v7.heap.size v7 w8 := by first | (with_reducible exact below_via (bl_refl _) bb_w8) | (with_reducible exact below_via (bl_drew _) bb_w8)
         have T_w8 := Lib.hid (show w8.cell? ⟨q7, 0, none⟩ = some (.bool true) ∧ w8.cell? ⟨q7, 1, none⟩ = some (.slice am an ac) from ⟨cell_stays b_w8 (T3.out.1), cell_stays b_w8 (T3.out.2)⟩)
         have U2 := Lib.hid (fun u (hu : Below w8.heap.size w8 u) => Like_yes _ _ (-6) u (RD.out.below (below_via b_w8 hu)) ((neg6_least w8 b8 c8).below hu))
         clear bb_w8)
      | (go_at_call 59; (first | (with_reducible refine (U2.out _ (bl_refl _)).mono ?_)); rintro e w9 ⟨rfl, bb_w9⟩
         have b_w9 : Below w8.heap.size w8 w9 := by first | (with_reducible exact below_via (bl_refl _) bb_w9)
         have T_w9 := Lib.hid (show w9.cell? ⟨q7, 0, none⟩ = some (.bool true) ∧ w9.cell? ⟨q7, 1, none⟩ = some (.slice am an ac) from ⟨cell_stays b_w9 (T_w8.out.1), cell_stays b_w9 (T_w8.out.2)⟩)
         clear bb_w9))
  all_goals
    go_wp2_with fail
    go_ret
    exact ⟨rfl, below_via HB.out (below_via b_w8 b_w9)⟩
end Go.Proofs.Ytejliecmdkmgiaa
namespace Go.Proofs.Ytejliecmdkmgiaa
open Go.RowKit
end Go.Proofs.Ytejliecmdkmgiaa
namespace Go.Proofs.Ytejliecmdkmgiaa
open Go.RowKit
section
variable {w0 w1 u w' : World} {base q : Nat} {z : Int} {am : Option Addr} {an ac : Nat} {v0 v1 : Value} {t : TypeId}
end
end Go.Proofs.Ytejliecmdkmgiaa
namespace Go.Proofs.Ytejliecmdkmgiaa
open Go.RowKit Go.Shelf
end Go.Proofs.Ytejliecmdkmgiaa
namespace Go.Proofs.Ytejliecmdkmgiaa
open laZ
end Go.Proofs.Ytejliecmdkmgiaa
namespace Go.Proofs.Ytejliecmdkmgiaa
open laZ
end Go.Proofs.Ytejliecmdkmgiaa
namespace Go.Proofs.Ytejliecmdkmgiaa
open Go.RowKit Go.Shelf
end Go.Proofs.Ytejliecmdkmgiaa
