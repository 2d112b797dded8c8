/- The walks of minors.places, minors.Minor, trellisref11.Like where it answers yes, the law's num. The walk of layer 14's awake. minors.Adjugate where it refuses; the law MinorsExpand where Det refuses. Two lists without one place, built side by side by append. An integer that a call answered, laid into a new box whenever the box is made. What the law BareissExpands sums up; its walk where the matrix is refused. -/
import Derived.Test.YtncldpadakckjaaGK
import Derived.Test.YtncldpadakckjaaGH
import Derived.Test.YtncldpadakckjaaGI
import Derived.Test.YtncldpadakckjaaGF
set_option linter.unusedVariables false
set_option linter.unusedSimpArgs false
namespace Go.Proofs.Ytncldpadakckjaa
open Go.RowKit

/-- the value v reads as the integer z, in least form -/
def RdL1 (w : World) (v : Value) (z : Int) : Prop := ∃ m n f, v = .agg #[.bool (decide (z < 0)), m] ∧ RdA .u64 w m n f ∧ Dig 18446744073709551616 n f (z.natAbs : Int)
theorem RdL1.below {w w' : World} {v : Value} {z : Int} (h : RdL1 w v z) (hb : Below w.heap.size w w') : RdL1 w' v z := by
  obtain ⟨m, n, f, e, h1, h2⟩ := h
  exact ⟨m, n, f, e, h1.below hb, h2⟩
theorem FrZ.least {w : World} {base : Nat} {v : Value} {z : Int} (h : FrZ w base v z) : RdL1 w v z := by
  obtain ⟨m, n, f, e, h1, h2⟩ := h
  exact ⟨m, n, f, e, h1.read, h2⟩

set_option maxHeartbeats 1000000 in
set_option maxRecDepth 100000 in
theorem Like_yes (x y : Value) (z : Int) (w : World) (hx : RdL1 w x z) (hy : RdL1 w y z) :
    Calls Try.prog 51 #[x, y] w fun e w' => e = .returned (.bool true) ∧ Below w.heap.size w w' := by
  obtain ⟨m, n, f, rfl, h1, h2⟩ := hx
  obtain ⟨m', n', f', rfl, h1', h2'⟩ := hy
  obtain ⟨e1, e2⟩ := h2.unique (by omega) h2'
  subst e1
  obtain ⟨am, cm, rfl, -⟩ := id h1
  obtain ⟨al, cl, rfl, -⟩ := id h1'
  generalize decide (z < 0) = sg at *
  obtain ⟨⟨x0, x1, y0, y1, -, -⟩, hb0, -⟩ := boxes2 w (.bool sg) (.slice am n cm) (.bool sg) (.slice al n cl) 42
  have hsm := Same_yes _ _ _ _ _ _ (h1.below hb0) (h1'.below hb0) e2
  have HSM := Lib.hid hsm
  have HB0 := Lib.hid hb0
  clear hb0 hsm e2 h1 h1' h2 h2'
  go_enter Try.func51, Try.ntmps51
  go_wp2_with fail
  refine HSM.out.mono ?_
  rintro e w4 ⟨rfl, hb4⟩
  have HB4 := Lib.hid (below_via HB0.out hb4)
  clear hb4 HSM HB0
  go_wp2_with fail
  go_ret
  exact ⟨rfl, HB4.out⟩

set_option maxHeartbeats 1000000 in
set_option maxRecDepth 100000 in
theorem places_yes (v : Value) (r n : Nat) (P : Nat → Nat) (w : World) (hr : r ≤ 64) (hn : n ≤ 64) (hv : RdI64 w v r P) (hl : ∀ i, i < r → P i < n) :
    Calls Try.prog 83 #[v, .int .i64 n] w fun e w' => e = .returned (.bool true) ∧ w = w' := by
  obtain ⟨a, cap, rfl, h1, h2, h3⟩ := wd_get hv
  have H3 := Lib.hid h3
  have HL := Lib.hid hl
  clear hv h3 hl
  go_enter Try.func83, Try.ntmps83
  go_wp2_with fail
  go_loopw [9] (fun iv wr => ∃ i : Nat, i ≤ r ∧ iv = .int .i64 i ∧ wr = w) (fun iv _ => r - (intOf iv).toNat)
  case atStart => exact ⟨0, Nat.zero_le _, rfl, rfl⟩
  case round =>
    obtain ⟨i, hi, rfl, rfl⟩ := hrel
    by_cases hc : i < r
    · obtain ⟨b, o, rfl, hd⟩ := H3.out i hc
      have hpn := HL.out i hc
      generalize P i = q at *
      go_wp2_with fail
      go_roundw
      case rel => exact ⟨i + 1, by omega, by go_num, by first | rfl | trivial⟩
      case measure => simp [intOf]; omega
    · obtain rfl : i = r := by omega
      go_wp2_with fail
      go_ret
      exact ⟨rfl, rfl⟩

theorem pick_zb {A : Nat → Int} {R C S r : Nat} {Q P : Nat → Nat} (hA : ∀ q, q < R * C → ZB S (A q)) (hQ : ∀ i, i < r → Q i < R) (hP : ∀ i, i < r → P i < C) : ∀ q, q < r * r → ZB S (A (Q (q / r) * C + P (q % r))) := fun q hq => by
  obtain ⟨h1, h2⟩ := idx_at hq
  exact hA _ (idx_lt (hQ _ h1) (hP _ h2) rfl).1

set_option maxHeartbeats 4000000 in
set_option maxRecDepth 100000 in
theorem Minor_good (R C r S : Nat) (sl rv cv : Value) (P Q : Nat → Nat) (A : Nat → Int) (w : World) (hR : R ≤ 64) (hC : C ≤ 64) (hr64 : r ≤ 64) (hS : S ≤ 268435456) (hQ : ∀ i, i < r → Q i < R) (hP : ∀ j, j < r → P j < C)
    (hA' : RdE w sl (R * C) A) (hA : ∀ q, q < R * C → ZB S (A q)) (hrv : RdI64 w rv r Q) (hcv : RdI64 w cv r P) :
    Calls Try.prog 50 #[.agg #[.int .i64 R, .int .i64 C, sl], rv, cv] w fun e w' => ∃ v, e = .returned (.tuple #[v, .int .i64 0]) ∧ FrZ w' w.heap.size v (laZ.dt r (fun i j => A (Q i * C + P j))) ∧ Below w.heap.size w w' := by
  have hK4 : R * C ≤ 4096 := Nat.mul_le_mul hR hC
  have hrr : r * r ≤ 1048576 := Nat.le_trans (Nat.mul_le_mul hr64 hr64) (by decide)
  obtain ⟨a, cap, rfl, hcap⟩ := hA'.slice
  obtain ⟨ra, rcap, rfl, -, -, -⟩ := wd_get hrv
  obtain ⟨ca, ccap, rfl, -, -, -⟩ := wd_get hcv
  obtain ⟨⟨c0, c1, c2⟩, ⟨z0, z1, z2, z3⟩, hB, hsz⟩ := boxesI w (.int .i64 R) (.int .i64 C) (.slice a (R * C) cap)
  have hck := fun (u : World) => Check_any R C a (R * C) cap (by omega) u
  rw [checkE_ok hR hC rfl] at hck
  have hpl := fun (u : World) (hu : Below w.heap.size w u) => places_yes _ r R Q u hr64 hR (hrv.below hu) hQ
  have hpl' := fun (u : World) (hu : Below w.heap.size w u) => places_yes _ r C P u hr64 hC (hcv.below hu) hP
  have hpk := fun (u : World) (hu : Below w.heap.size w u) => Pick_good R C r r _ _ _ P Q A u hR hC hr64 hr64 hQ hP (hA'.below hu) (hrv.below hu) (hcv.below hu)
  have hdt := fun (s : Value) (u : World) (h : RdE u s (r * r) (fun q => A (Q (q / r) * C + P (q % r)))) => by
    have h := Det_good r S s _ u hr64 hS h (pick_zb hA hQ hP)
    rw [show laZ.dt r (fun i j => A (Q ((i * r + j) / r) * C + P ((i * r + j) % r))) = laZ.dt r (fun i j => A (Q i * C + P j)) from laZ.dt_congr fun i j _ hj => by
      obtain ⟨h1, h2⟩ := idx_dm (i := i) hj
      rw [h1, h2]] at h
    exact h
  obtain ⟨D, hD⟩ : ∃ D, D = laZ.dt r (fun i j => A (Q i * C + P j)) := ⟨_, rfl⟩
  rw [← hD]
  simp only [← hD] at hdt
  generalize R * C = K at *
  have HCK := Lib.hid hck
  have HPL := Lib.hid hpl
  have HPL' := Lib.hid hpl'
  have HPK := Lib.hid hpk
  have HDT := Lib.hid hdt
  have HB := Lib.hid hB
  have HSZ := Lib.hid hsz
  clear hck hpl hpl' hpk hdt hB hsz hA' hA hrv hcv hQ hP hD
  go_enter Try.func50, Try.ntmps50
  go_upto_region 1 with fail
  generalize (w.alloc (.cells #[.int .i64 R, .int .i64 C, .slice a K cap] 24)).alloc (.cells #[.bool false, .slice none 0 0] 42) = W at *
  go_wp2_with fail
  (refine (HCK.out W).mono ?_)
  rintro e w1 ⟨rfl, hb1⟩
  have HS1 := Lib.hid (show w.heap.size + 2 ≤ w1.heap.size by have := HSZ.out; have := hb1.size; omega)
  replace z2 := froz_stays hb1 z0 z2
  replace z3 := froz_stays hb1 z1 z3
  replace z0 := cell_stays hb1 z0
  replace z1 := cell_stays hb1 z1
  replace c0 := cell_stays hb1 c0
  replace c1 := cell_stays hb1 c1
  replace c2 := cell_stays hb1 c2
  replace HB := Lib.hid (below_via HB.out hb1)
  clear hb1 HCK HSZ
  go_wp2_with (first
    | (go_at_call 83; (with_reducible refine (HPL.out w1 HB.out).mono ?_); rintro e w2 ⟨rfl, rfl⟩)
    | (go_at_call 83; (with_reducible refine (HPL'.out w1 HB.out).mono ?_); rintro e w2 ⟨rfl, rfl⟩))
  (refine (HPK.out w1 HB.out).mono ?_)
  rintro e w3 ⟨lb, rfl, hf3, hb3⟩
  have hba := bl_alloc w3 (.cells #[.int .i64 r, .int .i64 r, .slice (some ⟨lb, 0, none⟩) (r * r) (r * r)] 24)
  have hk3 := three_cells w3 (.int .i64 r) (.int .i64 r) (.slice (some ⟨lb, 0, none⟩) (r * r) (r * r)) 24
  have e0 := (hk3 0 _ rfl).1
  have e1 := (hk3 1 _ rfl).1
  have e2 := (hk3 2 _ rfl).1
  have hb3' := below_via hb3 hba
  have HDT' := Lib.hid (HDT.out _ _ ((hf3.rd (Nat.le_refl _) hrr).below hba))
  have HS3 := Lib.hid (Nat.le_trans HS1.out hb3'.size)
  replace z2 := froz_stays hb3' z0 z2
  replace z3 := froz_stays hb3' z1 z3
  replace z0 := cell_stays hb3' z0
  replace z1 := cell_stays hb3' z1
  replace HB := Lib.hid (below_via HB.out hb3')
  clear hb3 hb3' hba hk3 hf3 HPK HDT HPL HPL' c0 c1 c2
  go_wp2_with fail
  (refine HDT'.out.mono ?_)
  rintro e w5 ⟨v, rfl, hf5, hb5⟩
  replace z2 := froz_stays hb5 z0 z2
  replace z3 := froz_stays hb5 z1 z3
  replace z0 := cell_stays hb5 z0
  replace z1 := cell_stays hb5 z1
  obtain ⟨am, an, ac, rfl, f1, f2⟩ := det_fin (b := w.heap.size + 1) (w := w) (hf5.mono HS3.out) (by omega) (by omega) (below_via HB.out hb5)
  have F1 := Lib.hid f1
  have F2 := Lib.hid f2
  clear hf5 hb5 f1 f2 HDT' HB e0 e1 e2
  go_wp2_with fail
  refine bodyPost_ret (v := .tuple #[.agg #[.bool (decide (D < 0)), .slice am an ac], .int .i64 0]) ?_ rfl ⟨_, rfl, F1.out, F2.out⟩
  simp [results, Try.results50, go_sem, z0, z1]

set_option maxHeartbeats 1000000 in
theorem num_pos (n : Int) (h0 : 0 < n) (h1 : n ≤ 9) (w : World) :
    Calls Try.prog 70 #[.int .i64 n] w fun e w' => ∃ b, e = .returned (.agg #[.bool false, .slice (some ⟨b, 0, none⟩) 1 1]) ∧ w'.cell? ⟨b, 0, none⟩ = some (.int .u64 n) ∧ Below w.heap.size w w' := by
  have hw : IntKind.u64.wrap n = n := by rw [IntKind.wrap_u64]; exact Int.emod_eq_of_lt (by omega) (by omega)
  have hn0 : (n == 0) = false := by rw [beq_eq_false_iff_ne]; omega
  go_enter Try.func70, Try.ntmps70
  go_wp2_with fail
  refine bodyPost_ret (v := .agg #[.bool false, .slice (some ⟨w.heap.size + 1, 0, none⟩) 1 1]) (by simp [results, Try.results70, go_sem]) rfl ⟨w.heap.size + 1, rfl, ?_, ?_⟩
  · go_simp
  · exact ((Below.refl _ _).alloc (Nat.le_refl _) _).alloc (by simp) _
set_option maxHeartbeats 1000000 in
theorem num_neg6 (w : World) :
    Calls Try.prog 70 #[.int .i64 (-6)] w fun e w' => ∃ b, e = .returned (.agg #[.bool true, .slice (some ⟨b, 0, none⟩) 1 1]) ∧ w'.cell? ⟨b, 0, none⟩ = some (.int .u64 6) ∧ Below w.heap.size w w' := by
  go_enter Try.func70, Try.ntmps70
  go_wp2_with fail
  refine bodyPost_ret (v := .agg #[.bool true, .slice (some ⟨w.heap.size + 1, 0, none⟩) 1 1]) (by simp [results, Try.results70, go_sem]) rfl ⟨w.heap.size + 1, rfl, ?_, ?_⟩
  · go_simp
  · exact ((Below.refl _ _).alloc (Nat.le_refl _) _).alloc (by simp) _
end Go.Proofs.Ytncldpadakckjaa

namespace Go.Proofs.Ytncldpadakckjaa
open Go.RowKit

/-- six integers laid into a new list -/
theorem rde_six (w : World) (b1 b2 b3 b4 b5 b6 : Nat) (n1 n2 n3 n4 n5 n6 : Int) (h1 : RdZ w (.agg #[.bool false, .slice (some ⟨b1, 0, none⟩) 1 1]) n1) (h2 : RdZ w (.agg #[.bool false, .slice (some ⟨b2, 0, none⟩) 1 1]) n2) (h3 : RdZ w (.agg #[.bool false, .slice (some ⟨b3, 0, none⟩) 1 1]) n3) (h4 : RdZ w (.agg #[.bool false, .slice (some ⟨b4, 0, none⟩) 1 1]) n4)
    (h5 : RdZ w (.agg #[.bool false, .slice (some ⟨b5, 0, none⟩) 1 1]) n5) (h6 : RdZ w (.agg #[.bool false, .slice (some ⟨b6, 0, none⟩) 1 1]) n6)
    (E : Nat → Int) (e : E 0 = n1 ∧ E 1 = n2 ∧ E 2 = n3 ∧ E 3 = n4 ∧ E 4 = n5 ∧ E 5 = n6) :
    RdE (w.alloc (.cells #[.bool false, .slice (some ⟨b1, 0, none⟩) 1 1, .bool false, .slice (some ⟨b2, 0, none⟩) 1 1, .bool false, .slice (some ⟨b3, 0, none⟩) 1 1, .bool false, .slice (some ⟨b4, 0, none⟩) 1 1, .bool false, .slice (some ⟨b5, 0, none⟩) 1 1, .bool false, .slice (some ⟨b6, 0, none⟩) 1 1] 42)) (.slice (some ⟨w.heap.size, 0, none⟩) 6 6) 6 E := by
  refine ⟨_, 6, rfl, Nat.le_refl _, by omega, fun _ => ⟨w.heap.size, 0, rfl, fun i hi => ?_⟩⟩
  have hn := heap_alloc_new w (.cells #[.bool false, .slice (some ⟨b1, 0, none⟩) 1 1, .bool false, .slice (some ⟨b2, 0, none⟩) 1 1, .bool false, .slice (some ⟨b3, 0, none⟩) 1 1, .bool false, .slice (some ⟨b4, 0, none⟩) 1 1, .bool false, .slice (some ⟨b5, 0, none⟩) 1 1, .bool false, .slice (some ⟨b6, 0, none⟩) 1 1] 42)
  have hb : Below w.heap.size w (w.alloc (.cells #[.bool false, .slice (some ⟨b1, 0, none⟩) 1 1, .bool false, .slice (some ⟨b2, 0, none⟩) 1 1, .bool false, .slice (some ⟨b3, 0, none⟩) 1 1, .bool false, .slice (some ⟨b4, 0, none⟩) 1 1, .bool false, .slice (some ⟨b5, 0, none⟩) 1 1, .bool false, .slice (some ⟨b6, 0, none⟩) 1 1] 42)) := (Below.refl _ _).alloc (Nat.le_refl _) _
  obtain ⟨e1, e2, e3, e4, e5, e6⟩ := e
  match i, hi with
  | 0, _ => exact ⟨false, .slice (some ⟨b1, 0, none⟩) 1 1, by rw [cell_of_row _ _ _ _ _ _ hn]; rfl, by rw [cell_of_row _ _ _ _ _ _ hn]; rfl, by rw [e1]; exact h1.below hb⟩
  | 1, _ => exact ⟨false, .slice (some ⟨b2, 0, none⟩) 1 1, by rw [cell_of_row _ _ _ _ _ _ hn]; rfl, by rw [cell_of_row _ _ _ _ _ _ hn]; rfl, by rw [e2]; exact h2.below hb⟩
  | 2, _ => exact ⟨false, .slice (some ⟨b3, 0, none⟩) 1 1, by rw [cell_of_row _ _ _ _ _ _ hn]; rfl, by rw [cell_of_row _ _ _ _ _ _ hn]; rfl, by rw [e3]; exact h3.below hb⟩
  | 3, _ => exact ⟨false, .slice (some ⟨b4, 0, none⟩) 1 1, by rw [cell_of_row _ _ _ _ _ _ hn]; rfl, by rw [cell_of_row _ _ _ _ _ _ hn]; rfl, by rw [e4]; exact h4.below hb⟩
  | 4, _ => exact ⟨false, .slice (some ⟨b5, 0, none⟩) 1 1, by rw [cell_of_row _ _ _ _ _ _ hn]; rfl, by rw [cell_of_row _ _ _ _ _ _ hn]; rfl, by rw [e5]; exact h5.below hb⟩
  | 5, _ => exact ⟨false, .slice (some ⟨b6, 0, none⟩) 1 1, by rw [cell_of_row _ _ _ _ _ _ hn]; rfl, by rw [cell_of_row _ _ _ _ _ _ hn]; rfl, by rw [e6]; exact h6.below hb⟩

theorem wake14_det : laZ.dt 2 (fun i j => ((i * 3 + 2 * j : Nat) : Int) + 1) = -6 := by decide
theorem wake14_zb (q : Nat) (hq : q < 6) : ZB 1 ((q : Int) + 1) := by
  unfold ZB
  rw [Int.pow_succ, Int.pow_zero]
  omega
theorem six_dig : Dig 18446744073709551616 1 (fun _ => 6) 6 := ⟨fun _ _ => by omega, fun _ => by decide, by decide⟩
/-- two places laid into a new list -/
theorem two_places (w : World) (x y : Int) (f : Nat → Nat) (h0 : (f 0 : Int) = x) (h1 : (f 1 : Int) = y) : RdI64 (w.alloc (.cells #[.int .i64 x, .int .i64 y] 3)) (.slice (some ⟨w.heap.size, 0, none⟩) 2 2) 2 f := by
  have hn := heap_alloc_new w (.cells #[.int .i64 x, .int .i64 y] 3)
  refine ⟨_, 2, rfl, Nat.le_refl _, by omega, fun _ => ⟨w.heap.size, 0, rfl, fun i hi => ?_⟩⟩
  match i, hi with
  | 0, _ => rw [cell_of_row _ _ _ _ _ _ hn]; simp [h0]
  | 1, _ => rw [cell_of_row _ _ _ _ _ _ hn]; simp [h1]
/-- the law's -6 -/
theorem neg6_least (w : World) (b : Nat) (hc : w.cell? ⟨b, 0, none⟩ = some (.int .u64 6)) : RdL1 w (.agg #[.bool true, .slice (some ⟨b, 0, none⟩) 1 1]) (-6) :=
  ⟨_, 1, fun _ => 6, rfl, ⟨_, 1, rfl, Nat.le_refl _, by omega, fun _ => ⟨b, 0, rfl, fun j hj => by
    obtain rfl : j = 0 := by omega
    exact hc⟩⟩, six_dig⟩

set_option maxHeartbeats 400000 in
set_option maxRecDepth 100000 in
theorem awake14_any (w : World) : Calls Try.prog 27 #[] w fun e w' => e = .returned (.bool true) ∧ Below w.heap.size w w' := by
  go_enter Try.func27, Try.ntmps27
  go_upto_region 2 with (first
    | (go_at_call_of 70 (Value.int .i64 1); refine (num_pos 1 (by omega) (by omega) _).mono ?_; rintro e w1 ⟨b1, rfl, hc1, hb1⟩)
    | (go_at_call_of 70 (Value.int .i64 2); refine (num_pos 2 (by omega) (by omega) _).mono ?_; rintro e w2 ⟨b2, rfl, hc2, hb2⟩)
    | (go_at_call_of 70 (Value.int .i64 3); refine (num_pos 3 (by omega) (by omega) _).mono ?_; rintro e w3 ⟨b3, rfl, hc3, hb3⟩)
    | (go_at_call_of 70 (Value.int .i64 4); refine (num_pos 4 (by omega) (by omega) _).mono ?_; rintro e w4 ⟨b4, rfl, hc4, hb4⟩)
    | (go_at_call_of 70 (Value.int .i64 5); refine (num_pos 5 (by omega) (by omega) _).mono ?_; rintro e w5 ⟨b5, rfl, hc5, hb5⟩)
    | (go_at_call_of 70 (Value.int .i64 6); refine (num_pos 6 (by omega) (by omega) _).mono ?_; rintro e w6 ⟨b6, rfl, hc6, hb6⟩))
  have B45 := below_via hb5 hb6
  have B34 := below_via hb4 B45
  have B23 := below_via hb3 B34
  have B12 := below_via hb2 B23
  have r1 := (rdz_word w1 b1 1 (by omega) (by omega) hc1).below B12
  have r2 := (rdz_word w2 b2 2 (by omega) (by omega) hc2).below B23
  have r3 := (rdz_word w3 b3 3 (by omega) (by omega) hc3).below B34
  have r4 := (rdz_word w4 b4 4 (by omega) (by omega) hc4).below B45
  have r5 := (rdz_word w5 b5 5 (by omega) (by omega) hc5).below hb6
  have r6 := rdz_word w6 b6 6 (by omega) (by omega) hc6
  have hr := rde_six w6 b1 b2 b3 b4 b5 b6 1 2 3 4 5 6 r1 r2 r3 r4 r5 r6 (fun q => (q : Int) + 1) (by decide)
  have hba := below_via (below_via hb1 B12) (bl_alloc w6 (.cells #[.bool false, .slice (some ⟨b1, 0, none⟩) 1 1, .bool false, .slice (some ⟨b2, 0, none⟩) 1 1, .bool false, .slice (some ⟨b3, 0, none⟩) 1 1, .bool false, .slice (some ⟨b4, 0, none⟩) 1 1, .bool false, .slice (some ⟨b5, 0, none⟩) 1 1, .bool false, .slice (some ⟨b6, 0, none⟩) 1 1] 42))
  clear r1 r2 r3 r4 r5 r6 B45 B34 B23 B12 hc1 hc2 hc3 hc4 hc5 hc6 hb1 hb2 hb3 hb4 hb5 hb6
  have hk := three_cells (w6.alloc (.cells #[.bool false, .slice (some ⟨b1, 0, none⟩) 1 1, .bool false, .slice (some ⟨b2, 0, none⟩) 1 1, .bool false, .slice (some ⟨b3, 0, none⟩) 1 1, .bool false, .slice (some ⟨b4, 0, none⟩) 1 1, .bool false, .slice (some ⟨b5, 0, none⟩) 1 1, .bool false, .slice (some ⟨b6, 0, none⟩) 1 1] 42)) (.int .i64 2) (.int .i64 3) (.slice (some ⟨w6.heap.size, 0, none⟩) 6 6) 24
  rw [show (w6.alloc (.cells #[.bool false, .slice (some ⟨b1, 0, none⟩) 1 1, .bool false, .slice (some ⟨b2, 0, none⟩) 1 1, .bool false, .slice (some ⟨b3, 0, none⟩) 1 1, .bool false, .slice (some ⟨b4, 0, none⟩) 1 1, .bool false, .slice (some ⟨b5, 0, none⟩) 1 1, .bool false, .slice (some ⟨b6, 0, none⟩) 1 1] 42)).heap.size = w6.heap.size + 1 by simp] at hk
  have c0 := (hk 0 _ rfl).1
  have c1 := (hk 1 _ rfl).1
  have c2 := (hk 2 _ rfl).1
  have hbb := bl_alloc (w6.alloc (.cells #[.bool false, .slice (some ⟨b1, 0, none⟩) 1 1, .bool false, .slice (some ⟨b2, 0, none⟩) 1 1, .bool false, .slice (some ⟨b3, 0, none⟩) 1 1, .bool false, .slice (some ⟨b4, 0, none⟩) 1 1, .bool false, .slice (some ⟨b5, 0, none⟩) 1 1, .bool false, .slice (some ⟨b6, 0, none⟩) 1 1] 42)) (.cells #[.int .i64 2, .int .i64 3, .slice (some ⟨w6.heap.size, 0, none⟩) 6 6] 24)
  replace hr := hr.below hbb
  have HB := Lib.hid (below_via hba hbb)
  clear hk hbb hba
  generalize (w6.alloc (.cells #[.bool false, .slice (some ⟨b1, 0, none⟩) 1 1, .bool false, .slice (some ⟨b2, 0, none⟩) 1 1, .bool false, .slice (some ⟨b3, 0, none⟩) 1 1, .bool false, .slice (some ⟨b4, 0, none⟩) 1 1, .bool false, .slice (some ⟨b5, 0, none⟩) 1 1, .bool false, .slice (some ⟨b6, 0, none⟩) 1 1] 42)).alloc (.cells #[.int .i64 2, .int .i64 3, .slice (some ⟨w6.heap.size, 0, none⟩) 6 6] 24) = v at *
  generalize w6.heap.size + 1 = qm at *
  generalize w6.heap.size = qe at *
  have hl1 := bl_alloc v (.cells #[.int .i64 0, .int .i64 1] 3)
  have hl2 := bl_alloc (v.alloc (.cells #[.int .i64 0, .int .i64 1] 3)) (.cells #[.int .i64 0, .int .i64 2] 3)
  have hp1 := (two_places v 0 1 (fun i => i) rfl rfl).below hl2
  have hp2 := two_places (v.alloc (.cells #[.int .i64 0, .int .i64 1] 3)) 0 2 (fun j => 2 * j) rfl rfl
  rw [show (v.alloc (.cells #[.int .i64 0, .int .i64 1] 3)).heap.size = v.heap.size + 1 by simp] at hp2
  have hm := Minor_good 2 3 2 1 _ _ _ (fun j => 2 * j) (fun i => i) (fun q => (q : Int) + 1) _ (by omega) (by omega) (by omega) (by omega) (fun i hi => hi) (fun j hj => by show 2 * j < 3; omega) ((hr.below hl1).below hl2) wake14_zb hp1 hp2
  rw [show ((2 : Nat) : Int) = 2 from rfl, show ((3 : Nat) : Int) = 3 from rfl] at hm
  rw [wake14_det] at hm
  have HM := Lib.hid hm
  have HL := Lib.hid (below_via hl1 hl2)
  clear hm hl1 hl2 hp1 hp2 hr
  go_wp2_with fail
  (refine HM.out.mono ?_)
  rintro e w7 ⟨v7, rfl, hf7, hb7⟩
  obtain ⟨am, an, ac, rfl, -⟩ := hf7.agg
  rw [show decide ((-6 : Int) < 0) = true from rfl] at hf7 ⊢
  obtain ⟨x0, x1, -, -⟩ := two_cells w7 (.bool true) (.slice am an ac) 42
  have hba := bl_alloc w7 (.cells #[.bool true, .slice am an ac] 42)
  have RD := Lib.hid (hf7.least.below hba)
  replace HB := Lib.hid (below_via HB.out (below_via HL.out (below_via hb7 hba)))
  clear hf7 hb7 hba HM HL c0 c1 c2
  go_upto_region 3 with fail
  generalize hq : w7.heap.size = q7 at *
  generalize w7.alloc (.cells #[.bool true, .slice am an ac] 42) = v7 at *
  clear hq
  have T3 := Lib.hid (And.intro x0 x1)
  have U1 := Lib.hid (fun u (_ : Below v7.heap.size v7 u) => num_neg6 u)
  go_region_held3 (fun w' => w'.cell? ⟨q7, 0, none⟩ = some (.bool true) ∧ w'.cell? ⟨q7, 1, none⟩ = some (.slice am an ac))
    (first
      | exact T3.out
      | exact T_w8.out
      | exact T_w9.out
      | go_keep)
    (first
      | (go_at_call 70; (first | (with_reducible refine (U1.out _ (bl_refl _)).mono ?_) | (with_reducible refine (U1.out _ (bl_drew _)).mono ?_)); rintro e w8 ⟨b8, rfl, c8, bb_w8⟩
         have b_w8 : Below v7.heap.size v7 w8 := by first | (with_reducible exact below_via (bl_refl _) bb_w8) | (with_reducible exact below_via (bl_drew _) bb_w8)
         have T_w8 := Lib.hid (show w8.cell? ⟨q7, 0, none⟩ = some (.bool true) ∧ w8.cell? ⟨q7, 1, none⟩ = some (.slice am an ac) from ⟨cell_stays b_w8 (T3.out.1), cell_stays b_w8 (T3.out.2)⟩)
         have U2 := Lib.hid (fun u (hu : Below w8.heap.size w8 u) => Like_yes _ _ (-6) u (RD.out.below (below_via b_w8 hu)) ((neg6_least w8 b8 c8).below hu))
         clear bb_w8)
      | (go_at_call 51; (first | (with_reducible refine (U2.out _ (bl_refl _)).mono ?_)); rintro e w9 ⟨rfl, bb_w9⟩
         have b_w9 : Below w8.heap.size w8 w9 := by first | (with_reducible exact below_via (bl_refl _) bb_w9)
         have T_w9 := Lib.hid (show w9.cell? ⟨q7, 0, none⟩ = some (.bool true) ∧ w9.cell? ⟨q7, 1, none⟩ = some (.slice am an ac) from ⟨cell_stays b_w9 (T_w8.out.1), cell_stays b_w9 (T_w8.out.2)⟩)
         clear bb_w9))
  all_goals
    go_wp2_with fail
    go_ret
    exact ⟨rfl, below_via HB.out (below_via b_w8 b_w9)⟩
end Go.Proofs.Ytncldpadakckjaa

namespace Go.Proofs.Ytncldpadakckjaa
open Go.RowKit

set_option maxHeartbeats 1000000 in
set_option maxRecDepth 100000 in
theorem Adjugate_bad (r c : Int) (a : Option Addr) (n cap : Nat) (hn : n ≤ 17592186044416) (hE : checkE r c n = 1) (w : World) :
    Calls Try.prog 54 #[.agg #[.int .i64 r, .int .i64 c, .slice a n cap]] w fun e w' => e = .returned (.tuple #[.agg #[.int .i64 0, .int .i64 0, .slice none 0 0], .int .i64 1]) ∧ Below w.heap.size w w' := by
  obtain ⟨⟨c0, c1, c2⟩, hz, hB, hsz⟩ := boxesM w (.int .i64 r) (.int .i64 c) (.slice a n cap)
  have hck := fun (u : World) => Check_any r c a n cap hn u
  rw [hE] at hck
  have HCK := Lib.hid hck
  have HB := Lib.hid hB
  have HSZ := Lib.hid hsz
  have z0 := hz 0 _ rfl
  have z1 := hz 1 _ rfl
  have z2 := hz 2 _ rfl
  clear hck hB hsz hz hE
  go_enter Try.func54, Try.ntmps54
  go_upto_region 1 with fail
  generalize (w.alloc (.cells #[.int .i64 r, .int .i64 c, .slice a n cap] 24)).alloc (.cells #[.int .i64 0, .int .i64 0, .slice none 0 0] 24) = W at *
  go_wp2_with fail
  (refine (HCK.out W).mono ?_)
  rintro e w3 ⟨rfl, hb3⟩
  have HB3 := Lib.hid (HB.out.trans (hb3.mono HB.out.size))
  have y0 := froz_stays hb3 z0.1 z0.2
  have y1 := froz_stays hb3 z1.1 z1.2
  have y2 := froz_stays hb3 z2.1 z2.2
  have x0 := cell_stays hb3 z0.1
  have x1 := cell_stays hb3 z1.1
  have x2 := cell_stays hb3 z2.1
  clear hb3 HCK z0 z1 z2 c0 c1 c2
  go_wp2_with fail
  have hg := stored3_gb w3 (w.heap.size + 1) (.int .i64 0) (.int .i64 0) (.slice none 0 0)
  have hbl := HB3.out.grown hg HB3.out.size (fun k hk => by injection hk with hk; omega)
  refine bodyPost_ret (v := .tuple #[.agg #[.int .i64 0, .int .i64 0, .slice none 0 0], .int .i64 1]) ?_ rfl ⟨rfl, hbl⟩
  simp [results, Try.results54, go_sem, x0, x1, x2]

set_option maxHeartbeats 1000000 in
set_option maxRecDepth 100000 in
theorem Adjugate_unfit (r c : Int) (a : Option Addr) (n cap : Nat) (hn : n ≤ 17592186044416) (hE : checkE r c n = 0) (hrc : r ≠ c) (w : World) :
    Calls Try.prog 54 #[.agg #[.int .i64 r, .int .i64 c, .slice a n cap]] w fun e w' => e = .returned (.tuple #[.agg #[.int .i64 0, .int .i64 0, .slice none 0 0], .int .i64 2]) ∧ Below w.heap.size w w' := by
  obtain ⟨⟨c0, c1, c2⟩, hz, hB, hsz⟩ := boxesM w (.int .i64 r) (.int .i64 c) (.slice a n cap)
  have hck := fun (u : World) => Check_any r c a n cap hn u
  rw [hE] at hck
  have HCK := Lib.hid hck
  have HB := Lib.hid hB
  have HSZ := Lib.hid hsz
  have z0 := hz 0 _ rfl
  have z1 := hz 1 _ rfl
  have z2 := hz 2 _ rfl
  have hne : (r != c) = true := by rw [bne_iff_ne]; exact hrc
  clear hck hB hsz hz hE hrc
  go_enter Try.func54, Try.ntmps54
  go_upto_region 1 with fail
  generalize (w.alloc (.cells #[.int .i64 r, .int .i64 c, .slice a n cap] 24)).alloc (.cells #[.int .i64 0, .int .i64 0, .slice none 0 0] 24) = W at *
  go_wp2_with fail
  (refine (HCK.out W).mono ?_)
  rintro e w3 ⟨rfl, hb3⟩
  have HB3 := Lib.hid (HB.out.trans (hb3.mono HB.out.size))
  have y0 := froz_stays hb3 z0.1 z0.2
  have y1 := froz_stays hb3 z1.1 z1.2
  have y2 := froz_stays hb3 z2.1 z2.2
  have x0 := cell_stays hb3 z0.1
  have x1 := cell_stays hb3 z1.1
  have x2 := cell_stays hb3 z2.1
  replace c0 := cell_stays hb3 c0
  replace c1 := cell_stays hb3 c1
  clear hb3 HCK z0 z1 z2 c2
  go_wp2_with fail
  have hg := stored3_gb w3 (w.heap.size + 1) (.int .i64 0) (.int .i64 0) (.slice none 0 0)
  have hbl := HB3.out.grown hg HB3.out.size (fun k hk => by injection hk with hk; omega)
  refine bodyPost_ret (v := .tuple #[.agg #[.int .i64 0, .int .i64 0, .slice none 0 0], .int .i64 2]) ?_ rfl ⟨rfl, hbl⟩
  simp [results, Try.results54, go_sem, x0, x1, x2]

set_option maxHeartbeats 1000000 in
set_option maxRecDepth 100000 in
theorem MExpand_done (r c : Int) (s : Value) (k : Int) (E : Int) (hE : E = 1 ∨ E = 2) (w : World)
    (hd : ∀ u : World, Calls Try.prog 23 #[.agg #[.int .i64 r, .int .i64 c, s]] u fun e w' => e = .returned (.tuple #[.agg #[.bool false, .slice none 0 0], .int .i64 E]) ∧ Below u.heap.size u w')
    (ha : ∀ u : World, Calls Try.prog 54 #[.agg #[.int .i64 r, .int .i64 c, s]] u fun e w' => e = .returned (.tuple #[.agg #[.int .i64 0, .int .i64 0, .slice none 0 0], .int .i64 E]) ∧ Below u.heap.size u w') :
    Calls Try.prog 12 #[.agg #[.int .i64 r, .int .i64 c, s], .int .i64 k] w fun e w' => e = .returned (.bool true) ∧ Below w.heap.size w w' := by
  obtain ⟨⟨c0, c1, c2⟩, hB, hsz⟩ := boxM w (.int .i64 r) (.int .i64 c) s
  have hne : (E != 0) = true := by rcases hE with rfl | rfl <;> rfl
  have HD := Lib.hid hd
  have HA := Lib.hid ha
  have HB := Lib.hid hB
  clear hd ha hB hsz hE
  go_enter Try.func12, Try.ntmps12
  go_upto_region 1 with fail
  generalize w.alloc (.cells #[.int .i64 r, .int .i64 c, s] 24) = W at *
  go_wp2_with fail
  (refine (awake14_any W).mono ?_)
  rintro e w1 ⟨rfl, hb1⟩
  replace c0 := cell_stays hb1 c0
  replace c1 := cell_stays hb1 c1
  replace c2 := cell_stays hb1 c2
  replace HB := Lib.hid (below_via HB.out hb1)
  clear hb1
  go_wp2_with fail
  (refine (HD.out w1).mono ?_)
  rintro e w2 ⟨rfl, hb2⟩
  have hb3 := below_via hb2 (bl_alloc w2 (.cells #[.bool false, .slice none 0 0] 42))
  replace c0 := cell_stays hb3 c0
  replace c1 := cell_stays hb3 c1
  replace c2 := cell_stays hb3 c2
  replace HB := Lib.hid (below_via HB.out hb3)
  clear hb2 hb3 HD
  go_upto_region 4 with fail
  generalize w2.alloc (.cells #[.bool false, .slice none 0 0] 42) = v2 at *
  go_wp2_with fail
  (refine (HA.out v2).mono ?_)
  rintro e w3 ⟨rfl, hb3⟩
  have hb4 := below_via hb3 (bl_alloc w3 (.cells #[.int .i64 0, .int .i64 0, .slice none 0 0] 24))
  replace HB := Lib.hid (below_via HB.out hb4)
  clear hb3 hb4 HA c0 c1 c2
  go_wp2_with fail
  go_ret
  exact ⟨by simp, HB.out⟩
end Go.Proofs.Ytncldpadakckjaa

namespace Go.Proofs.Ytncldpadakckjaa
open Go.RowKit

/-- the list of the places below c without k -/
def SkL (w : World) (base : Nat) (v : Value) (k c : Nat) : Prop := OwnL w base 3 v (if k < c then c - 1 else c) (fun i => .int .i64 (laZ.sk k i : Nat))
theorem SkL.start (w : World) (base k : Nat) : SkL w base (.slice none 0 0) k 0 := ⟨rfl, Or.inl ⟨rfl, rfl⟩⟩
theorem SkL.parts {w : World} {base : Nat} {v : Value} {k c : Nat} (h : SkL w base v k c) : ∃ a m cap, v = .slice a m cap := by
  obtain ⟨a, cap, e, -⟩ := OwnL.slice h
  exact ⟨a, _, cap, e⟩
theorem SkL.skip {w : World} {base : Nat} {v : Value} {k : Nat} (h : SkL w base v k k) : SkL w base v k (k + 1) := by
  unfold SkL at *
  rw [if_pos (by omega), show k + 1 - 1 = k by omega]
  rw [if_neg (by omega)] at h
  exact h
theorem SkL.full {w : World} {base : Nat} {v : Value} {k n : Nat} (h : SkL w base v k n) (hk : k < n) (hn : n ≤ 64) : RdI64 w v (n - 1) (laZ.sk k) := by
  unfold SkL at h
  rw [if_pos hk] at h
  exact (own_fr (k := .i64) (f := fun i => (laZ.sk k i : Int)) h (by omega)).read

theorem wp_pushSk {wr : World} {ops : Array Oper} {rest : List Oper} {o : Oper} {a : Act} {Q : Exit → Act → World → Prop} (hgd : o.guard = none) (s x : Operand)
    (ho : o.op = .call { callee := .builtin .append, args := #[s, x], argTypes := #[25, 25] })
    {base : Nat} {v v2 : Value} {k c k2 c2 : Nat} (hck : c ≠ k) (hc : c ≤ 64) (hown : SkL wr base v k c) (hown2 : SkL wr base v2 k2 c2) (hap : Apart v v2) (hs : a.eval s = v) (hx : a.eval x = .slice (some ⟨wr.heap.size, 0, none⟩) 1 1) (hb : base ≤ wr.heap.size)
    (h : ∀ g n cap w', SkL w' base (.slice (some ⟨g, 0, none⟩) n cap) k (c + 1) → SkL w' base v2 k2 c2 → Apart (.slice (some ⟨g, 0, none⟩) n cap) v2 → Below base wr w' → wpList Try.prog ops Q rest (a.put o.dst (.slice (some ⟨g, 0, none⟩) n cap)) w') :
    wpList Try.prog ops Q (o :: rest) a (wr.alloc (.cells #[.int .i64 c] 3)) := by
  obtain ⟨m, hm⟩ : ∃ m, m = if k < c then c - 1 else c := ⟨_, rfl⟩
  have hm64 : m ≤ 64 := by rw [hm]; split <;> omega
  have hsk : laZ.sk k m = c := by rw [hm]; unfold laZ.sk; (repeat' split) <;> omega
  have hm2 : (if k < c + 1 then c + 1 - 1 else c + 1) = m + 1 := by rw [hm]; (repeat' split) <;> omega
  unfold SkL at hown h
  rw [← hm] at hown
  refine wp_pushL hgd s x 25 ho Try.underlying25 infoN (by decide) hown hs hx rfl hb (by omega) fun g cap w' h1 h2 h3 h4 => h g (m + 1) cap w' ?_ ?_ ?_ ?_
  · rw [hm2]
    show w'.ownsRow _ _ _ _ _ _
    rw [map_snocN, hsk]; exact h1
  · refine World.ownsRow.kept hown2 h2 ?_
    cases hv : v2.ownBlock with
    | none => exact Or.inl rfl
    | some b => exact Or.inr fun e => hap b e.symm hv
  · intro b hb1 hb2
    simp [Value.ownBlock] at hb1
    subst hb1
    rcases h3 with h3 | h3
    · exact hap g h3 hb2
    · have := (World.ownsRow.lt hown2 g hb2).2; omega
  · exact (Below.refl base wr).grown h2 hb fun b hb1 => (World.ownsRow.lt hown b hb1).1
end Go.Proofs.Ytncldpadakckjaa

namespace Go.Proofs.Ytncldpadakckjaa
open Go.RowKit

/-- the fresh integer z lies in the box q, which is new since w0 -/
def BoxZ (w0 W : World) (q : Nat) (z : Int) : Prop :=
  Below w0.heap.size w0 W ∧ w0.heap.size ≤ q ∧ q < W.heap.size ∧ ∃ am an ac, (W.cell? ⟨q, 0, none⟩ = some (.bool (decide (z < 0))) ∧ W.cell? ⟨q, 1, none⟩ = some (.slice am an ac)) ∧
    (W.frozen? ⟨q, 0, none⟩ = false ∧ W.frozen? ⟨q, 1, none⟩ = false) ∧ FrZ W w0.heap.size (.agg #[.bool (decide (z < 0)), .slice am an ac]) z
section
variable {w0 w1 u w' : World} {base q : Nat} {z : Int} {am : Option Addr} {an ac : Nat} {v0 v1 : Value} {t : TypeId}
theorem boxZ_new (b : Below w0.heap.size w0 w1) (f : FrZ w1 base (.agg #[.bool (decide (z < 0)), .slice am an ac]) z) (hb : w0.heap.size ≤ base) :
    BoxZ w0 (w1.alloc (.cells #[.bool (decide (z < 0)), .slice am an ac] 42)) w1.heap.size z := by
  obtain ⟨x0, x1, y0, y1⟩ := two_cells w1 (.bool (decide (z < 0))) (.slice am an ac) 42
  exact ⟨below_via b (bl_alloc _ _), b.size, by simp, am, an, ac, ⟨x0, x1⟩, ⟨y0, y1⟩, (f.below (bl_alloc _ _)).mono hb⟩
theorem boxZ_old (b : Below w0.heap.size w0 w1) (f : FrZ w1 base (.agg #[.bool (decide (z < 0)), .slice am an ac]) z) (hq : w0.heap.size ≤ q) (hqb : q < base)
    (h : (w1.cell? ⟨q, 0, none⟩ = some v0 ∧ w1.cell? ⟨q, 1, none⟩ = some v1) ∧ (w1.frozen? ⟨q, 0, none⟩ = false ∧ w1.frozen? ⟨q, 1, none⟩ = false)) :
    BoxZ w0 ((w1.setCell ⟨q, 0, none⟩ (.bool (decide (z < 0)))).setCell ⟨q, 1, none⟩ (.slice am an ac)) q z := by
  obtain ⟨⟨h0, h1⟩, k0, k1⟩ := h
  have hg := stored2_gb w1 q (.bool (decide (z < 0))) (.slice am an ac)
  obtain ⟨n0, n1⟩ := two_own (x0 := .bool (decide (z < 0))) (x1 := .slice am an ac) h0 h1
  have hlt := World.block_lt_of_cell? _ _ h0
  exact ⟨b.grown hg b.size (fun k hk => by injection hk with hk; omega), hq, Nat.lt_of_lt_of_le hlt hg.size, am, an, ac, ⟨n0, n1⟩,
    ⟨by rw [World.frozen?_setCell, World.frozen?_setCell]; exact k0, by rw [World.frozen?_setCell, World.frozen?_setCell]; exact k1⟩, (f.far hg hqb).mono (by omega)⟩
theorem box2_after (b : Below (u.alloc (.cells #[v0, v1] t)).heap.size (u.alloc (.cells #[v0, v1] t)) w') :
    (w'.cell? ⟨u.heap.size, 0, none⟩ = some v0 ∧ w'.cell? ⟨u.heap.size, 1, none⟩ = some v1) ∧ (w'.frozen? ⟨u.heap.size, 0, none⟩ = false ∧ w'.frozen? ⟨u.heap.size, 1, none⟩ = false) := by
  obtain ⟨x0, x1, y0, y1⟩ := two_cells u v0 v1 t
  exact ⟨⟨cell_stays b x0, cell_stays b x1⟩, froz_stays b x0 y0, froz_stays b x1 y1⟩
theorem box2_after_d (b : Below (u.drew.alloc (.cells #[v0, v1] t)).heap.size (u.drew.alloc (.cells #[v0, v1] t)) w') :
    (w'.cell? ⟨u.heap.size, 0, none⟩ = some v0 ∧ w'.cell? ⟨u.heap.size, 1, none⟩ = some v1) ∧ (w'.frozen? ⟨u.heap.size, 0, none⟩ = false ∧ w'.frozen? ⟨u.heap.size, 1, none⟩ = false) := box2_after (u := u.drew) b
theorem box2_after_e (b : Below (u.alloc (.cells #[v0, v1] t)).drew.heap.size (u.alloc (.cells #[v0, v1] t)).drew w') :
    (w'.cell? ⟨u.heap.size, 0, none⟩ = some v0 ∧ w'.cell? ⟨u.heap.size, 1, none⟩ = some v1) ∧ (w'.frozen? ⟨u.heap.size, 0, none⟩ = false ∧ w'.frozen? ⟨u.heap.size, 1, none⟩ = false) := box2_after (u := u) ⟨b.os, b.tape, b.output, b.size, b.block⟩
theorem box2_on {q : Nat} (b : Below u.heap.size u w') (h : (u.cell? ⟨q, 0, none⟩ = some v0 ∧ u.cell? ⟨q, 1, none⟩ = some v1) ∧ (u.frozen? ⟨q, 0, none⟩ = false ∧ u.frozen? ⟨q, 1, none⟩ = false)) :
    (w'.cell? ⟨q, 0, none⟩ = some v0 ∧ w'.cell? ⟨q, 1, none⟩ = some v1) ∧ (w'.frozen? ⟨q, 0, none⟩ = false ∧ w'.frozen? ⟨q, 1, none⟩ = false) :=
  ⟨⟨cell_stays b h.1.1, cell_stays b h.1.2⟩, froz_stays b h.1.1 h.2.1, froz_stays b h.1.2 h.2.2⟩
theorem gb2 (w : World) (q : Nat) (x y : Value) : w.grownBy ((w.setCell ⟨q, 0, none⟩ x).setCell ⟨q, 1, none⟩ y) (some q) := stored2_gb w q x y
theorem cell_gb {w0 u u' : World} {q b i : Nat} {v : Value} (hg : u.grownBy u' (some q)) (hb : Below w0.heap.size w0 u) (hq : w0.heap.size ≤ q) (hc : w0.cell? ⟨b, i, none⟩ = some v) : u'.cell? ⟨b, i, none⟩ = some v :=
  hg.cell (cell_stays hb hc) (fun e => by have := World.block_lt_of_cell? _ _ hc; injection e with e; exact absurd hq (by have h2 : b = q := e; have h3 : b < w0.heap.size := this; omega))
end
end Go.Proofs.Ytncldpadakckjaa

namespace Go.Proofs.Ytncldpadakckjaa
open Go.RowKit

/-- the entries without the row i and the column j -/
def dropE (A : Nat → Int) (R i j q : Nat) : Int := A (laZ.sk i (q / (R - 1)) * R + laZ.sk j (q % (R - 1)))
def dropD (A : Nat → Int) (R i j : Nat) : Int := laZ.dt (R - 1) (fun r c => A (laZ.sk i r * R + laZ.sk j c))
def sgE (i j : Nat) : Int := if (i + j) % 2 = 1 then -1 else 1
/-- the sum over the first k columns -/
def expS (A : Nat → Int) (R i k : Nat) : Int := laZ.sm k (fun j => A (i * R + j) * (sgE i j * dropD A R i j))
theorem dropE_det (A : Nat → Int) (R i j : Nat) : laZ.dt (R - 1) (fun r c => dropE A R i j (r * (R - 1) + c)) = dropD A R i j := laZ.dt_congr fun r c _ hc => by
  obtain ⟨h1, h2⟩ := idx_dm (i := r) hc
  unfold dropE; rw [h1, h2]
theorem sk_ltR {R i k : Nat} (hR : 0 < R) (hk : k < R - 1) : laZ.sk i k < R := by have := laZ.sk_lt (i := i) hk; omega
theorem dropE_zb {A : Nat → Int} {R S : Nat} (hA : ∀ q, q < R * R → ZB S (A q)) (i j : Nat) : ∀ q, q < (R - 1) * (R - 1) → ZB S (dropE A R i j q) := fun q hq => by
  obtain ⟨h1, h2⟩ := idx_at hq
  exact hA _ (idx_lt (sk_ltR (by omega) h1) (sk_ltR (by omega) h2) rfl).1
theorem dropD_zb {A : Nat → Int} {R S : Nat} (hR : R ≤ 64) (hA : ∀ q, q < R * R → ZB S (A q)) (i j : Nat) : ZB (64 * (S + 1) + 1) (dropD A R i j) := by
  have h : ZB ((R - 1) * (S + 1) + 1) (dropD A R i j) := dtZ_zb (R - 1) _ (by omega) fun r c hr hc => hA _ (idx_lt (sk_ltR (by omega) hr) (sk_ltR (by omega) hc) rfl).1
  exact h.mono (by have := Nat.mul_le_mul_right (S + 1) (show R - 1 ≤ 64 by omega); omega)
theorem sgE_zb {T : Nat} {z : Int} (i j : Nat) (h : ZB T z) : ZB T (sgE i j * z) := by
  unfold sgE
  split
  · rw [show (-1 : Int) * z = -z by omega]; exact h.neg
  · rw [Int.one_mul]; exact h
theorem expS_zb {A : Nat → Int} {R S i : Nat} (hR : R ≤ 64) (hi : i < R) (hA : ∀ q, q < R * R → ZB S (A q)) {k : Nat} (hk : k ≤ R) : ZB (S + (64 * (S + 1) + 1) + 1) (expS A R i k) := by
  have h := smZ_abs (B := 18446744073709551616 ^ (S + (64 * (S + 1) + 1)) - 1) k (fun j => A (i * R + j) * (sgE i j * dropD A R i j)) (fun j hj => by
    have h1 := (hA _ (idx_lt hi (show j < R by omega) rfl).1).mul (sgE_zb i j (dropD_zb hR hA i j))
    unfold ZB at h1; omega)
  unfold ZB expS
  rw [Int.pow_succ]
  have hp := pow_pos' (show (0 : Int) < 18446744073709551616 by omega) (S + (64 * (S + 1) + 1))
  generalize (18446744073709551616 : Int) ^ (S + (64 * (S + 1) + 1)) = X at *
  have h5 : (k : Int) * (X - 1) ≤ 64 * (X - 1) := Int.mul_le_mul_of_nonneg_right (by omega) (by omega)
  omega
theorem expS_succ (A : Nat → Int) (R i k : Nat) : expS A R i (k + 1) = A (i * R + k) * (sgE i k * dropD A R i k) + expS A R i k := Int.add_comm _ _
theorem expS_all {A : Nat → Int} {R i : Nat} (hi : i < R) : expS A R i R = leadD A R R := by
  obtain ⟨n, rfl⟩ : ∃ n, R = n + 1 := ⟨R - 1, by omega⟩
  show _ = laZ.dt (n + 1) (fun r c => A (r * (n + 1) + c))
  rw [dtZ_row _ hi, show laQ.sk = laZ.sk from rfl]
  refine laZ.sm_congr fun j hj => ?_
  unfold sgE dropD
  rw [show n + 1 - 1 = n from rfl]
  generalize laZ.dt n (fun r c => A (laZ.sk i r * (n + 1) + laZ.sk j c)) = d
  generalize A (i * (n + 1) + j) = x
  split <;> grind
theorem leadD_zero (A : Nat → Int) (C : Nat) : leadD A C 0 = 1 := rfl
theorem zb_one : ZB 1 1 := by unfold ZB; decide

theorem without_R (R k : Nat) (hR : R ≤ 64) (hk : k < R) (w : World) : Calls Try.prog 41 #[.int .i64 R, .int .i64 k] w fun e w' => ∃ v, e = .returned v ∧ RdI64 w' v (R - 1) (laZ.sk k) ∧ Below w.heap.size w w' := by
  obtain ⟨n, rfl⟩ : ∃ n, R = n + 1 := ⟨R - 1, by omega⟩
  exact without_any n k (by omega) (by omega) w

set_option maxHeartbeats 4000000 in
set_option maxRecDepth 100000 in
theorem Expands_done (r c : Int) (s : Value) (k : Int) (w : World) (hd : ∀ u : World, Calls Try.prog 38 #[.agg #[.int .i64 r, .int .i64 c, s]] u fun e w' => e = .returned (.tuple #[.bool true, .bool true]) ∧ Below u.heap.size u w') :
    Calls Try.prog 9 #[.agg #[.int .i64 r, .int .i64 c, s], .int .i64 k] w fun e w' => e = .returned (.bool true) ∧ Below w.heap.size w w' := by
  obtain ⟨⟨c0, c1, c2⟩, hB, hsz⟩ := boxM w (.int .i64 r) (.int .i64 c) s
  have HD := Lib.hid hd
  have HB := Lib.hid hB
  clear hd hB hsz
  go_enter Try.func9, Try.ntmps9
  go_upto_region 1 with fail
  generalize w.alloc (.cells #[.int .i64 r, .int .i64 c, s] 24) = W at *
  go_wp2_with fail
  (refine (HD.out W).mono ?_)
  rintro e w1 ⟨rfl, hb1⟩
  have HB1 := Lib.hid (below_via HB.out hb1)
  clear hb1 HD HB c0 c1 c2
  go_wp2_with fail
  (refine (awake_any w1).mono ?_)
  rintro e w2 ⟨rfl, hb2⟩
  have HB2 := Lib.hid (below_via HB1.out hb2)
  clear hb2 HB1
  go_wp2_with fail
  (refine (awake_any w2).mono ?_)
  rintro e w3 ⟨rfl, hb3⟩
  have HB3 := Lib.hid (below_via HB2.out hb3)
  clear hb3 HB2
  go_wp2_with fail
  go_ret
  exact ⟨rfl, HB3.out⟩
end Go.Proofs.Ytncldpadakckjaa
