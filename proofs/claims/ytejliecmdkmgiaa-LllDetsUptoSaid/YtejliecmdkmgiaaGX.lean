import Derived.Test.YtejliecmdkmgiaaGK
import Derived.Test.YtejliecmdkmgiaaGH
import Derived.Test.YtejliecmdkmgiaaGI
import Derived.Test.YtejliecmdkmgiaaGR
import Derived.Test.YtejliecmdkmgiaaGU
import Derived.Test.YtejliecmdkmgiaaGQ
import Derived.Test.YtejliecmdkmgiaaGJ
import Derived.Test.YtejliecmdkmgiaaGD
set_option linter.unusedVariables false
set_option linter.unusedSimpArgs false
set_option maxHeartbeats 8000000
set_option maxRecDepth 100000
namespace Go.Proofs.Ytejliecmdkmgiaa
open Go.RowKit
def RdL1 (w : World) (v : Value) (z : Int) : Prop := ∃ m n f, v = .agg #[.bool (decide (z < 0)), m] ∧ RdA .u64 w m n f ∧ Dig 18446744073709551616 n f (z.natAbs : Int)
theorem RdL1.below {w w' : World} {v : Value} {z : Int} (h : RdL1 w v z) (hb : Below w.heap.size w w') : RdL1 w' v z := by
  obtain ⟨m, n, f, e, h1, h2⟩ := h
  exact ⟨m, n, f, e, h1.below hb, h2⟩
theorem FrZ.least {w : World} {base : Nat} {v : Value} {z : Int} (h : FrZ w base v z) : RdL1 w v z := by
  obtain ⟨m, n, f, e, h1, h2⟩ := h
  exact ⟨m, n, f, e, h1.read, h2⟩
theorem Like_yes (x y : Value) (z : Int) (w : World) (hx : RdL1 w x z) (hy : RdL1 w y z) :
    Calls Try.prog 59 #[x, y] w fun e w' => e = .returned (.bool true) ∧ Below w.heap.size w w' := by
  obtain ⟨m, n, f, rfl, h1, h2⟩ := hx
  obtain ⟨m', n', f', rfl, h1', h2'⟩ := hy
  obtain ⟨e1, e2⟩ := h2.unique (by omega) h2'
  subst e1
  obtain ⟨am, cm, rfl, -⟩ := id h1
  obtain ⟨al, cl, rfl, -⟩ := id h1'
  generalize decide (z < 0) = sg at *
  obtain ⟨⟨x0, x1, y0, y1, -, -⟩, hb0, -⟩ := boxes2 w (.bool sg) (.slice am n cm) (.bool sg) (.slice al n cl) 49
  have hsm := Same_yes _ _ _ _ _ _ (h1.below hb0) (h1'.below hb0) e2
  have HSM := Lib.hid hsm
  have HB0 := Lib.hid hb0
  clear hb0 hsm e2 h1 h1' h2 h2'
  go_enter Try.func59, Try.ntmps59
  go_wp2_with fail
  refine HSM.out.mono ?_
  rintro e w4 ⟨rfl, hb4⟩
  have HB4 := Lib.hid (below_via HB0.out hb4)
  clear hb4 HSM HB0
  go_wp2_with fail
  go_ret
  exact ⟨rfl, HB4.out⟩
theorem places_yes (v : Value) (r n : Nat) (P : Nat → Nat) (w : World) (hr : r ≤ 64) (hn : n ≤ 64) (hv : RdI64 w v r P) (hl : ∀ i, i < r → P i < n) :
    Calls Try.prog 123 #[v, .int .i64 n] w fun e w' => e = .returned (.bool true) ∧ w = w' := by
  obtain ⟨a, cap, rfl, h1, h2, h3⟩ := wd_get hv
  have H3 := Lib.hid h3
  have HL := Lib.hid hl
  clear hv h3 hl
  go_enter Try.func123, Try.ntmps123
  go_wp2_with fail
  go_loopw [9] (fun iv wr => ∃ i : Nat, i ≤ r ∧ iv = .int .i64 i ∧ wr = w) (fun iv _ => r - (intOf iv).toNat)
  case atStart => exact ⟨0, Nat.zero_le _, rfl, rfl⟩
  case round =>
    obtain ⟨i, hi, rfl, rfl⟩ := hrel
    by_cases hc : i < r
    · obtain ⟨b, o, rfl, hd⟩ := H3.out i hc
      have hpn := HL.out i hc
      generalize P i = q at *
      go_wp2_with fail
      go_roundw
      case rel => exact ⟨i + 1, by omega, by go_num, by first | rfl | trivial⟩
      case measure => simp [intOf]; omega
    · obtain rfl : i = r := by omega
      go_wp2_with fail
      go_ret
      exact ⟨rfl, rfl⟩
theorem pick_zb {A : Nat → Int} {R C S r : Nat} {Q P : Nat → Nat} (hA : ∀ q, q < R * C → ZB S (A q)) (hQ : ∀ i, i < r → Q i < R) (hP : ∀ i, i < r → P i < C) : ∀ q, q < r * r → ZB S (A (Q (q / r) * C + P (q % r))) := fun q hq => by
  obtain ⟨h1, h2⟩ := idx_at hq
  exact hA _ (idx_lt (hQ _ h1) (hP _ h2) rfl).1
theorem Minor_good (R C r S : Nat) (sl rv cv : Value) (P Q : Nat → Nat) (A : Nat → Int) (w : World) (hR : R ≤ 64) (hC : C ≤ 64) (hr64 : r ≤ 64) (hS : S ≤ 268435456) (hQ : ∀ i, i < r → Q i < R) (hP : ∀ j, j < r → P j < C)
    (hA' : RdE w sl (R * C) A) (hA : ∀ q, q < R * C → ZB S (A q)) (hrv : RdI64 w rv r Q) (hcv : RdI64 w cv r P) :
    Calls Try.prog 58 #[.agg #[.int .i64 R, .int .i64 C, sl], rv, cv] w fun e w' => ∃ v, e = .returned (.tuple #[v, .int .i64 0]) ∧ FrZ w' w.heap.size v (laZ.dt r (fun i j => A (Q i * C + P j))) ∧ Below w.heap.size w w' := by
  have hK4 : R * C ≤ 4096 := Nat.mul_le_mul hR hC
  have hrr : r * r ≤ 1048576 := Nat.le_trans (Nat.mul_le_mul hr64 hr64) (by decide)
  obtain ⟨a, cap, rfl, hcap⟩ := hA'.slice
  obtain ⟨ra, rcap, rfl, -, -, -⟩ := wd_get hrv
  obtain ⟨ca, ccap, rfl, -, -, -⟩ := wd_get hcv
  obtain ⟨⟨c0, c1, c2⟩, ⟨z0, z1, z2, z3⟩, hB, hsz⟩ := boxesI w (.int .i64 R) (.int .i64 C) (.slice a (R * C) cap)
  have hck := fun (u : World) => Check_any R C a (R * C) cap (by omega) u
  rw [checkE_ok hR hC rfl] at hck
  have hpl := fun (u : World) (hu : Below w.heap.size w u) => places_yes _ r R Q u hr64 hR (hrv.below hu) hQ
  have hpl' := fun (u : World) (hu : Below w.heap.size w u) => places_yes _ r C P u hr64 hC (hcv.below hu) hP
  have hpk := fun (u : World) (hu : Below w.heap.size w u) => Pick_good R C r r _ _ _ P Q A u hR hC hr64 hr64 hQ hP (hA'.below hu) (hrv.below hu) (hcv.below hu)
  have hdt := fun (s : Value) (u : World) (h : RdE u s (r * r) (fun q => A (Q (q / r) * C + P (q % r)))) => by
    have h := Det_good r S s _ u hr64 hS h (pick_zb hA hQ hP)
    rw [show laZ.dt r (fun i j => A (Q ((i * r + j) / r) * C + P ((i * r + j) % r))) = laZ.dt r (fun i j => A (Q i * C + P j)) from laZ.dt_congr fun i j _ hj => by
      obtain ⟨h1, h2⟩ := idx_dm (i := i) hj
      rw [h1, h2]] at h
    exact h
  obtain ⟨D, hD⟩ : ∃ D, D = laZ.dt r (fun i j => A (Q i * C + P j)) := ⟨_, rfl⟩
  rw [← hD]
  simp only [← hD] at hdt
  generalize R * C = K at *
  have HCK := Lib.hid hck
  have HPL := Lib.hid hpl
  have HPL' := Lib.hid hpl'
  have HPK := Lib.hid hpk
  have HDT := Lib.hid hdt
  have HB := Lib.hid hB
  have HSZ := Lib.hid hsz
  clear hck hpl hpl' hpk hdt hB hsz hA' hA hrv hcv hQ hP hD
  go_enter Try.func58, Try.ntmps58
  go_upto_region 1 with fail
  generalize (w.alloc (.cells #[.int .i64 R, .int .i64 C, .slice a K cap] 24)).alloc (.cells #[.bool false, .slice none 0 0] 49) = W at *
  go_wp2_with fail
  (refine (HCK.out W).mono ?_)
  rintro e w1 ⟨rfl, hb1⟩
  have HS1 := Lib.hid (show w.heap.size + 2 ≤ w1.heap.size by have := HSZ.out; have := hb1.size; omega)
  replace z2 := froz_stays hb1 z0 z2
  replace z3 := froz_stays hb1 z1 z3
  replace z0 := cell_stays hb1 z0
  replace z1 := cell_stays hb1 z1
  replace c0 := cell_stays hb1 c0
  replace c1 := cell_stays hb1 c1
  replace c2 := cell_stays hb1 c2
  replace HB := Lib.hid (below_via HB.out hb1)
  clear hb1 HCK HSZ
  go_wp2_with (first
    | (go_at_call 123; (with_reducible refine (HPL.out w1 HB.out).mono ?_); rintro e w2 ⟨rfl, rfl⟩)
    | (go_at_call 123; (with_reducible refine (HPL'.out w1 HB.out).mono ?_); rintro e w2 ⟨rfl, rfl⟩))
  (refine (HPK.out w1 HB.out).mono ?_)
  rintro e w3 ⟨lb, rfl, hf3, hb3⟩
  have hba := bl_alloc w3 (.cells #[.int .i64 r, .int .i64 r, .slice (some ⟨lb, 0, none⟩) (r * r) (r * r)] 24)
  have hk3 := three_cells w3 (.int .i64 r) (.int .i64 r) (.slice (some ⟨lb, 0, none⟩) (r * r) (r * r)) 24
  have e0 := (hk3 0 _ rfl).1
  have e1 := (hk3 1 _ rfl).1
  have e2 := (hk3 2 _ rfl).1
  have hb3' := below_via hb3 hba
  have HDT' := Lib.hid (HDT.out _ _ ((hf3.rd (Nat.le_refl _) hrr).below hba))
  have HS3 := Lib.hid (Nat.le_trans HS1.out hb3'.size)
  replace z2 := froz_stays hb3' z0 z2
  replace z3 := froz_stays hb3' z1 z3
  replace z0 := cell_stays hb3' z0
  replace z1 := cell_stays hb3' z1
  replace HB := Lib.hid (below_via HB.out hb3')
  clear hb3 hb3' hba hk3 hf3 HPK HDT HPL HPL' c0 c1 c2
  go_wp2_with fail
  (refine HDT'.out.mono ?_)
  rintro e w5 ⟨v, rfl, hf5, hb5⟩
  replace z2 := froz_stays hb5 z0 z2
  replace z3 := froz_stays hb5 z1 z3
  replace z0 := cell_stays hb5 z0
  replace z1 := cell_stays hb5 z1
  obtain ⟨am, an, ac, rfl, f1, f2⟩ := det_fin (b := w.heap.size + 1) (w := w) (hf5.mono HS3.out) (by omega) (by omega) (below_via HB.out hb5)
  have F1 := Lib.hid f1
  have F2 := Lib.hid f2
  clear hf5 hb5 f1 f2 HDT' HB e0 e1 e2
  go_wp2_with fail
  refine bodyPost_ret (v := .tuple #[.agg #[.bool (decide (D < 0)), .slice am an ac], .int .i64 0]) ?_ rfl ⟨_, rfl, F1.out, F2.out⟩
  simp [results, Try.results58, go_sem, z0, z1]
end Go.Proofs.Ytejliecmdkmgiaa
namespace Go.Proofs.Ytejliecmdkmgiaa
open Go.RowKit
end Go.Proofs.Ytejliecmdkmgiaa
namespace Go.Proofs.Ytejliecmdkmgiaa
open Go.RowKit
end Go.Proofs.Ytejliecmdkmgiaa
namespace Go.Proofs.Ytejliecmdkmgiaa
open Go.RowKit
section
variable {w0 w1 u w' : World} {base q : Nat} {z : Int} {am : Option Addr} {an ac : Nat} {v0 v1 : Value} {t : TypeId}
end
end Go.Proofs.Ytejliecmdkmgiaa
namespace Go.Proofs.Ytejliecmdkmgiaa
open Go.RowKit Go.Shelf
theorem LikeRow_yes (x y : Value) (n : Nat) (E : Nat → Int) (w : World) (hx : LeE w x n E) (hy : LeE w y n E) :
    Calls Try.prog 69 #[x, y] w fun e w' => e = .returned (.bool true) ∧ Below w.heap.size w w' := by
  have hmix : Try.prog.follows .mixedOrders = true := by kernel_rfl
  obtain ⟨a, cap, rfl, hcap⟩ := hx.slice
  obtain ⟨a', cap', rfl, hcap'⟩ := hy.slice
  have hn : n ≤ 1048576 := by obtain ⟨_, _, _, _, h, _⟩ := hx; exact h
  have HX := Lib.hid hx
  have HY := Lib.hid hy
  clear hx hy
  go_enter Try.func69, Try.ntmps69
  go_wp2_with fail
  go_loopw [5] (fun iv wr => ∃ i : Nat, i ≤ n ∧ iv = .int .i64 i ∧ Below w.heap.size w wr) (fun iv _ => n - (intOf iv).toNat)
  case atStart => exact ⟨0, Nat.zero_le _, rfl, Below.refl _ _⟩
  case round =>
    obtain ⟨i, hi, rfl, hb⟩ := hrel
    by_cases hin : i < n
    · have hi1 : (i : Int) < (n : Int) := by omega
      obtain ⟨b1, o1, s1, m1, rfl, c1, c2, c3⟩ := (HX.out.below hb).get hin
      obtain ⟨b2, o2, s2, m2, rfl, d1, d2, d3⟩ := (HY.out.below hb).get hin
      have HS := Lib.hid (fun (W : World) (hW : Below wr.heap.size wr W) => Like_yes _ _ (E i) W (c3.below hW).2 (d3.below hW).2)
      have HB := Lib.hid hb
      clear c3 d3 hb
      go_wp2_with fail
      refine region_early (fun u => u.cell? ⟨b1, o1 + i * 2, none⟩ = some (.bool s1) ∧ u.cell? ⟨b1, o1 + i * 2 + 1, none⟩ = some m1 ∧ u.cell? ⟨b2, o2 + i * 2, none⟩ = some (.bool s2) ∧ u.cell? ⟨b2, o2 + i * 2 + 1, none⟩ = some m2) 10 [0, 1, 2, 3, 4, 5, 6, 7] 2 hmix (by kernel_rfl) rfl (by kernel_rfl) (fun _ _ d _ _ h => by cases d <;> exact h) ⟨c1, c2, d1, d2⟩ ?_
      iterate 8 (refine early_take rfl (by rfl) ?_; apply Exists.intro; refine ⟨fun u hu => ?_, ?_⟩; (obtain ⟨u1, u2, u3, u4⟩ := hu; go_simp; rfl); simp only [Act.put, List.getElem_toArray, List.getElem_cons_zero, List.getElem_cons_succ, List.setIfInBounds_toArray, List.set_cons_zero, List.set_cons_succ])
      refine early_done ?_
      simp only [marked]
      refine anyL_one (i := 8) (by kernel_rfl) rfl (by rfl) fun K hK => ?_
      go_simp
      refine (HS.out _ (bl_drew _)).mono ?_
      rintro e w3 ⟨rfl, hb3⟩
      have hb3' := below_via (bl_drew wr) hb3
      have hS3 : w3.cell? ⟨b1, o1 + i * 2, none⟩ = some (.bool s1) ∧ w3.cell? ⟨b1, o1 + i * 2 + 1, none⟩ = some m1 ∧ w3.cell? ⟨b2, o2 + i * 2, none⟩ = some (.bool s2) ∧ w3.cell? ⟨b2, o2 + i * 2 + 1, none⟩ = some m2 := ⟨cell_stays hb3' c1, cell_stays hb3' c2, cell_stays hb3' d1, cell_stays hb3' d2⟩
      refine hK _ _ (fun _ => hS3) ?_
      clear hK K
      refine anyL_yield (i := 9) rfl (by kernel_rfl) (by kernel_rfl) (by kernel_rfl) (by kernel_rfl) (fun _ _ d _ _ h => by cases d <;> exact h) (by rfl) hS3 ?_
      apply Exists.intro
      refine ⟨fun u => ?_, ?_⟩
      · go_simp
        rfl
      simp only [Act.put, List.getElem_toArray, List.getElem_cons_zero, List.getElem_cons_succ, List.setIfInBounds_toArray, List.set_cons_zero, List.set_cons_succ]
      refine anyL_done (by kernel_rfl) ?_ _
      have wk : IntKind.i64.wrap ((i : Int) + 1) = (i : Int) + 1 := IntWalk.i64_in _ (by omega)
      have HB3 := Lib.hid (HB.out.trans (hb3'.mono HB.out.size))
      clear hb3 hb3' HS
      go_wp2_with fail
      go_roundw
      case rel => exact ⟨i + 1, by omega, by go_num, HB3.out⟩
      case measure => simp [intOf]; omega
    · obtain rfl : i = n := by omega
      go_wp2_with fail
      go_ret
      exact ⟨rfl, hb⟩
theorem LikeMat_yes (r c : Int) (x y : Value) (n : Nat) (E : Nat → Int) (w : World) (hx : LeE w x n E) (hy : LeE w y n E) :
    Calls Try.prog 52 #[.agg #[.int .i64 r, .int .i64 c, x], .agg #[.int .i64 r, .int .i64 c, y]] w fun e w' => e = .returned (.bool true) ∧ Below w.heap.size w w' := by
  obtain ⟨a, cap, rfl, -⟩ := hx.slice
  obtain ⟨a', cap', rfl, -⟩ := hy.slice
  have hb := two_mats w (.int .i64 r) (.int .i64 c) (.slice a n cap) (.int .i64 r) (.int .i64 c) (.slice a' n cap')
  obtain ⟨h1, h2, -⟩ := two_mbox w r c r c (.slice a n cap) (.slice a' n cap')
  have HS := Lib.hid (LikeRow_yes _ _ n E _ (hx.below hb) (hy.below hb))
  have HB := Lib.hid hb
  have x0 := h1.m0
  have x1 := h1.m1
  have x2 := h1.m2
  have y0 := h2.m0
  have y1 := h2.m1
  have y2 := h2.m2
  clear hx hy hb h1 h2
  go_enter Try.func52, Try.ntmps52
  go_upto_region 1 with fail
  generalize (w.alloc (.cells #[.int .i64 r, .int .i64 c, .slice a n cap] 24)).alloc (.cells #[.int .i64 r, .int .i64 c, .slice a' n cap'] 24) = W at *
  go_wp2_with fail
  (refine HS.out.mono ?_)
  rintro e w3 ⟨rfl, hb3⟩
  have HB3 := Lib.hid (below_via HB.out hb3)
  clear hb3 HS
  go_wp2_with fail
  go_ret
  exact ⟨rfl, HB3.out⟩
theorem NoMat_yes (w : World) :
    Calls Try.prog 50 #[.agg #[.int .i64 0, .int .i64 0, .slice none 0 0]] w fun e w' => e = .returned (.bool true) ∧ Below w.heap.size w w' := by
  have hb := bl_alloc w (.cells #[.int .i64 0, .int .i64 0, .slice none 0 0] 24)
  have hm := MBox.new w 0 0 (.slice none 0 0)
  have x0 := hm.m0
  have x1 := hm.m1
  have x2 := hm.m2
  have HB := Lib.hid hb
  clear hb hm
  go_enter Try.func50, Try.ntmps50
  go_upto_region 1 with fail
  generalize w.alloc (.cells #[.int .i64 0, .int .i64 0, .slice none 0 0] 24) = W at *
  go_wp2_with fail
  go_ret
  exact ⟨rfl, HB.out⟩
end Go.Proofs.Ytejliecmdkmgiaa
namespace Go.Proofs.Ytejliecmdkmgiaa
open laZ
end Go.Proofs.Ytejliecmdkmgiaa
namespace Go.Proofs.Ytejliecmdkmgiaa
open laZ
end Go.Proofs.Ytejliecmdkmgiaa
namespace Go.Proofs.Ytejliecmdkmgiaa
open Go.RowKit Go.Shelf
end Go.Proofs.Ytejliecmdkmgiaa
