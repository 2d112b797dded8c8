/- The walks of mat.place with its closure, and of mat.Add. The walk of the law BareissProducts. -/
import Derived.Test.YtejliecmdkmgiaaGJ
set_option linter.unusedVariables false
set_option linter.unusedSimpArgs false
namespace Go.Proofs.Ytejliecmdkmgiaa
open Go.RowKit

set_option maxHeartbeats 4000000 in
set_option maxRecDepth 100000 in
theorem place1_any (fb ab bb R C i j : Nat) (sl sl' : Value) (A B : Nat → Int) (w : World) (hR : R ≤ 64) (hC : C ≤ 64) (hi : i < R) (hj : j < C)
    (f0 : w.cell? ⟨fb, 0, none⟩ = some (.func (.func 104) #[] #[])) (c1 : w.cell? ⟨ab, 1, none⟩ = some (.int .i64 C)) (c2 : w.cell? ⟨ab, 2, none⟩ = some sl) (d1 : w.cell? ⟨bb, 1, none⟩ = some (.int .i64 C)) (d2 : w.cell? ⟨bb, 2, none⟩ = some sl') (hr : RdE w sl (R * C) A) (hr' : RdE w sl' (R * C) B) :
    Calls Try.prog 164 #[.int .i64 i, .int .i64 j, .pointer (some ⟨fb, 0, none⟩), .pointer (some ⟨ab, 0, none⟩), .pointer (some ⟨bb, 0, none⟩)] w fun e w' => ∃ v, e = .returned v ∧ FrZ w' w.heap.size v (A (i * C + j) + B (i * C + j)) ∧ Below w.heap.size w w' := by
  have hK4 : R * C ≤ 4096 := Nat.mul_le_mul hR hC
  obtain ⟨a, cap, rfl, hcap⟩ := hr.slice
  obtain ⟨b, cap', rfl, hcap'⟩ := hr'.slice
  obtain ⟨p, hp⟩ : ∃ p, p = i * C + j := ⟨_, rfl⟩
  obtain ⟨hpK, hpe⟩ := idx_lt hi hj hp
  rw [← hp]
  have hba := bl_alloc w (.cells #[.bool false, .slice none 0 0] 49)
  obtain ⟨z0, z1, y0, y1⟩ := two_cells w (.bool false) (.slice none 0 0) 49
  have hsz : (w.alloc (.cells #[.bool false, .slice none 0 0] 49)).heap.size = w.heap.size + 1 := by simp
  replace f0 := cell_stays hba f0
  replace c1 := cell_stays hba c1
  replace c2 := cell_stays hba c2
  replace d1 := cell_stays hba d1
  replace d2 := cell_stays hba d2
  obtain ⟨ba, oa, sa, ma, rfl, a0, a1, hza⟩ := (hr.below hba).get hpK
  obtain ⟨bb', ob, sb, mb, rfl, b0, b1, hzb⟩ := (hr'.below hba).get hpK
  obtain ⟨ama, ana, aca, rfl⟩ := hza.agg
  obtain ⟨amb, anb, acb, rfl⟩ := hzb.agg
  have m0 : 0 ≤ (i : Int) * C := Int.mul_nonneg (by omega) (by omega)
  have m1 : (i : Int) * C ≤ 4096 := by omega
  have hpI : (p : Int) < ((R * C : Nat) : Int) := by exact_mod_cast hpK
  have wi1 : IntKind.i64.wrap ((i : Int) * C) = (i : Int) * C := IntWalk.i64_in _ (by omega)
  have wi2 : IntKind.i64.wrap ((i : Int) * C + j) = (p : Int) := by rw [hpe]; exact IntWalk.i64_in _ (by omega)
  have hma := zAdd_any _ _ (A p) (B p) (w.alloc (.cells #[.bool false, .slice none 0 0] 49)).drew (hza.below (bl_drew _)) (hzb.below (bl_drew _))
  obtain ⟨D, hD⟩ : ∃ D, D = A p + B p := ⟨_, rfl⟩
  rw [← hD] at hma ⊢
  have HMA := Lib.hid hma
  clear hD
  have HB := Lib.hid (below_via hba (bl_drew _))
  have HS := Lib.hid hsz
  generalize R * C = K at *
  clear hma hza hzb hba hp hpe hr hr' hsz
  go_enter Try.func164, Try.ntmps164
  go_upto_region 1 with fail
  generalize w.alloc (.cells #[.bool false, .slice none 0 0] 49) = W at *
  refine wp_region_still_tail 21 (by kernel_rfl) (by kernel_rfl) ?_
  simp only [List.take_succ_cons, List.take_zero, List.drop_succ_cons, List.drop_zero]
  repeat still_step
  refine wpStill_nil ?_
  change wpList _ _ _ _ _ W.drew
  replace z0 := cell_stays (bl_drew W) z0
  replace z1 := cell_stays (bl_drew W) z1
  have u0 : W.drew.frozen? ⟨w.heap.size, 0, none⟩ = false := y0
  have u1 : W.drew.frozen? ⟨w.heap.size, 1, none⟩ = false := y1
  have hs2 : W.drew.heap.size = w.heap.size + 1 := HS.out
  clear a0 a1 b0 b1 c1 c2 d1 d2 f0 y0 y1 wi1 wi2 HS
  generalize W.drew = w4 at *
  go_wp2_with fail
  (refine HMA.out.mono ?_)
  rintro e w5 ⟨v, rfl, hf5, hb5⟩
  replace u0 := froz_stays hb5 z0 u0
  replace u1 := froz_stays hb5 z1 u1
  replace z0 := cell_stays hb5 z0
  replace z1 := cell_stays hb5 z1
  obtain ⟨am5, an5, ac5, rfl, f1, f2⟩ := det_fin (b := w.heap.size) (w := w) hf5 (by omega) (Nat.le_refl _) (below_via HB.out hb5)
  have F1 := Lib.hid f1
  have F2 := Lib.hid f2
  clear hf5 hb5 f1 f2 HMA HB
  go_wp2_with fail
  refine bodyPost_ret (v := .agg #[.bool (decide (D < 0)), .slice am5 an5 ac5]) ?_ rfl ⟨_, rfl, F1.out, F2.out⟩
  simp [results, Try.results164, go_sem, z0, z1]

/-- boxes of two matrices, of a function, and where the answer will lie -/
theorem boxes4M (w : World) (a0 a1 a2 b0 b1 b2 f : Value) (t : TypeId) :
    let W := (((w.alloc (.cells #[a0, a1, a2] 24)).alloc (.cells #[b0, b1, b2] 24)).alloc (.cells #[f] t)).alloc (.cells #[.int .i64 0, .int .i64 0, .slice none 0 0] 24)
    (W.cell? ⟨w.heap.size, 0, none⟩ = some a0 ∧ W.cell? ⟨w.heap.size, 1, none⟩ = some a1 ∧ W.cell? ⟨w.heap.size, 2, none⟩ = some a2) ∧
    (W.cell? ⟨w.heap.size + 1, 0, none⟩ = some b0 ∧ W.cell? ⟨w.heap.size + 1, 1, none⟩ = some b1 ∧ W.cell? ⟨w.heap.size + 1, 2, none⟩ = some b2) ∧ W.cell? ⟨w.heap.size + 1 + 1, 0, none⟩ = some f ∧
    (∀ i y, [Value.int .i64 0, .int .i64 0, .slice none 0 0][i]? = some y → W.cell? ⟨w.heap.size + 1 + 1 + 1, i, none⟩ = some y ∧ W.frozen? ⟨w.heap.size + 1 + 1 + 1, i, none⟩ = false) ∧
    Below w.heap.size w W ∧ W.heap.size = w.heap.size + 4 := by
  intro W
  obtain ⟨w1, h1⟩ : ∃ w1, w1 = w.alloc (.cells #[a0, a1, a2] 24) := ⟨_, rfl⟩
  obtain ⟨w2, h2⟩ : ∃ w2, w2 = w1.alloc (.cells #[b0, b1, b2] 24) := ⟨_, rfl⟩
  obtain ⟨w3, h3⟩ : ∃ w3, w3 = w2.alloc (.cells #[f] t) := ⟨_, rfl⟩
  have hW : W = w3.alloc (.cells #[.int .i64 0, .int .i64 0, .slice none 0 0] 24) := by rw [h3, h2, h1]
  have s1 : w1.heap.size = w.heap.size + 1 := by rw [h1]; simp
  have s2 : w2.heap.size = w.heap.size + 1 + 1 := by rw [h2]; simp [s1]
  have s3 : w3.heap.size = w.heap.size + 1 + 1 + 1 := by rw [h3]; simp [s2]
  have b1' : Below w.heap.size w w1 := by rw [h1]; exact bl_alloc _ _
  have b2' : Below w1.heap.size w1 w2 := by rw [h2]; exact bl_alloc _ _
  have b3' : Below w2.heap.size w2 w3 := by rw [h3]; exact bl_alloc _ _
  have b4' : Below w3.heap.size w3 W := by rw [hW]; exact bl_alloc _ _
  have k1 := three_cells w a0 a1 a2 24
  have k2 := three_cells w1 b0 b1 b2 24
  have k3 := cell1_new w2 f t
  have k4 := three_cells w3 (.int .i64 0) (.int .i64 0) (.slice none 0 0) 24
  rw [← h1] at k1
  rw [← h2, s1] at k2
  rw [← h3, s2] at k3
  rw [← hW, s3] at k4
  have sW : W.heap.size = w.heap.size + 4 := by rw [hW]; simp [s3]
  clear_value W
  have b34 := below_via b3' b4'
  have b24 := below_via b2' b34
  exact ⟨⟨cell_stays b24 (k1 0 _ rfl).1, cell_stays b24 (k1 1 _ rfl).1, cell_stays b24 (k1 2 _ rfl).1⟩, ⟨cell_stays b34 (k2 0 _ rfl).1, cell_stays b34 (k2 1 _ rfl).1, cell_stays b34 (k2 2 _ rfl).1⟩, cell_stays b4' k3, k4, below_via b1' b24, sW⟩

/-- the sum's entries -/
def addE (A B : Nat → Int) (q : Nat) : Int := A q + B q

set_option maxHeartbeats 4000000 in
set_option maxRecDepth 100000 in
theorem place_add (R C S T : Nat) (sl sl' : Value) (A B : Nat → Int) (w : World) (hR : R ≤ 64) (hC : C ≤ 64) (hST : S + T + 1 ≤ 274877906944) (hr : RdE w sl (R * C) A) (hr' : RdE w sl' (R * C) B) (hA : ∀ q, q < R * C → ZB S (A q)) (hB : ∀ q, q < R * C → ZB T (B q)) :
    Calls Try.prog 111 #[.agg #[.int .i64 R, .int .i64 C, sl], .agg #[.int .i64 R, .int .i64 C, sl'], .func (.func 104) #[] #[]] w fun e w' => ∃ lb, e = .returned (.tuple #[.agg #[.int .i64 R, .int .i64 C, .slice (some ⟨lb, 0, none⟩) (R * C) (R * C)], .int .i64 0]) ∧
      FrE w' w.heap.size (fun b => b ≤ lb) lb (R * C) (addE A B) ∧ Below w.heap.size w w' := by
  have hK4 : R * C ≤ 4096 := Nat.mul_le_mul hR hC
  obtain ⟨a, cap, rfl, hcap⟩ := hr.slice
  obtain ⟨b, cap', rfl, hcap'⟩ := hr'.slice
  obtain ⟨⟨c0, c1, c2⟩, ⟨d0, d1, d2⟩, f0, hz, hBW, hsz⟩ := boxes4M w (.int .i64 R) (.int .i64 C) (.slice a (R * C) cap) (.int .i64 R) (.int .i64 C) (.slice b (R * C) cap') (.func (.func 104) #[] #[]) 57
  have hbd := fun (u : World) (hu : Below w.heap.size w u) (h0 : u.cell? ⟨w.heap.size + 1 + 1, 0, none⟩ = some (.func (.func 104) #[] #[])) (h1 : u.cell? ⟨w.heap.size, 1, none⟩ = some (.int .i64 C)) (h2 : u.cell? ⟨w.heap.size, 2, none⟩ = some (.slice a (R * C) cap)) (h3 : u.cell? ⟨w.heap.size + 1, 1, none⟩ = some (.int .i64 C)) (h4 : u.cell? ⟨w.heap.size + 1, 2, none⟩ = some (.slice b (R * C) cap')) =>
    build_place R C (.pointer (some ⟨w.heap.size + 1 + 1, 0, none⟩)) (.pointer (some ⟨w.heap.size, 0, none⟩)) (.pointer (some ⟨w.heap.size + 1, 0, none⟩)) (fun i j => A (i * C + j) + B (i * C + j)) hR hC u (fun i j hi hj => ((hA _ (idx_lt hi hj rfl).1).add (hB _ (idx_lt hi hj rfl).1)).mono hST)
      (fun W i j hW hi hj => place1_any (w.heap.size + 1 + 1) w.heap.size (w.heap.size + 1) R C i j _ _ A B W hR hC hi hj (cell_stays hW h0) (cell_stays hW h1) (cell_stays hW h2) (cell_stays hW h3) (cell_stays hW h4) ((hr.below hu).below hW) ((hr'.below hu).below hW))
  have hEq : ∀ q, q < R * C → A (q / C * C + q % C) + B (q / C * C + q % C) = addE A B q := fun q hq => by
    unfold addE; rw [Nat.mul_comm, Nat.div_add_mod]
  have hck := fun (q : Nat) (u : World) (h0 : u.cell? ⟨q, 0, none⟩ = some (.int .i64 R)) (h1 : u.cell? ⟨q, 1, none⟩ = some (.int .i64 C)) (h2 : u.cell? ⟨q, 2, none⟩ = some (.slice a (R * C) cap)) (h3 : u.cell? ⟨q, 3, none⟩ = some (.int .i64 R)) (h4 : u.cell? ⟨q, 4, none⟩ = some (.int .i64 C)) (h5 : u.cell? ⟨q, 5, none⟩ = some (.slice b (R * C) cap')) =>
    check_two q R C R C a b (R * C) (R * C) cap cap' (by omega) (by omega) u h0 h1 h2 h3 h4 h5
  rw [checkE_ok hR hC rfl] at hck
  generalize R * C = K at *
  have hmf : ∀ (fn : Fn) (first cap : Array Value) (w : World), (Instr.makeFunc fn first cap).run Try.prog w = .ok (.func fn first cap) w := fun fn first cap w => by rfl
  have HBD := Lib.hid hbd
  have HCK := Lib.hid hck
  have HB := Lib.hid hBW
  have HSZ := Lib.hid hsz
  have HEQ := Lib.hid hEq
  obtain ⟨z0, y0⟩ := hz 0 _ rfl
  obtain ⟨z1, y1⟩ := hz 1 _ rfl
  obtain ⟨z2, y2⟩ := hz 2 _ rfl
  clear hbd hck hBW hsz hz hr hr' hA hB hEq
  go_enter Try.func111, Try.ntmps111
  go_upto_region 1 with fail
  generalize (((w.alloc (.cells #[.int .i64 R, .int .i64 C, .slice a K cap] 24)).alloc (.cells #[.int .i64 R, .int .i64 C, .slice b K cap'] 24)).alloc (.cells #[.func (.func 104) #[] #[]] 57)).alloc (.cells #[.int .i64 0, .int .i64 0, .slice none 0 0] 24) = W at *
  have k6 := six_new W (.int .i64 R) (.int .i64 C) (.slice a K cap) (.int .i64 R) (.int .i64 C) (.slice b K cap') 24
  have hck2 := HCK.out W.heap.size _ (k6 0 _ rfl) (k6 1 _ rfl) (k6 2 _ rfl) (k6 3 _ rfl) (k6 4 _ rfl) (k6 5 _ rfl)
  rw [show chk2 0 0 = 0 from rfl] at hck2
  have HC2 := Lib.hid hck2
  have hba := bl_alloc W (.cells #[.int .i64 R, .int .i64 C, .slice a K cap, .int .i64 R, .int .i64 C, .slice b K cap'] 24)
  have HBA := Lib.hid hba
  clear k6 hck2 hba HCK
  go_wp2_with fail
  (refine HC2.out.mono ?_)
  rintro e w3 ⟨rfl, hb3⟩
  have hb4 := below_via HBA.out hb3
  have HB3 := Lib.hid (below_via HB.out hb4)
  have HS3 := Lib.hid (show w.heap.size + 4 ≤ w3.heap.size by have := HSZ.out; have := hb4.size; omega)
  replace y0 := froz_stays hb4 z0 y0
  replace y1 := froz_stays hb4 z1 y1
  replace y2 := froz_stays hb4 z2 y2
  replace z0 := cell_stays hb4 z0
  replace z1 := cell_stays hb4 z1
  replace z2 := cell_stays hb4 z2
  replace c0 := cell_stays hb4 c0
  replace c1 := cell_stays hb4 c1
  replace c2 := cell_stays hb4 c2
  replace d0 := cell_stays hb4 d0
  replace d1 := cell_stays hb4 d1
  replace d2 := cell_stays hb4 d2
  replace f0 := cell_stays hb4 f0
  clear hb3 hb4 HC2 HBA HB HSZ
  go_wp2_with fail
  (refine (HBD.out w3 HB3.out f0 c1 c2 d1 d2).mono ?_)
  rintro e w5 ⟨lb, rfl, hf, hb5⟩
  replace y0 := froz_stays hb5 z0 y0
  replace y1 := froz_stays hb5 z1 y1
  replace y2 := froz_stays hb5 z2 y2
  replace z0 := cell_stays hb5 z0
  replace z1 := cell_stays hb5 z1
  replace z2 := cell_stays hb5 z2
  obtain ⟨f1, f2⟩ := mat_fin (w := w) (b := w.heap.size + 1 + 1 + 1) (hf.congr HEQ.out) (by have := HS3.out; omega) (by omega) (below_via HB3.out hb5) (.int .i64 R) (.int .i64 C) (.slice (some ⟨lb, 0, none⟩) K K)
  have F1 := Lib.hid f1
  have F2 := Lib.hid f2
  clear hf hb5 f1 f2 HBD c0 c1 c2 d0 d1 d2 f0
  go_wp2_with fail
  refine bodyPost_ret (v := .tuple #[.agg #[.int .i64 R, .int .i64 C, .slice (some ⟨lb, 0, none⟩) K K], .int .i64 0]) ?_ rfl ⟨lb, rfl, F1.out, F2.out⟩
  simp [results, Try.results111, go_sem, z0, z1, z2]

set_option maxHeartbeats 4000000 in
set_option maxRecDepth 100000 in
theorem Add_good (R C S T : Nat) (sl sl' : Value) (A B : Nat → Int) (w : World) (hR : R ≤ 64) (hC : C ≤ 64) (hST : S + T + 1 ≤ 274877906944) (hr : RdE w sl (R * C) A) (hr' : RdE w sl' (R * C) B) (hA : ∀ q, q < R * C → ZB S (A q)) (hB : ∀ q, q < R * C → ZB T (B q)) :
    Calls Try.prog 45 #[.agg #[.int .i64 R, .int .i64 C, sl], .agg #[.int .i64 R, .int .i64 C, sl']] w fun e w' => ∃ lb, e = .returned (.tuple #[.agg #[.int .i64 R, .int .i64 C, .slice (some ⟨lb, 0, none⟩) (R * C) (R * C)], .int .i64 0]) ∧
      FrE w' w.heap.size (fun b => b ≤ lb) lb (R * C) (addE A B) ∧ Below w.heap.size w w' := by
  obtain ⟨a, cap, rfl, hcap⟩ := hr.slice
  obtain ⟨b, cap', rfl, hcap'⟩ := hr'.slice
  obtain ⟨⟨c0, c1, c2⟩, ⟨d0, d1, d2⟩, hz, hBW, hsz⟩ := boxes3M w (.int .i64 R) (.int .i64 C) (.slice a (R * C) cap) (.int .i64 R) (.int .i64 C) (.slice b (R * C) cap')
  have hpr := fun (u : World) (hu : Below w.heap.size w u) => place_add R C S T _ _ A B u hR hC hST (hr.below hu) (hr'.below hu) hA hB
  generalize R * C = K at *
  have HPR := Lib.hid hpr
  have HB := Lib.hid hBW
  have HSZ := Lib.hid hsz
  obtain ⟨z0, y0⟩ := hz 0 _ rfl
  obtain ⟨z1, y1⟩ := hz 1 _ rfl
  obtain ⟨z2, y2⟩ := hz 2 _ rfl
  clear hpr hBW hsz hz hr hr' hA hB
  go_enter Try.func45, Try.ntmps45
  go_upto_region 1 with fail
  generalize ((w.alloc (.cells #[.int .i64 R, .int .i64 C, .slice a K cap] 24)).alloc (.cells #[.int .i64 R, .int .i64 C, .slice b K cap'] 24)).alloc (.cells #[.int .i64 0, .int .i64 0, .slice none 0 0] 24) = W at *
  go_wp2_with fail
  (refine (HPR.out W HB.out).mono ?_)
  rintro e w5 ⟨lb, rfl, hf, hb5⟩
  replace y0 := froz_stays hb5 z0 y0
  replace y1 := froz_stays hb5 z1 y1
  replace y2 := froz_stays hb5 z2 y2
  replace z0 := cell_stays hb5 z0
  replace z1 := cell_stays hb5 z1
  replace z2 := cell_stays hb5 z2
  obtain ⟨f1, f2⟩ := mat_fin (w := w) (b := w.heap.size + 1 + 1) hf (by rw [HSZ.out]; omega) (by omega) (below_via HB.out hb5) (.int .i64 R) (.int .i64 C) (.slice (some ⟨lb, 0, none⟩) K K)
  have F1 := Lib.hid f1
  have F2 := Lib.hid f2
  clear hf hb5 f1 f2 HPR c0 c1 c2 d0 d1 d2
  go_wp2_with fail
  refine bodyPost_ret (v := .tuple #[.agg #[.int .i64 R, .int .i64 C, .slice (some ⟨lb, 0, none⟩) K K], .int .i64 0]) ?_ rfl ⟨lb, rfl, F1.out, F2.out⟩
  simp [results, Try.results45, go_sem, z0, z1, z2]

end Go.Proofs.Ytejliecmdkmgiaa

namespace Go.Proofs.Ytejliecmdkmgiaa
open Go.RowKit

theorem mulE_zb {A B : Nat → Int} {R K C S T : Nat} (hK : K ≤ 64) (hA : ∀ q, q < R * K → ZB S (A q)) (hB : ∀ q, q < K * C → ZB T (B q)) : ∀ q, q < R * C → ZB (S + T + 1) (mulE A B K C q) := fun q hq => by
  obtain ⟨h1, h2⟩ := idx_at hq
  exact psum_zb hK h1 h2 hA hB (Nat.le_refl _)

end Go.Proofs.Ytejliecmdkmgiaa
