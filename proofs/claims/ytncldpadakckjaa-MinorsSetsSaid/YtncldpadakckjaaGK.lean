/- The walks of mat.place with its closure, and of mat.Add. The walk of the law BareissProducts. Plain: ranks of products, of sums; full rank against the determinant. -/
import Derived.Test.YtncldpadakckjaaGJ
set_option linter.unusedVariables false
set_option linter.unusedSimpArgs false
namespace Go.Proofs.Ytncldpadakckjaa
open Go.RowKit

set_option maxHeartbeats 4000000 in
set_option maxRecDepth 100000 in
theorem place1_any (fb ab bb R C i j : Nat) (sl sl' : Value) (A B : Nat → Int) (w : World) (hR : R ≤ 64) (hC : C ≤ 64) (hi : i < R) (hj : j < C)
    (f0 : w.cell? ⟨fb, 0, none⟩ = some (.func (.func 55) #[] #[])) (c1 : w.cell? ⟨ab, 1, none⟩ = some (.int .i64 C)) (c2 : w.cell? ⟨ab, 2, none⟩ = some sl) (d1 : w.cell? ⟨bb, 1, none⟩ = some (.int .i64 C)) (d2 : w.cell? ⟨bb, 2, none⟩ = some sl') (hr : RdE w sl (R * C) A) (hr' : RdE w sl' (R * C) B) :
    Calls Try.prog 97 #[.int .i64 i, .int .i64 j, .pointer (some ⟨fb, 0, none⟩), .pointer (some ⟨ab, 0, none⟩), .pointer (some ⟨bb, 0, none⟩)] w fun e w' => ∃ v, e = .returned v ∧ FrZ w' w.heap.size v (A (i * C + j) + B (i * C + j)) ∧ Below w.heap.size w w' := by
  have hK4 : R * C ≤ 4096 := Nat.mul_le_mul hR hC
  obtain ⟨a, cap, rfl, hcap⟩ := hr.slice
  obtain ⟨b, cap', rfl, hcap'⟩ := hr'.slice
  obtain ⟨p, hp⟩ : ∃ p, p = i * C + j := ⟨_, rfl⟩
  obtain ⟨hpK, hpe⟩ := idx_lt hi hj hp
  rw [← hp]
  have hba := bl_alloc w (.cells #[.bool false, .slice none 0 0] 42)
  obtain ⟨z0, z1, y0, y1⟩ := two_cells w (.bool false) (.slice none 0 0) 42
  have hsz : (w.alloc (.cells #[.bool false, .slice none 0 0] 42)).heap.size = w.heap.size + 1 := by simp
  replace f0 := cell_stays hba f0
  replace c1 := cell_stays hba c1
  replace c2 := cell_stays hba c2
  replace d1 := cell_stays hba d1
  replace d2 := cell_stays hba d2
  obtain ⟨ba, oa, sa, ma, rfl, a0, a1, hza⟩ := (hr.below hba).get hpK
  obtain ⟨bb', ob, sb, mb, rfl, b0, b1, hzb⟩ := (hr'.below hba).get hpK
  obtain ⟨ama, ana, aca, rfl⟩ := hza.agg
  obtain ⟨amb, anb, acb, rfl⟩ := hzb.agg
  have m0 : 0 ≤ (i : Int) * C := Int.mul_nonneg (by omega) (by omega)
  have m1 : (i : Int) * C ≤ 4096 := by omega
  have hpI : (p : Int) < ((R * C : Nat) : Int) := by exact_mod_cast hpK
  have wi1 : IntKind.i64.wrap ((i : Int) * C) = (i : Int) * C := IntWalk.i64_in _ (by omega)
  have wi2 : IntKind.i64.wrap ((i : Int) * C + j) = (p : Int) := by rw [hpe]; exact IntWalk.i64_in _ (by omega)
  have hma := zAdd_any _ _ (A p) (B p) (w.alloc (.cells #[.bool false, .slice none 0 0] 42)).drew (hza.below (bl_drew _)) (hzb.below (bl_drew _))
  obtain ⟨D, hD⟩ : ∃ D, D = A p + B p := ⟨_, rfl⟩
  rw [← hD] at hma ⊢
  have HMA := Lib.hid hma
  clear hD
  have HB := Lib.hid (below_via hba (bl_drew _))
  have HS := Lib.hid hsz
  generalize R * C = K at *
  clear hma hza hzb hba hp hpe hr hr' hsz
  go_enter Try.func97, Try.ntmps97
  go_upto_region 1 with fail
  generalize w.alloc (.cells #[.bool false, .slice none 0 0] 42) = W at *
  refine wp_region_still_tail 21 (by kernel_rfl) (by kernel_rfl) ?_
  simp only [List.take_succ_cons, List.take_zero, List.drop_succ_cons, List.drop_zero]
  repeat still_step
  refine wpStill_nil ?_
  change wpList _ _ _ _ _ W.drew
  replace z0 := cell_stays (bl_drew W) z0
  replace z1 := cell_stays (bl_drew W) z1
  have u0 : W.drew.frozen? ⟨w.heap.size, 0, none⟩ = false := y0
  have u1 : W.drew.frozen? ⟨w.heap.size, 1, none⟩ = false := y1
  have hs2 : W.drew.heap.size = w.heap.size + 1 := HS.out
  clear a0 a1 b0 b1 c1 c2 d1 d2 f0 y0 y1 wi1 wi2 HS
  generalize W.drew = w4 at *
  go_wp2_with fail
  (refine HMA.out.mono ?_)
  rintro e w5 ⟨v, rfl, hf5, hb5⟩
  replace u0 := froz_stays hb5 z0 u0
  replace u1 := froz_stays hb5 z1 u1
  replace z0 := cell_stays hb5 z0
  replace z1 := cell_stays hb5 z1
  obtain ⟨am5, an5, ac5, rfl, f1, f2⟩ := det_fin (b := w.heap.size) (w := w) hf5 (by omega) (Nat.le_refl _) (below_via HB.out hb5)
  have F1 := Lib.hid f1
  have F2 := Lib.hid f2
  clear hf5 hb5 f1 f2 HMA HB
  go_wp2_with fail
  refine bodyPost_ret (v := .agg #[.bool (decide (D < 0)), .slice am5 an5 ac5]) ?_ rfl ⟨_, rfl, F1.out, F2.out⟩
  simp [results, Try.results97, go_sem, z0, z1]

/-- boxes of two matrices, of a function, and where the answer will lie -/
theorem boxes4M (w : World) (a0 a1 a2 b0 b1 b2 f : Value) (t : TypeId) :
    let W := (((w.alloc (.cells #[a0, a1, a2] 24)).alloc (.cells #[b0, b1, b2] 24)).alloc (.cells #[f] t)).alloc (.cells #[.int .i64 0, .int .i64 0, .slice none 0 0] 24)
    (W.cell? ⟨w.heap.size, 0, none⟩ = some a0 ∧ W.cell? ⟨w.heap.size, 1, none⟩ = some a1 ∧ W.cell? ⟨w.heap.size, 2, none⟩ = some a2) ∧
    (W.cell? ⟨w.heap.size + 1, 0, none⟩ = some b0 ∧ W.cell? ⟨w.heap.size + 1, 1, none⟩ = some b1 ∧ W.cell? ⟨w.heap.size + 1, 2, none⟩ = some b2) ∧ W.cell? ⟨w.heap.size + 1 + 1, 0, none⟩ = some f ∧
    (∀ i y, [Value.int .i64 0, .int .i64 0, .slice none 0 0][i]? = some y → W.cell? ⟨w.heap.size + 1 + 1 + 1, i, none⟩ = some y ∧ W.frozen? ⟨w.heap.size + 1 + 1 + 1, i, none⟩ = false) ∧
    Below w.heap.size w W ∧ W.heap.size = w.heap.size + 4 := by
  intro W
  obtain ⟨w1, h1⟩ : ∃ w1, w1 = w.alloc (.cells #[a0, a1, a2] 24) := ⟨_, rfl⟩
  obtain ⟨w2, h2⟩ : ∃ w2, w2 = w1.alloc (.cells #[b0, b1, b2] 24) := ⟨_, rfl⟩
  obtain ⟨w3, h3⟩ : ∃ w3, w3 = w2.alloc (.cells #[f] t) := ⟨_, rfl⟩
  have hW : W = w3.alloc (.cells #[.int .i64 0, .int .i64 0, .slice none 0 0] 24) := by rw [h3, h2, h1]
  have s1 : w1.heap.size = w.heap.size + 1 := by rw [h1]; simp
  have s2 : w2.heap.size = w.heap.size + 1 + 1 := by rw [h2]; simp [s1]
  have s3 : w3.heap.size = w.heap.size + 1 + 1 + 1 := by rw [h3]; simp [s2]
  have b1' : Below w.heap.size w w1 := by rw [h1]; exact bl_alloc _ _
  have b2' : Below w1.heap.size w1 w2 := by rw [h2]; exact bl_alloc _ _
  have b3' : Below w2.heap.size w2 w3 := by rw [h3]; exact bl_alloc _ _
  have b4' : Below w3.heap.size w3 W := by rw [hW]; exact bl_alloc _ _
  have k1 := three_cells w a0 a1 a2 24
  have k2 := three_cells w1 b0 b1 b2 24
  have k3 := cell1_new w2 f t
  have k4 := three_cells w3 (.int .i64 0) (.int .i64 0) (.slice none 0 0) 24
  rw [← h1] at k1
  rw [← h2, s1] at k2
  rw [← h3, s2] at k3
  rw [← hW, s3] at k4
  have sW : W.heap.size = w.heap.size + 4 := by rw [hW]; simp [s3]
  clear_value W
  have b34 := below_via b3' b4'
  have b24 := below_via b2' b34
  exact ⟨⟨cell_stays b24 (k1 0 _ rfl).1, cell_stays b24 (k1 1 _ rfl).1, cell_stays b24 (k1 2 _ rfl).1⟩, ⟨cell_stays b34 (k2 0 _ rfl).1, cell_stays b34 (k2 1 _ rfl).1, cell_stays b34 (k2 2 _ rfl).1⟩, cell_stays b4' k3, k4, below_via b1' b24, sW⟩

/-- the sum's entries -/
def addE (A B : Nat → Int) (q : Nat) : Int := A q + B q

set_option maxHeartbeats 4000000 in
set_option maxRecDepth 100000 in
theorem place_add (R C S T : Nat) (sl sl' : Value) (A B : Nat → Int) (w : World) (hR : R ≤ 64) (hC : C ≤ 64) (hST : S + T + 1 ≤ 274877906944) (hr : RdE w sl (R * C) A) (hr' : RdE w sl' (R * C) B) (hA : ∀ q, q < R * C → ZB S (A q)) (hB : ∀ q, q < R * C → ZB T (B q)) :
    Calls Try.prog 69 #[.agg #[.int .i64 R, .int .i64 C, sl], .agg #[.int .i64 R, .int .i64 C, sl'], .func (.func 55) #[] #[]] w fun e w' => ∃ lb, e = .returned (.tuple #[.agg #[.int .i64 R, .int .i64 C, .slice (some ⟨lb, 0, none⟩) (R * C) (R * C)], .int .i64 0]) ∧
      FrE w' w.heap.size (fun b => b ≤ lb) lb (R * C) (addE A B) ∧ Below w.heap.size w w' := by
  have hK4 : R * C ≤ 4096 := Nat.mul_le_mul hR hC
  obtain ⟨a, cap, rfl, hcap⟩ := hr.slice
  obtain ⟨b, cap', rfl, hcap'⟩ := hr'.slice
  obtain ⟨⟨c0, c1, c2⟩, ⟨d0, d1, d2⟩, f0, hz, hBW, hsz⟩ := boxes4M w (.int .i64 R) (.int .i64 C) (.slice a (R * C) cap) (.int .i64 R) (.int .i64 C) (.slice b (R * C) cap') (.func (.func 55) #[] #[]) 77
  have hbd := fun (u : World) (hu : Below w.heap.size w u) (h0 : u.cell? ⟨w.heap.size + 1 + 1, 0, none⟩ = some (.func (.func 55) #[] #[])) (h1 : u.cell? ⟨w.heap.size, 1, none⟩ = some (.int .i64 C)) (h2 : u.cell? ⟨w.heap.size, 2, none⟩ = some (.slice a (R * C) cap)) (h3 : u.cell? ⟨w.heap.size + 1, 1, none⟩ = some (.int .i64 C)) (h4 : u.cell? ⟨w.heap.size + 1, 2, none⟩ = some (.slice b (R * C) cap')) =>
    build_place R C (.pointer (some ⟨w.heap.size + 1 + 1, 0, none⟩)) (.pointer (some ⟨w.heap.size, 0, none⟩)) (.pointer (some ⟨w.heap.size + 1, 0, none⟩)) (fun i j => A (i * C + j) + B (i * C + j)) hR hC u (fun i j hi hj => ((hA _ (idx_lt hi hj rfl).1).add (hB _ (idx_lt hi hj rfl).1)).mono hST)
      (fun W i j hW hi hj => place1_any (w.heap.size + 1 + 1) w.heap.size (w.heap.size + 1) R C i j _ _ A B W hR hC hi hj (cell_stays hW h0) (cell_stays hW h1) (cell_stays hW h2) (cell_stays hW h3) (cell_stays hW h4) ((hr.below hu).below hW) ((hr'.below hu).below hW))
  have hEq : ∀ q, q < R * C → A (q / C * C + q % C) + B (q / C * C + q % C) = addE A B q := fun q hq => by
    unfold addE; rw [Nat.mul_comm, Nat.div_add_mod]
  have hck := fun (q : Nat) (u : World) (h0 : u.cell? ⟨q, 0, none⟩ = some (.int .i64 R)) (h1 : u.cell? ⟨q, 1, none⟩ = some (.int .i64 C)) (h2 : u.cell? ⟨q, 2, none⟩ = some (.slice a (R * C) cap)) (h3 : u.cell? ⟨q, 3, none⟩ = some (.int .i64 R)) (h4 : u.cell? ⟨q, 4, none⟩ = some (.int .i64 C)) (h5 : u.cell? ⟨q, 5, none⟩ = some (.slice b (R * C) cap')) =>
    check_two q R C R C a b (R * C) (R * C) cap cap' (by omega) (by omega) u h0 h1 h2 h3 h4 h5
  rw [checkE_ok hR hC rfl] at hck
  generalize R * C = K at *
  have hmf : ∀ (fn : Fn) (first cap : Array Value) (w : World), (Instr.makeFunc fn first cap).run Try.prog w = .ok (.func fn first cap) w := fun fn first cap w => by rfl
  have HBD := Lib.hid hbd
  have HCK := Lib.hid hck
  have HB := Lib.hid hBW
  have HSZ := Lib.hid hsz
  have HEQ := Lib.hid hEq
  obtain ⟨z0, y0⟩ := hz 0 _ rfl
  obtain ⟨z1, y1⟩ := hz 1 _ rfl
  obtain ⟨z2, y2⟩ := hz 2 _ rfl
  clear hbd hck hBW hsz hz hr hr' hA hB hEq
  go_enter Try.func69, Try.ntmps69
  go_upto_region 1 with fail
  generalize (((w.alloc (.cells #[.int .i64 R, .int .i64 C, .slice a K cap] 24)).alloc (.cells #[.int .i64 R, .int .i64 C, .slice b K cap'] 24)).alloc (.cells #[.func (.func 55) #[] #[]] 77)).alloc (.cells #[.int .i64 0, .int .i64 0, .slice none 0 0] 24) = W at *
  have k6 := six_new W (.int .i64 R) (.int .i64 C) (.slice a K cap) (.int .i64 R) (.int .i64 C) (.slice b K cap') 24
  have hck2 := HCK.out W.heap.size _ (k6 0 _ rfl) (k6 1 _ rfl) (k6 2 _ rfl) (k6 3 _ rfl) (k6 4 _ rfl) (k6 5 _ rfl)
  rw [show chk2 0 0 = 0 from rfl] at hck2
  have HC2 := Lib.hid hck2
  have hba := bl_alloc W (.cells #[.int .i64 R, .int .i64 C, .slice a K cap, .int .i64 R, .int .i64 C, .slice b K cap'] 24)
  have HBA := Lib.hid hba
  clear k6 hck2 hba HCK
  go_wp2_with fail
  (refine HC2.out.mono ?_)
  rintro e w3 ⟨rfl, hb3⟩
  have hb4 := below_via HBA.out hb3
  have HB3 := Lib.hid (below_via HB.out hb4)
  have HS3 := Lib.hid (show w.heap.size + 4 ≤ w3.heap.size by have := HSZ.out; have := hb4.size; omega)
  replace y0 := froz_stays hb4 z0 y0
  replace y1 := froz_stays hb4 z1 y1
  replace y2 := froz_stays hb4 z2 y2
  replace z0 := cell_stays hb4 z0
  replace z1 := cell_stays hb4 z1
  replace z2 := cell_stays hb4 z2
  replace c0 := cell_stays hb4 c0
  replace c1 := cell_stays hb4 c1
  replace c2 := cell_stays hb4 c2
  replace d0 := cell_stays hb4 d0
  replace d1 := cell_stays hb4 d1
  replace d2 := cell_stays hb4 d2
  replace f0 := cell_stays hb4 f0
  clear hb3 hb4 HC2 HBA HB HSZ
  go_wp2_with fail
  (refine (HBD.out w3 HB3.out f0 c1 c2 d1 d2).mono ?_)
  rintro e w5 ⟨lb, rfl, hf, hb5⟩
  replace y0 := froz_stays hb5 z0 y0
  replace y1 := froz_stays hb5 z1 y1
  replace y2 := froz_stays hb5 z2 y2
  replace z0 := cell_stays hb5 z0
  replace z1 := cell_stays hb5 z1
  replace z2 := cell_stays hb5 z2
  obtain ⟨f1, f2⟩ := mat_fin (w := w) (b := w.heap.size + 1 + 1 + 1) (hf.congr HEQ.out) (by have := HS3.out; omega) (by omega) (below_via HB3.out hb5) (.int .i64 R) (.int .i64 C) (.slice (some ⟨lb, 0, none⟩) K K)
  have F1 := Lib.hid f1
  have F2 := Lib.hid f2
  clear hf hb5 f1 f2 HBD c0 c1 c2 d0 d1 d2 f0
  go_wp2_with fail
  refine bodyPost_ret (v := .tuple #[.agg #[.int .i64 R, .int .i64 C, .slice (some ⟨lb, 0, none⟩) K K], .int .i64 0]) ?_ rfl ⟨lb, rfl, F1.out, F2.out⟩
  simp [results, Try.results69, go_sem, z0, z1, z2]

set_option maxHeartbeats 4000000 in
set_option maxRecDepth 100000 in
/-- unsound, or not of one shape -/
theorem place_not (f : Value) (hf1 : f.oneCell' = true) (r c r' c' : Int) (a b : Option Addr) (n n' cap cap' : Nat) (hn : n ≤ 17592186044416) (hn' : n' ≤ 17592186044416) (E : Int) (h : (chk2 (checkE r c n) (checkE r' c' n') = 1 ∧ E = 1) ∨ (chk2 (checkE r c n) (checkE r' c' n') = 0 ∧ ¬ (r = r' ∧ c = c') ∧ E = 2)) (w : World) :
    Calls Try.prog 69 #[.agg #[.int .i64 r, .int .i64 c, .slice a n cap], .agg #[.int .i64 r', .int .i64 c', .slice b n' cap'], .func (.func 55) #[] #[]] w fun e w' => e = .returned (.tuple #[.agg #[.int .i64 0, .int .i64 0, .slice none 0 0], .int .i64 E]) ∧ Below w.heap.size w w' := by
  obtain ⟨⟨c0, c1, c2⟩, ⟨d0, d1, d2⟩, f0, hz, hBW, hsz⟩ := boxes4M w (.int .i64 r) (.int .i64 c) (.slice a n cap) (.int .i64 r') (.int .i64 c') (.slice b n' cap') (.func (.func 55) #[] #[]) 77
  have hck := fun (q : Nat) (u : World) (h0 : u.cell? ⟨q, 0, none⟩ = some (.int .i64 r)) (h1 : u.cell? ⟨q, 1, none⟩ = some (.int .i64 c)) (h2 : u.cell? ⟨q, 2, none⟩ = some (.slice a n cap)) (h3 : u.cell? ⟨q, 3, none⟩ = some (.int .i64 r')) (h4 : u.cell? ⟨q, 4, none⟩ = some (.int .i64 c')) (h5 : u.cell? ⟨q, 5, none⟩ = some (.slice b n' cap')) =>
    check_two q r c r' c' a b n n' cap cap' hn hn' u h0 h1 h2 h3 h4 h5
  obtain ⟨K, hK⟩ : ∃ K, K = chk2 (checkE r c n) (checkE r' c' n') := ⟨_, rfl⟩
  rw [← hK] at h
  simp only [← hK] at hck
  have HCK := Lib.hid hck
  have HB := Lib.hid hBW
  have HSZ := Lib.hid hsz
  have HH := Lib.hid h
  obtain ⟨z0, y0⟩ := hz 0 _ rfl
  obtain ⟨z1, y1⟩ := hz 1 _ rfl
  obtain ⟨z2, y2⟩ := hz 2 _ rfl
  clear hck hBW hsz hz hK h f0
  go_enter Try.func69, Try.ntmps69
  go_upto_region 1 with fail
  generalize (((w.alloc (.cells #[.int .i64 r, .int .i64 c, .slice a n cap] 24)).alloc (.cells #[.int .i64 r', .int .i64 c', .slice b n' cap'] 24)).alloc (.cells #[.func (.func 55) #[] #[]] 77)).alloc (.cells #[.int .i64 0, .int .i64 0, .slice none 0 0] 24) = W at *
  have k6 := six_new W (.int .i64 r) (.int .i64 c) (.slice a n cap) (.int .i64 r') (.int .i64 c') (.slice b n' cap') 24
  have hck2 := HCK.out W.heap.size _ (k6 0 _ rfl) (k6 1 _ rfl) (k6 2 _ rfl) (k6 3 _ rfl) (k6 4 _ rfl) (k6 5 _ rfl)
  have HC2 := Lib.hid hck2
  have hba := bl_alloc W (.cells #[.int .i64 r, .int .i64 c, .slice a n cap, .int .i64 r', .int .i64 c', .slice b n' cap'] 24)
  have HBA := Lib.hid hba
  clear k6 hck2 hba HCK
  go_wp2_with fail
  (refine HC2.out.mono ?_)
  rintro e w3 ⟨rfl, hb3⟩
  have hb4 := below_via HBA.out hb3
  have HB3 := Lib.hid (below_via HB.out hb4)
  replace y0 := froz_stays hb4 z0 y0
  replace y1 := froz_stays hb4 z1 y1
  replace y2 := froz_stays hb4 z2 y2
  replace z0 := cell_stays hb4 z0
  replace z1 := cell_stays hb4 z1
  replace z2 := cell_stays hb4 z2
  replace c0 := cell_stays hb4 c0
  replace c1 := cell_stays hb4 c1
  replace d0 := cell_stays hb4 d0
  replace d1 := cell_stays hb4 d1
  have hg := stored3_gb w3 (w.heap.size + 1 + 1 + 1) (.int .i64 0) (.int .i64 0) (.slice none 0 0)
  have hbl := HB3.out.grown hg HB3.out.size (fun k hk => by injection hk with hk; omega)
  have HBL := Lib.hid hbl
  clear hb3 hb4 HC2 HBA HB HSZ hg hbl c2 d2
  rcases HH.out with ⟨rfl, rfl⟩ | ⟨rfl, hne, rfl⟩
  · go_wp2_with fail
    refine bodyPost_ret (v := .tuple #[.agg #[.int .i64 0, .int .i64 0, .slice none 0 0], .int .i64 1]) ?_ rfl ⟨rfl, HBL.out⟩
    simp [results, Try.results69, go_sem, z0, z1, z2]
  · by_cases hr : r = r'
    · have hr' : (r != r') = false := by rw [bne_eq_false_iff_eq]; exact hr
      have hc' : (c != c') = true := by rw [bne_iff_ne]; exact fun e => hne ⟨hr, e⟩
      clear hne hr
      go_wp2_with fail
      refine bodyPost_ret (v := .tuple #[.agg #[.int .i64 0, .int .i64 0, .slice none 0 0], .int .i64 2]) ?_ rfl ⟨rfl, HBL.out⟩
      simp [results, Try.results69, go_sem, z0, z1, z2]
    · have hr' : (r != r') = true := by rw [bne_iff_ne]; exact hr
      clear hne hr
      go_wp2_with fail
      refine bodyPost_ret (v := .tuple #[.agg #[.int .i64 0, .int .i64 0, .slice none 0 0], .int .i64 2]) ?_ rfl ⟨rfl, HBL.out⟩
      simp [results, Try.results69, go_sem, z0, z1, z2]

set_option maxHeartbeats 4000000 in
set_option maxRecDepth 100000 in
theorem Add_good (R C S T : Nat) (sl sl' : Value) (A B : Nat → Int) (w : World) (hR : R ≤ 64) (hC : C ≤ 64) (hST : S + T + 1 ≤ 274877906944) (hr : RdE w sl (R * C) A) (hr' : RdE w sl' (R * C) B) (hA : ∀ q, q < R * C → ZB S (A q)) (hB : ∀ q, q < R * C → ZB T (B q)) :
    Calls Try.prog 26 #[.agg #[.int .i64 R, .int .i64 C, sl], .agg #[.int .i64 R, .int .i64 C, sl']] w fun e w' => ∃ lb, e = .returned (.tuple #[.agg #[.int .i64 R, .int .i64 C, .slice (some ⟨lb, 0, none⟩) (R * C) (R * C)], .int .i64 0]) ∧
      FrE w' w.heap.size (fun b => b ≤ lb) lb (R * C) (addE A B) ∧ Below w.heap.size w w' := by
  obtain ⟨a, cap, rfl, hcap⟩ := hr.slice
  obtain ⟨b, cap', rfl, hcap'⟩ := hr'.slice
  obtain ⟨⟨c0, c1, c2⟩, ⟨d0, d1, d2⟩, hz, hBW, hsz⟩ := boxes3M w (.int .i64 R) (.int .i64 C) (.slice a (R * C) cap) (.int .i64 R) (.int .i64 C) (.slice b (R * C) cap')
  have hpr := fun (u : World) (hu : Below w.heap.size w u) => place_add R C S T _ _ A B u hR hC hST (hr.below hu) (hr'.below hu) hA hB
  generalize R * C = K at *
  have HPR := Lib.hid hpr
  have HB := Lib.hid hBW
  have HSZ := Lib.hid hsz
  obtain ⟨z0, y0⟩ := hz 0 _ rfl
  obtain ⟨z1, y1⟩ := hz 1 _ rfl
  obtain ⟨z2, y2⟩ := hz 2 _ rfl
  clear hpr hBW hsz hz hr hr' hA hB
  go_enter Try.func26, Try.ntmps26
  go_upto_region 1 with fail
  generalize ((w.alloc (.cells #[.int .i64 R, .int .i64 C, .slice a K cap] 24)).alloc (.cells #[.int .i64 R, .int .i64 C, .slice b K cap'] 24)).alloc (.cells #[.int .i64 0, .int .i64 0, .slice none 0 0] 24) = W at *
  go_wp2_with fail
  (refine (HPR.out W HB.out).mono ?_)
  rintro e w5 ⟨lb, rfl, hf, hb5⟩
  replace y0 := froz_stays hb5 z0 y0
  replace y1 := froz_stays hb5 z1 y1
  replace y2 := froz_stays hb5 z2 y2
  replace z0 := cell_stays hb5 z0
  replace z1 := cell_stays hb5 z1
  replace z2 := cell_stays hb5 z2
  obtain ⟨f1, f2⟩ := mat_fin (w := w) (b := w.heap.size + 1 + 1) hf (by rw [HSZ.out]; omega) (by omega) (below_via HB.out hb5) (.int .i64 R) (.int .i64 C) (.slice (some ⟨lb, 0, none⟩) K K)
  have F1 := Lib.hid f1
  have F2 := Lib.hid f2
  clear hf hb5 f1 f2 HPR c0 c1 c2 d0 d1 d2
  go_wp2_with fail
  refine bodyPost_ret (v := .tuple #[.agg #[.int .i64 R, .int .i64 C, .slice (some ⟨lb, 0, none⟩) K K], .int .i64 0]) ?_ rfl ⟨lb, rfl, F1.out, F2.out⟩
  simp [results, Try.results26, go_sem, z0, z1, z2]

set_option maxHeartbeats 4000000 in
set_option maxRecDepth 100000 in
theorem Add_not (r c r' c' : Int) (a b : Option Addr) (n n' cap cap' : Nat) (hn : n ≤ 17592186044416) (hn' : n' ≤ 17592186044416) (E : Int) (h : (chk2 (checkE r c n) (checkE r' c' n') = 1 ∧ E = 1) ∨ (chk2 (checkE r c n) (checkE r' c' n') = 0 ∧ ¬ (r = r' ∧ c = c') ∧ E = 2)) (w : World) :
    Calls Try.prog 26 #[.agg #[.int .i64 r, .int .i64 c, .slice a n cap], .agg #[.int .i64 r', .int .i64 c', .slice b n' cap']] w fun e w' => e = .returned (.tuple #[.agg #[.int .i64 0, .int .i64 0, .slice none 0 0], .int .i64 E]) ∧ Below w.heap.size w w' := by
  obtain ⟨⟨c0, c1, c2⟩, ⟨d0, d1, d2⟩, hz, hBW, hsz⟩ := boxes3M w (.int .i64 r) (.int .i64 c) (.slice a n cap) (.int .i64 r') (.int .i64 c') (.slice b n' cap')
  have hpr := fun (u : World) => place_not (.func (.func 55) #[] #[]) rfl r c r' c' a b n n' cap cap' hn hn' E h u
  have HPR := Lib.hid hpr
  have HB := Lib.hid hBW
  obtain ⟨z0, y0⟩ := hz 0 _ rfl
  obtain ⟨z1, y1⟩ := hz 1 _ rfl
  obtain ⟨z2, y2⟩ := hz 2 _ rfl
  clear hpr hBW hsz hz h
  go_enter Try.func26, Try.ntmps26
  go_upto_region 1 with fail
  generalize ((w.alloc (.cells #[.int .i64 r, .int .i64 c, .slice a n cap] 24)).alloc (.cells #[.int .i64 r', .int .i64 c', .slice b n' cap'] 24)).alloc (.cells #[.int .i64 0, .int .i64 0, .slice none 0 0] 24) = W at *
  go_wp2_with fail
  (refine (HPR.out W).mono ?_)
  rintro e w5 ⟨rfl, hb5⟩
  replace y0 := froz_stays hb5 z0 y0
  replace y1 := froz_stays hb5 z1 y1
  replace y2 := froz_stays hb5 z2 y2
  replace z0 := cell_stays hb5 z0
  replace z1 := cell_stays hb5 z1
  replace z2 := cell_stays hb5 z2
  have hg := stored3_gb w5 (w.heap.size + 1 + 1) (.int .i64 0) (.int .i64 0) (.slice none 0 0)
  have hb6 := below_via HB.out hb5
  have HBL := Lib.hid (hb6.grown hg hb6.size (fun k hk => by injection hk with hk; omega))
  clear hb5 hb6 hg HPR c0 c1 c2 d0 d1 d2
  go_wp2_with fail
  refine bodyPost_ret (v := .tuple #[.agg #[.int .i64 0, .int .i64 0, .slice none 0 0], .int .i64 E]) ?_ rfl ⟨rfl, HBL.out⟩
  simp [results, Try.results26, go_sem, z0, z1, z2]
end Go.Proofs.Ytncldpadakckjaa

namespace Go.Proofs.Ytncldpadakckjaa
open Go.RowKit

theorem boxes2M (w : World) (a0 a1 a2 b0 b1 b2 : Value) :
    let W := (w.alloc (.cells #[a0, a1, a2] 24)).alloc (.cells #[b0, b1, b2] 24)
    (W.cell? ⟨w.heap.size, 0, none⟩ = some a0 ∧ W.cell? ⟨w.heap.size, 1, none⟩ = some a1 ∧ W.cell? ⟨w.heap.size, 2, none⟩ = some a2) ∧
    (W.cell? ⟨w.heap.size + 1, 0, none⟩ = some b0 ∧ W.cell? ⟨w.heap.size + 1, 1, none⟩ = some b1 ∧ W.cell? ⟨w.heap.size + 1, 2, none⟩ = some b2) ∧ Below w.heap.size w W := by
  intro W
  obtain ⟨w1, h1⟩ : ∃ w1, w1 = w.alloc (.cells #[a0, a1, a2] 24) := ⟨_, rfl⟩
  have hW : W = w1.alloc (.cells #[b0, b1, b2] 24) := by rw [h1]
  have s1 : w1.heap.size = w.heap.size + 1 := by rw [h1]; simp
  have b1' : Below w.heap.size w w1 := by rw [h1]; exact bl_alloc _ _
  have b2' : Below w1.heap.size w1 W := by rw [hW]; exact bl_alloc _ _
  have k1 := three_cells w a0 a1 a2 24
  have k2 := three_cells w1 b0 b1 b2 24
  rw [← h1] at k1
  rw [← hW, s1] at k2
  clear_value W
  exact ⟨⟨cell_stays b2' (k1 0 _ rfl).1, cell_stays b2' (k1 1 _ rfl).1, cell_stays b2' (k1 2 _ rfl).1⟩, ⟨(k2 0 _ rfl).1, (k2 1 _ rfl).1, (k2 2 _ rfl).1⟩, below_via b1' b2'⟩

theorem leadD_zb {A : Nat → Int} {R S : Nat} (hA : ∀ q, q < R * R → ZB S (A q)) (hR : R ≤ 64) {k : Nat} (hk : k ≤ R) : ZB (64 * (S + 1) + 1) (leadD A R k) := by
  have h : ZB (k * (S + 1) + 1) (leadD A R k) := dtZ_zb k _ (by omega) fun i j hi hj => hA _ (idx_lt (show i < R by omega) (show j < R by omega) rfl).1
  exact h.mono (by have := Nat.mul_le_mul_right (S + 1) (show k ≤ 64 by omega); omega)
theorem leadD_all (A : Nat → Int) (R : Nat) : laZ.dt R (fun i j => A (i * R + j)) = leadD A R R := rfl
theorem cmpZ_self (a : Int) : cmpZ a a = 0 := by unfold cmpZ; rw [if_neg (by omega), if_neg (by omega)]
theorem zCmp_eq (x y : Value) (a : Int) (w : World) (hx : RdZ w x a) (hy : RdZ w y a) :
    Calls Try.prog 37 #[x, y] w fun e w' => e = .returned (.int .i64 0) ∧ Below w.heap.size w w' := by
  have h := zCmp_any x y a a w hx hy
  rw [cmpZ_self] at h
  exact h

/-- the transpose's entries -/
def turnE (A : Nat → Int) (R C q : Nat) : Int := A (q % R * C + q / R)
theorem turnE_det (A : Nat → Int) (R : Nat) : leadD (turnE A R R) R R = leadD A R R := by
  show laZ.dt R (fun i j => turnE A R R (i * R + j)) = laZ.dt R (fun i j => A (i * R + j))
  rw [← dtZ_turn R (fun i j => A (i * R + j))]
  exact laZ.dt_congr fun i j _ hj => turn_idx A hj
theorem turnE_zb {A : Nat → Int} {R S : Nat} (hA : ∀ q, q < R * R → ZB S (A q)) : ∀ q, q < R * R → ZB S (turnE A R R q) := fun q hq => by
  obtain ⟨h1, h2⟩ := idx_at hq
  exact hA _ (idx_lt h2 h1 rfl).1
theorem mulE_det (A B : Nat → Int) (R : Nat) : leadD (mulE A B R R) R R = leadD A R R * leadD B R R := by
  show laZ.dt R (fun i j => mulE A B R R (i * R + j)) = laZ.dt R (fun i j => A (i * R + j)) * laZ.dt R (fun i j => B (i * R + j))
  rw [← dtZ_mul]
  refine laZ.dt_congr fun i j _ hj => ?_
  obtain ⟨h1, h2⟩ := idx_dm (i := i) hj
  show psum A B R R ((i * R + j) / R) ((i * R + j) % R) R = _
  rw [h1, h2]; rfl
theorem mulE_zb {A B : Nat → Int} {R K C S T : Nat} (hK : K ≤ 64) (hA : ∀ q, q < R * K → ZB S (A q)) (hB : ∀ q, q < K * C → ZB T (B q)) : ∀ q, q < R * C → ZB (S + T + 1) (mulE A B K C q) := fun q hq => by
  obtain ⟨h1, h2⟩ := idx_at hq
  exact psum_zb hK h1 h2 hA hB (Nat.le_refl _)

set_option maxHeartbeats 4000000 in
set_option maxRecDepth 100000 in
theorem Products_done (r c : Int) (s : Value) (r' c' : Int) (s' : Value) (w : World) (hd : ∀ u : World, Calls Try.prog 38 #[.agg #[.int .i64 r, .int .i64 c, s]] u fun e w' => e = .returned (.tuple #[.bool true, .bool true]) ∧ Below u.heap.size u w') :
    Calls Try.prog 10 #[.agg #[.int .i64 r, .int .i64 c, s], .agg #[.int .i64 r', .int .i64 c', s']] w fun e w' => e = .returned (.bool true) ∧ Below w.heap.size w w' := by
  obtain ⟨⟨c0, c1, c2⟩, ⟨d0, d1, d2⟩, hB⟩ := boxes2M w (.int .i64 r) (.int .i64 c) s (.int .i64 r') (.int .i64 c') s'
  have HD := Lib.hid hd
  have HB := Lib.hid hB
  clear hd hB d0 d1 d2
  go_enter Try.func10, Try.ntmps10
  go_upto_region 1 with fail
  generalize (w.alloc (.cells #[.int .i64 r, .int .i64 c, s] 24)).alloc (.cells #[.int .i64 r', .int .i64 c', s'] 24) = W at *
  go_wp2_with fail
  (refine (HD.out W).mono ?_)
  rintro e w1 ⟨rfl, hb1⟩
  have HB1 := Lib.hid (below_via HB.out hb1)
  clear hb1 HD HB c0 c1 c2
  go_wp2_with fail
  (refine (awake_any w1).mono ?_)
  rintro e w2 ⟨rfl, hb2⟩
  have HB2 := Lib.hid (below_via HB1.out hb2)
  clear hb2 HB1
  go_wp2_with fail
  (refine (awake_any w2).mono ?_)
  rintro e w3 ⟨rfl, hb3⟩
  have HB3 := Lib.hid (below_via HB2.out hb3)
  clear hb3 HB2
  go_wp2_with fail
  go_ret
  exact ⟨rfl, HB3.out⟩

set_option maxHeartbeats 8000000 in
set_option maxRecDepth 100000 in
theorem Products_not (R S : Nat) (sl : Value) (A : Nat → Int) (r' c' : Int) (b : Option Addr) (n' cap' : Nat) (hn' : n' ≤ 17592186044416) (hne : checkE r' c' n' = 1 ∨ (checkE r' c' n' = 0 ∧ (R : Int) ≠ r')) (w : World) (hR : R ≤ 64) (hS : S ≤ 100000000) (hr : RdE w sl (R * R) A) (hA : ∀ q, q < R * R → ZB S (A q)) :
    Calls Try.prog 10 #[.agg #[.int .i64 R, .int .i64 R, sl], .agg #[.int .i64 r', .int .i64 c', .slice b n' cap']] w fun e w' => e = .returned (.bool true) ∧ Below w.heap.size w w' := by
  have hK4 : R * R ≤ 4096 := Nat.mul_le_mul hR hR
  have hS1 : 64 * (S + 1) + 1 ≤ 274877906944 := by omega
  obtain ⟨a, cap, rfl, hcap⟩ := hr.slice
  obtain ⟨⟨c0, c1, c2⟩, ⟨d0, d1, d2⟩, hB⟩ := boxes2M w (.int .i64 R) (.int .i64 R) (.slice a (R * R) cap) (.int .i64 r') (.int .i64 c') (.slice b n' cap')
  have hrf := fun (u : World) (hu : Below w.heap.size w u) => refused_good R S _ A u hR (by omega) (hr.below hu) hA
  have hdt := fun (u : World) (hu : Below w.heap.size w u) => det13_good R S _ A u hR (by omega) (hr.below hu) hA
  have htu := fun (u : World) (hu : Below w.heap.size w u) => Turn_good R R _ A u hR hR (hr.below hu)
  have hdx := fun (E : Nat → Int) (T : Nat) (sl : Value) (u : World) (hT : T ≤ 268435456) (h1 : RdE u sl (R * R) E) (hE : ∀ q, q < R * R → ZB T (E q)) => det13_good R T sl E u hR hT h1 hE
  have htz := turnE_zb hA
  have hzl := leadD_zb hA hR (Nat.le_refl R)
  simp only [leadD_all] at hdt hdx
  obtain ⟨D, hD⟩ : ∃ D, D = leadD A R R := ⟨_, rfl⟩
  have htd := turnE_det A R
  rw [← hD] at htd hzl
  simp only [← hD] at hdt
  have hex : ∃ E, (E = 1 ∨ E = 2) ∧ ∀ u : World, Calls Try.prog 25 #[.agg #[.int .i64 R, .int .i64 R, .slice a (R * R) cap], .agg #[.int .i64 r', .int .i64 c', .slice b n' cap']] u fun e w' => e = .returned (.tuple #[.agg #[.int .i64 0, .int .i64 0, .slice none 0 0], .int .i64 E]) ∧ Below u.heap.size u w' := by
    have h0 := checkE_ok hR hR (rfl : R * R = R * R)
    rcases hne with h | ⟨h, h'⟩
    · exact ⟨1, Or.inl rfl, fun u => Mul_not R R r' c' a b (R * R) n' cap cap' (by omega) hn' 1 (Or.inl ⟨by rw [h0, h]; rfl, rfl⟩) u⟩
    · exact ⟨2, Or.inr rfl, fun u => Mul_not R R r' c' a b (R * R) n' cap cap' (by omega) hn' 2 (Or.inr ⟨by rw [h0, h]; rfl, h', rfl⟩) u⟩
  obtain ⟨E, hE, hmu⟩ := hex
  generalize hKK : R * R = K at *
  have HRF := Lib.hid hrf
  have HDT := Lib.hid hdt
  have HTU := Lib.hid htu
  have HDX := Lib.hid hdx
  have HTZ := Lib.hid htz
  have HZL := Lib.hid hzl
  have HTD := Lib.hid htd
  have HD := Lib.hid hD
  have HB := Lib.hid hB
  have HS1 := Lib.hid hS1
  have HKK := Lib.hid hKK
  have HE := Lib.hid hE
  have HMU := Lib.hid hmu
  clear hE hmu hne
  clear hrf hdt htu hdx htz hzl htd hB hA hr hS1 hD hKK
  go_enter Try.func10, Try.ntmps10
  go_upto_region 1 with fail
  generalize (w.alloc (.cells #[.int .i64 R, .int .i64 R, .slice a K cap] 24)).alloc (.cells #[.int .i64 r', .int .i64 c', .slice b n' cap'] 24) = W at *
  go_wp2_with fail
  (refine (HRF.out W HB.out).mono ?_)
  rintro e w1 ⟨rfl, hb_w1⟩
  replace c0 := cell_stays hb_w1 c0
  replace c1 := cell_stays hb_w1 c1
  replace c2 := cell_stays hb_w1 c2
  replace d0 := cell_stays hb_w1 d0
  replace d1 := cell_stays hb_w1 d1
  replace d2 := cell_stays hb_w1 d2
  replace HB := Lib.hid (below_via HB.out hb_w1)
  clear hb_w1 HRF
  go_wp2_with fail
  (refine (awake_any w1).mono ?_)
  rintro e w2 ⟨rfl, hb_w2⟩
  replace c0 := cell_stays hb_w2 c0
  replace c1 := cell_stays hb_w2 c1
  replace c2 := cell_stays hb_w2 c2
  replace d0 := cell_stays hb_w2 d0
  replace d1 := cell_stays hb_w2 d1
  replace d2 := cell_stays hb_w2 d2
  replace HB := Lib.hid (below_via HB.out hb_w2)
  clear hb_w2
  go_wp2_with fail
  (refine (HDT.out w2 HB.out).mono ?_)
  rintro e w3 ⟨dv, rfl, hf3, hb_w3⟩
  have hz3 := hf3.rd HZL.out HS1.out
  obtain ⟨am, an, ac, rfl, -⟩ := hf3.agg
  obtain ⟨sg, hsg⟩ : ∃ sg, sg = decide (D < 0) := ⟨_, rfl⟩
  rw [← hsg] at hz3 ⊢
  have ba_w3 := bl_alloc w3 (.cells #[.bool sg, .slice am an ac] 42)
  replace hb_w3 := below_via hb_w3 ba_w3
  obtain ⟨x0, x1, -, -⟩ := two_cells w3 (.bool sg) (.slice am an ac) 42
  have RD := Lib.hid (hz3.below ba_w3)
  replace c0 := cell_stays hb_w3 c0
  replace c1 := cell_stays hb_w3 c1
  replace c2 := cell_stays hb_w3 c2
  replace d0 := cell_stays hb_w3 d0
  replace d1 := cell_stays hb_w3 d1
  replace d2 := cell_stays hb_w3 d2
  replace HB := Lib.hid (below_via HB.out hb_w3)
  clear hb_w3 ba_w3 hf3 hz3 HDT hsg
  go_wp2_with fail
  generalize hq_w3 : w3.heap.size = q_w3 at *
  generalize w3.alloc (.cells #[.bool sg, .slice am an ac] 42) = v_w3 at *
  clear hq_w3
  (refine (HTU.out v_w3 HB.out).mono ?_)
  rintro e w4 ⟨lt, rfl, hf4, hb_w4⟩
  have ba_w4 := bl_alloc w4 (.cells #[.int .i64 R, .int .i64 R, .slice (some ⟨lt, 0, none⟩) K K] 24)
  replace hb_w4 := below_via hb_w4 ba_w4
  have bk_w4 := three_cells w4 (.int .i64 R) (.int .i64 R) (.slice (some ⟨lt, 0, none⟩) K K) 24
  have t0 := (bk_w4 0 _ rfl).1
  have t1 := (bk_w4 1 _ rfl).1
  have t2 := (bk_w4 2 _ rfl).1
  have RT := Lib.hid ((hf4.rd (Nat.le_refl _) (by omega)).below ba_w4)
  replace c0 := cell_stays hb_w4 c0
  replace c1 := cell_stays hb_w4 c1
  replace c2 := cell_stays hb_w4 c2
  replace d0 := cell_stays hb_w4 d0
  replace d1 := cell_stays hb_w4 d1
  replace d2 := cell_stays hb_w4 d2
  replace x0 := cell_stays hb_w4 x0
  replace x1 := cell_stays hb_w4 x1
  replace RD := Lib.hid (RD.out.below hb_w4)
  replace HB := Lib.hid (below_via HB.out hb_w4)
  clear hb_w4 ba_w4 bk_w4 hf4 HTU
  go_wp2_with fail
  generalize hq_w4 : w4.heap.size = q_w4 at *
  generalize w4.alloc (.cells #[.int .i64 R, .int .i64 R, .slice (some ⟨lt, 0, none⟩) K K] 24) = v_w4 at *
  clear hq_w4
  have hdt4 := HDX.out (turnE A R R) S _ v_w4 (by omega) RT.out HTZ.out
  rw [HTD.out] at hdt4
  have HDT4 := Lib.hid hdt4
  clear hdt4
  (refine (HDT4.out).mono ?_)
  rintro e w5 ⟨dv5, rfl, hf5, hb_w5⟩
  have hz5 := hf5.rd HZL.out HS1.out
  obtain ⟨am5, an5, ac5, rfl, -⟩ := hf5.agg
  obtain ⟨sg5, hsg5⟩ : ∃ sg5, sg5 = decide (D < 0) := ⟨_, rfl⟩
  rw [← hsg5] at hz5 ⊢
  clear hsg5
  have ba_w5 := bl_alloc w5 (.cells #[.bool sg5, .slice am5 an5 ac5] 42)
  replace hb_w5 := below_via hb_w5 ba_w5
  obtain ⟨y0, y1, -, -⟩ := two_cells w5 (.bool sg5) (.slice am5 an5 ac5) 42
  have RD5 := Lib.hid (hz5.below ba_w5)
  replace c0 := cell_stays hb_w5 c0
  replace c1 := cell_stays hb_w5 c1
  replace c2 := cell_stays hb_w5 c2
  replace d0 := cell_stays hb_w5 d0
  replace d1 := cell_stays hb_w5 d1
  replace d2 := cell_stays hb_w5 d2
  replace x0 := cell_stays hb_w5 x0
  replace x1 := cell_stays hb_w5 x1
  replace RD := Lib.hid (RD.out.below hb_w5)
  replace HB := Lib.hid (below_via HB.out hb_w5)
  clear hb_w5 ba_w5 hf5 hz5 HDT4 HTZ HTD
  clear RT t0 t1 t2
  go_wp2_with fail
  generalize hq_w5 : w5.heap.size = q_w5 at *
  generalize w5.alloc (.cells #[.bool sg5, .slice am5 an5 ac5] 42) = v_w5 at *
  clear hq_w5
  (refine (zCmp_eq _ _ D v_w5 RD.out RD5.out).mono ?_)
  rintro e w6 ⟨rfl, hb_w6⟩
  replace c0 := cell_stays hb_w6 c0
  replace c1 := cell_stays hb_w6 c1
  replace c2 := cell_stays hb_w6 c2
  replace d0 := cell_stays hb_w6 d0
  replace d1 := cell_stays hb_w6 d1
  replace d2 := cell_stays hb_w6 d2
  replace x0 := cell_stays hb_w6 x0
  replace x1 := cell_stays hb_w6 x1
  replace RD := Lib.hid (RD.out.below hb_w6)
  replace HB := Lib.hid (below_via HB.out hb_w6)
  clear hb_w6
  clear RD5 y0 y1
  go_wp2_with fail
  (refine (HMU.out w6).mono ?_)
  rintro e w7 ⟨rfl, hb_w7⟩
  replace c0 := cell_stays hb_w7 c0
  replace c1 := cell_stays hb_w7 c1
  replace c2 := cell_stays hb_w7 c2
  replace d0 := cell_stays hb_w7 d0
  replace d1 := cell_stays hb_w7 d1
  replace d2 := cell_stays hb_w7 d2
  replace HB := Lib.hid (below_via HB.out hb_w7)
  clear hb_w7 HMU
  clear x0 x1 RD
  rcases HE.out with rfl | rfl
  · go_wp2_with fail
    go_ret
    exact ⟨rfl, below_via HB.out (bl_alloc _ _)⟩
  · go_wp2_with fail
    go_ret
    exact ⟨rfl, below_via HB.out (bl_alloc _ _)⟩
end Go.Proofs.Ytncldpadakckjaa

namespace Go.Proofs.Ytncldpadakckjaa
open laQ

theorem PivQ.mul {m n l ra rb r : Nat} {P P' P'' : Nat → Nat} {A B M : Nat → Nat → Int} (ha : PivQ m n ra P A) (hb : PivQ n l rb P' B) (h : PivQ m l r P'' M) (e : ∀ i j, i < m → j < l → M i j = laZ.sm n (fun k => A i k * B k j)) : r ≤ ra ∧ r ≤ rb ∧ ra + rb ≤ r + n := by
  have h' : Rk m l (mm n (fun i j => ((A i j : Int) : Rat)) (fun i j => ((B i j : Int) : Rat))) r := h.rk.congr fun i j hi hj => by
    rw [e i j hi hj, ← smQ_cast]
    exact sm_congr fun k _ => Rat.intCast_mul _ _
  exact ⟨ha.rk.mul_le_l h', hb.rk.mul_le_r h', Rk.mul_ge fldQ ha.rk hb.rk h'⟩
theorem PivQ.add {m n ra rb r : Nat} {P P' P'' : Nat → Nat} {A B M : Nat → Nat → Int} (ha : PivQ m n ra P A) (hb : PivQ m n rb P' B) (h : PivQ m n r P'' M) (e : ∀ i j, i < m → j < n → M i j = A i j + B i j) : r ≤ ra + rb ∧ ra ≤ r + rb ∧ rb ≤ r + ra := by
  have e' : ∀ i j, i < m → j < n → ((M i j : Int) : Rat) = ((A i j : Int) : Rat) + ((B i j : Int) : Rat) := fun i j hi hj => by rw [e i j hi hj, Rat.intCast_add]
  refine ⟨ha.rk.add_le hb.rk h.rk 1 1 fun i j hi hj => ?_, h.rk.add_le hb.rk ha.rk 1 (-1) fun i j hi hj => ?_, h.rk.add_le ha.rk hb.rk 1 (-1) fun i j hi hj => ?_⟩
  · rw [e' i j hi hj]; grind
  · show ((A i j : Int) : Rat) = 1 * ((M i j : Int) : Rat) + -1 * ((B i j : Int) : Rat)
    rw [e' i j hi hj]; grind
  · show ((B i j : Int) : Rat) = 1 * ((M i j : Int) : Rat) + -1 * ((A i j : Int) : Rat)
    rw [e' i j hi hj]; grind
theorem PivQ.det_iff {n r : Nat} {P : Nat → Nat} {A : Nat → Nat → Int} (h : PivQ n n r P A) : laZ.dt n A ≠ 0 ↔ r = n := by
  constructor
  · intro hne
    have hle := h.le
    by_cases e : r = n
    · exact e
    · refine absurd (ratI_inj (b := 0) ?_) hne
      rw [← dtQ_cast]
      exact h.rk.det_zero fldQ (by omega)
  · intro e he
    subst e
    refine h.rk.det_ne fldQ ?_
    rw [dtQ_cast, he]; rfl

/-- the product's entries, the sum's -/
theorem mulE_at (A B : Nat → Int) (K C i j : Nat) (hj : j < C) : mulE A B K C (i * C + j) = laZ.sm K (fun k => A (i * K + k) * B (k * C + j)) := by
  obtain ⟨h1, h2⟩ := idx_dm (i := i) hj
  unfold mulE psum; rw [h1, h2]
theorem sgZ_ne (z : Int) : (sgZ z != 0) = decide (z ≠ 0) := by
  unfold sgZ
  by_cases h : z = 0
  · simp [h]
  · rw [if_neg h]; split <;> simp [h]
theorem addE_zb {A B : Nat → Int} {n S T : Nat} (hA : ∀ q, q < n → ZB S (A q)) (hB : ∀ q, q < n → ZB T (B q)) : ∀ q, q < n → ZB (S + T + 1) (addE A B q) := fun q hq => (hA q hq).add (hB q hq)
end Go.Proofs.Ytncldpadakckjaa
