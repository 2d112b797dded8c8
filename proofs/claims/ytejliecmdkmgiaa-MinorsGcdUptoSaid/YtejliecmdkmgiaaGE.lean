import Derived.Test.YtejliecmdkmgiaaGD
import Derived.RangeFuncNested
import Derived.RangeFuncBound
import Derived.RangeFuncCalls
import Derived.RangeFuncLeaves
import Derived.Shelf.Abstract
import Derived.Shelf.RegionOpen
import Derived.WalkKit
import Derived.OwnWalkIn
import Derived.TacticsInMore
import Derived.LoopNIn
import Derived.LoopIn
import Derived.OrdersHeld
import Derived.Deep.AppendLies
set_option linter.unusedVariables false
set_option linter.unusedSimpArgs false
set_option maxHeartbeats 8000000
set_option maxRecDepth 100000
namespace Go.Proofs.Ytejliecmdkmgiaa
open Go.RowKit
theorem RdZ.agg {w : World} {s : Bool} {m : Value} {z : Int} (h : RdZ w (.agg #[.bool s, m]) z) : ∃ a n c, m = .slice a n c := by
  obtain ⟨s', am, n', c, f, e, -⟩ := h.parts
  simp at e
  exact ⟨am, n', c, e.2⟩
theorem RdE.slice {w : World} {v : Value} {n : Nat} {E : Nat → Int} (h : RdE w v n E) : ∃ a cap, v = .slice a n cap ∧ n ≤ cap := by
  obtain ⟨a, cap, e, h1, -⟩ := h
  exact ⟨a, cap, e, h1⟩
theorem idx_lt {R C i j q : Nat} (hi : i < R) (hj : j < C) (hq : q = i * C + j) : q < R * C ∧ (i : Int) * C + j = (q : Int) := by
  have := Nat.mul_le_mul_right C (show i + 1 ≤ R by omega)
  rw [Nat.add_mul, Nat.one_mul] at this
  exact ⟨by omega, by rw [hq]; simp⟩
def RdI64 (w : World) (v : Value) (n : Nat) (f : Nat → Nat) : Prop := RdA .i64 w v n (fun i => (f i : Int))
theorem pick1_any (ab rb cb R C r c i j : Nat) (sl rv cv : Value) (P Q : Nat → Nat) (A : Nat → Int) (w : World) (hR : R ≤ 64) (hC : C ≤ 64) (hr' : r ≤ 64) (hc' : c ≤ 64) (hi : i < r) (hj : j < c) (hQ : Q i < R) (hP : P j < C)
    (c1 : w.cell? ⟨ab, 1, none⟩ = some (.int .i64 C)) (c2 : w.cell? ⟨ab, 2, none⟩ = some sl) (c3 : w.cell? ⟨rb, 0, none⟩ = some rv) (c4 : w.cell? ⟨cb, 0, none⟩ = some cv) (hr : RdE w sl (R * C) A) (hq1 : RdI64 w rv r Q) (hq2 : RdI64 w cv c P) :
    Calls Try.prog 169 #[.int .i64 i, .int .i64 j, .pointer (some ⟨ab, 0, none⟩), .pointer (some ⟨rb, 0, none⟩), .pointer (some ⟨cb, 0, none⟩)] w fun e w' => ∃ v, e = .returned v ∧ FrZ w' w.heap.size v (A (Q i * C + P j)) ∧ Below w.heap.size w w' := by
  obtain ⟨q, hq⟩ : ∃ q, q = Q i * C + P j := ⟨_, rfl⟩
  obtain ⟨hqK, hqe⟩ := idx_lt hQ hP hq
  have hK4 : R * C ≤ 4096 := Nat.mul_le_mul hR hC
  rw [← hq]
  have hb : Below w.heap.size w (w.alloc (.cells #[.bool false, .slice none 0 0] 49)) := (Below.refl _ _).alloc (Nat.le_refl _) _
  obtain ⟨z0, z1, z2, z3⟩ := two_cells w (.bool false) (.slice none 0 0) 49
  have hsz : (w.alloc (.cells #[.bool false, .slice none 0 0] 49)).heap.size = w.heap.size + 1 := by simp
  obtain ⟨ra, rcap, rfl, rc1, rc2, rc3⟩ := wd_get hq1
  obtain ⟨ca, ccap, rfl, cc1, cc2, cc3⟩ := wd_get hq2
  obtain ⟨b1, o1, rfl, d3⟩ := rc3 i hi
  obtain ⟨b2, o2, rfl, d4⟩ := cc3 j hj
  obtain ⟨a, cap, rfl, hcap⟩ := hr.slice
  generalize R * C = K at *
  obtain ⟨b, o, s, m, rfl, d1, d2, hz⟩ := RdE.get hr hqK
  obtain ⟨am, an, ac, rfl⟩ := hz.agg
  have t1 : ab < w.heap.size := World.block_lt_of_cell? w _ c1
  have t2 : rb < w.heap.size := World.block_lt_of_cell? w _ c3
  have t3 : cb < w.heap.size := World.block_lt_of_cell? w _ c4
  have t4 : b1 < w.heap.size := World.block_lt_of_cell? w _ d3
  have t5 : b2 < w.heap.size := World.block_lt_of_cell? w _ d4
  have t6 : b < w.heap.size := World.block_lt_of_cell? w _ d1
  replace c1 := cell_stays hb c1
  replace c2 := cell_stays hb c2
  replace c3 := cell_stays hb c3
  replace c4 := cell_stays hb c4
  replace d1 := cell_stays hb d1
  replace d2 := cell_stays hb d2
  replace d3 := cell_stays hb d3
  replace d4 := cell_stays hb d4
  have hz := hz.below hb
  have hl := fun (u : World) (hu : Below (w.alloc (.cells #[.bool false, .slice none 0 0] 49)).heap.size (w.alloc (.cells #[.bool false, .slice none 0 0] 49)) u) => zLeast_any _ (A q) u (hz.below hu)
  have m0 : 0 ≤ (Q i : Int) * C := Int.mul_nonneg (by omega) (by omega)
  have m1 : (Q i : Int) * C ≤ 4096 := by omega
  have HL := Lib.hid hl
  have HB := Lib.hid hb
  have HSZ := Lib.hid hsz
  generalize Q i = Qi at *
  generalize P j = Pj at *
  clear hl hb hsz hr hq hz hq1 hq2 rc3 cc3
  have w1 : IntKind.i64.wrap ((Qi : Int) * C) = (Qi : Int) * C := IntWalk.i64_in _ (by omega)
  have w2 : IntKind.i64.wrap (q : Int) = (q : Int) := IntWalk.i64_in _ (by omega)
  have qi1 : (q : Int) < K := by omega
  have qi2 : (i : Int) < r := by omega
  have qi3 : (j : Int) < c := by omega
  go_enter Try.func169, Try.ntmps169
  go_upto_region 1 with fail
  generalize w.alloc (.cells #[.bool false, .slice none 0 0] 49) = W at *
  have hne : w.heap.size < W.heap.size := by have := HSZ.out; omega
  go_region_held3 (fun w' => w'.cell? ⟨ab, 1, none⟩ = some (.int .i64 C) ∧ w'.cell? ⟨ab, 2, none⟩ = some (.slice (some ⟨b, o, none⟩) K cap) ∧ w'.cell? ⟨rb, 0, none⟩ = some (.slice (some ⟨b1, o1, none⟩) r rcap) ∧ w'.cell? ⟨cb, 0, none⟩ = some (.slice (some ⟨b2, o2, none⟩) c ccap) ∧ w'.cell? ⟨b1, o1 + i, none⟩ = some (.int .i64 Qi) ∧ w'.cell? ⟨b2, o2 + j, none⟩ = some (.int .i64 Pj) ∧
      w'.cell? ⟨b, o + q * 2, none⟩ = some (.bool s) ∧ w'.cell? ⟨b, o + q * 2 + 1, none⟩ = some (.slice am an ac))
    (first
      | exact ⟨cell_stays hb3 c1, cell_stays hb3 c2, cell_stays hb3 c3, cell_stays hb3 c4, cell_stays hb3 d3, cell_stays hb3 d4, cell_stays hb3 d1, cell_stays hb3 d2⟩
      | exact ⟨two_far (cell_stays hb3 c1) (by omega), two_far (cell_stays hb3 c2) (by omega), two_far (cell_stays hb3 c3) (by omega), two_far (cell_stays hb3 c4) (by omega), two_far (cell_stays hb3 d3) (by omega), two_far (cell_stays hb3 d4) (by omega), two_far (cell_stays hb3 d1) (by omega), two_far (cell_stays hb3 d2) (by omega)⟩
      | go_keep)
    (first
      | (go_at_call 96; (first | (with_reducible refine (HL.out W (Below.refl _ _)).mono ?_) | (with_reducible refine (HL.out W.drew (Below.refl _ _).drew).mono ?_)); rintro e w3 ⟨v, rfl, hf, hb3a⟩
         have hb3 : Below W.heap.size W w3 := by first | exact hb3a | exact below_drew hb3a
         have u0 := cell_stays hb3 z0
         have u1 := cell_stays hb3 z1
         have u2 := froz_stays hb3 z0 z2
         have u3 := froz_stays hb3 z1 z3
         have HF := Lib.hid hf
         obtain ⟨aq, nq, cq, rfl, -⟩ := hf.agg
         clear hf hb3a))
  all_goals
    go_wp2_with fail
    obtain ⟨aq', nq', cq', e, hst⟩ := FrZ.stored (b := w.heap.size) (HF.out.mono (show w.heap.size + 1 ≤ _ by have := HSZ.out; first | omega | (show w.heap.size + 1 ≤ W.heap.size; omega)))
    simp at e
    obtain ⟨rfl, rfl, rfl⟩ := e
    have hbl := (HB.out.trans (hb3.mono HB.out.size)).grown (stored2_gb w3 w.heap.size (.bool (decide (A q < 0))) (.slice aq nq cq)) (by have := HB.out.size; have := hb3.size; omega) (fun k hk => by injection hk with hk; omega)
    refine bodyPost_ret (v := .agg #[.bool (decide (A q < 0)), .slice aq nq cq]) ?_ rfl ⟨_, rfl, hst, hbl⟩
    simp [results, Try.results169, go_sem, u0, u1]
end Go.Proofs.Ytejliecmdkmgiaa
namespace Go.Proofs.Ytejliecmdkmgiaa
open Go.RowKit
def stored3 (w3 : World) (b : Nat) (u v x : Value) : World := ((w3.setCell ⟨b, 0, none⟩ u).setCell ⟨b, 1, none⟩ v).setCell ⟨b, 2, none⟩ x
theorem stored3_gb (w3 : World) (b : Nat) (u v x : Value) : w3.grownBy (stored3 w3 b u v x) (some b) := gb_trans (gb_trans (gb_set _ _ _) (gb_set _ _ _)) (gb_set _ _ _)
theorem boxesM (w : World) (a0 a1 a2 : Value) :
    let W := (w.alloc (.cells #[a0, a1, a2] 24)).alloc (.cells #[.int .i64 0, .int .i64 0, .slice none 0 0] 24)
    (W.cell? ⟨w.heap.size, 0, none⟩ = some a0 ∧ W.cell? ⟨w.heap.size, 1, none⟩ = some a1 ∧ W.cell? ⟨w.heap.size, 2, none⟩ = some a2) ∧
    (∀ i y, [Value.int .i64 0, .int .i64 0, .slice none 0 0][i]? = some y → W.cell? ⟨w.heap.size + 1, i, none⟩ = some y ∧ W.frozen? ⟨w.heap.size + 1, i, none⟩ = false) ∧
    Below w.heap.size w W ∧ W.heap.size = w.heap.size + 2 := by
  intro W
  obtain ⟨w1, h1⟩ : ∃ w1, w1 = w.alloc (.cells #[a0, a1, a2] 24) := ⟨_, rfl⟩
  have hW : W = w1.alloc (.cells #[.int .i64 0, .int .i64 0, .slice none 0 0] 24) := by rw [h1]
  have s1 : w1.heap.size = w.heap.size + 1 := by rw [h1]; simp
  have b1' : Below w.heap.size w w1 := by rw [h1]; exact (Below.refl _ _).alloc (Nat.le_refl _) _
  have b2 : Below w1.heap.size w1 W := by rw [hW]; exact (Below.refl _ _).alloc (Nat.le_refl _) _
  have k1 := three_cells w a0 a1 a2 24
  have k2 := three_cells w1 (.int .i64 0) (.int .i64 0) (.slice none 0 0) 24
  rw [← h1] at k1
  rw [← hW, s1] at k2
  have sW : W.heap.size = w.heap.size + 2 := by rw [hW]; simp [s1]
  clear_value W
  exact ⟨⟨cell_stays b2 (k1 0 _ rfl).1, cell_stays b2 (k1 1 _ rfl).1, cell_stays b2 (k1 2 _ rfl).1⟩, k2, b1'.trans (b2.mono (by omega)), sW⟩
theorem checkE_ok {R C n : Nat} (hR : R ≤ 64) (hC : C ≤ 64) (hn : n = R * C) : checkE R C n = 0 := by
  unfold checkE soundB sideB
  rw [hn]
  simp
  omega
end Go.Proofs.Ytejliecmdkmgiaa
namespace Go.Proofs.Ytejliecmdkmgiaa
open Go.RowKit
theorem three_far {W : World} {q b o : Nat} {v x0 x1 x2 : Value} (h : W.cell? ⟨b, o, none⟩ = some v) (hne : b ≠ q) : (((W.setCell ⟨q, 0, none⟩ x0).setCell ⟨q, 1, none⟩ x1).setCell ⟨q, 2, none⟩ x2).cell? ⟨b, o, none⟩ = some v :=
  (stored3_gb W q x0 x1 x2).cell h (fun e => hne (Option.some.inj e))
theorem mLeast_good (R C : Nat) (sl : Value) (A : Nat → Int) (w : World) (hR : R ≤ 64) (hC : C ≤ 64) (hr : RdE w sl (R * C) A) :
    Calls Try.prog 41 #[.agg #[.int .i64 R, .int .i64 C, sl]] w fun e w' => ∃ lb, e = .returned (.tuple #[.agg #[.int .i64 R, .int .i64 C, .slice (some ⟨lb, 0, none⟩) (R * C) (R * C)], .int .i64 0]) ∧
      FrE w' w.heap.size (fun b => b ≤ lb) lb (R * C) A ∧ Below w.heap.size w w' := by
  have hK4 : R * C ≤ 4096 := Nat.mul_le_mul hR hC
  obtain ⟨a, cap, rfl, hcap⟩ := hr.slice
  obtain ⟨⟨c0, c1, c2⟩, hz, hB, hsz⟩ := boxesM w (.int .i64 R) (.int .i64 C) (.slice a (R * C) cap)
  have hck := fun (u : World) => Check_any R C a (R * C) cap (by omega) u
  rw [checkE_ok hR hC rfl] at hck
  have heach := fun (u : World) (hu : Below w.heap.size w u) => each_any a (R * C) cap A u (hr.below hu)
  generalize R * C = K at *
  have HCK := Lib.hid hck
  have HEA := Lib.hid heach
  have HB := Lib.hid hB
  have HSZ := Lib.hid hsz
  have z0 := hz 0 _ rfl
  have z1 := hz 1 _ rfl
  have z2 := hz 2 _ rfl
  clear hck heach hB hsz hz hr
  go_enter Try.func41, Try.ntmps41
  go_upto_region 1 with fail
  generalize (w.alloc (.cells #[.int .i64 R, .int .i64 C, .slice a K cap] 24)).alloc (.cells #[.int .i64 0, .int .i64 0, .slice none 0 0] 24) = W at *
  go_wp2_with fail
  (refine (HCK.out W).mono ?_)
  rintro e w3 ⟨rfl, hb3⟩
  have HB3 := Lib.hid (HB.out.trans (hb3.mono HB.out.size))
  have hs3 := hb3.size
  have y0 := froz_stays hb3 z0.1 z0.2
  have y1 := froz_stays hb3 z1.1 z1.2
  have y2 := froz_stays hb3 z2.1 z2.2
  have x0 := cell_stays hb3 z0.1
  have x1 := cell_stays hb3 z1.1
  have x2 := cell_stays hb3 z2.1
  replace c0 := cell_stays hb3 c0
  replace c1 := cell_stays hb3 c1
  replace c2 := cell_stays hb3 c2
  have HS3 := Lib.hid (show w.heap.size + 2 ≤ w3.heap.size by have := HSZ.out; omega)
  clear hb3 hs3 HCK z0 z1 z2 HSZ HB
  go_upto_region 4 with fail
  have hne : w.heap.size + 1 < w3.heap.size := by have := HS3.out; omega
  go_region_held3 (fun w' => w'.cell? ⟨w.heap.size, 0, none⟩ = some (.int .i64 R) ∧ w'.cell? ⟨w.heap.size, 1, none⟩ = some (.int .i64 C) ∧ w'.cell? ⟨w.heap.size, 2, none⟩ = some (.slice a K cap))
    (first
      | exact ⟨cell_stays hb4 c0, cell_stays hb4 c1, cell_stays hb4 c2⟩
      | exact ⟨three_far (cell_stays hb4 c0) (by omega), three_far (cell_stays hb4 c1) (by omega), three_far (cell_stays hb4 c2) (by omega)⟩
      | go_keep)
    (first
      | (go_at_call 110; (first | (with_reducible refine (HEA.out w3 HB3.out).mono ?_) | (with_reducible refine (HEA.out w3.drew HB3.out.drew).mono ?_)); rintro e w4 ⟨lb, rfl, hf, hb4a⟩
         have hb4 : Below w3.heap.size w3 w4 := by first | exact hb4a | exact below_drew hb4a
         have hlb : w3.heap.size ≤ lb := hf.own
         have v0 := froz_stays hb4 x0 y0
         have v1 := froz_stays hb4 x1 y1
         have v2 := froz_stays hb4 x2 y2
         have u0 := cell_stays hb4 x0
         have u1 := cell_stays hb4 x1
         have u2 := cell_stays hb4 x2
         have HF := Lib.hid hf
         clear hf hb4a))
  all_goals
    go_wp2_with fail
    have hg := stored3_gb w4 (w.heap.size + 1) (.int .i64 R) (.int .i64 C) (.slice (some ⟨lb, 0, none⟩) K K)
    have hf2 := (HF.out.grown hg (by omega) (by show w.heap.size + 1 ≤ lb; omega)).mono (show w.heap.size ≤ _ by first | exact HB3.out.size | omega)
    have hbw := HB3.out.trans (hb4.mono HB3.out.size)
    have hbl := hbw.grown hg hbw.size (fun k hk => by injection hk with hk; omega)
    refine bodyPost_ret (v := .tuple #[.agg #[.int .i64 R, .int .i64 C, .slice (some ⟨lb, 0, none⟩) K K], .int .i64 0]) ?_ rfl ⟨lb, rfl, hf2, hbl⟩
    simp [results, Try.results41, go_sem, u0, u1, u2]
end Go.Proofs.Ytejliecmdkmgiaa
namespace Go.Proofs.Ytejliecmdkmgiaa
open Go.RowKit
theorem cell1_new (w : World) (v : Value) (t : TypeId) : (w.alloc (.cells #[v] t)).cell? ⟨w.heap.size, 0, none⟩ = some v := by
  rw [cell_of_row _ _ _ _ _ _ (heap_alloc_new w _)]; rfl
theorem boxesP (w : World) (a0 a1 a2 rv cv : Value) :
    let W := (((w.alloc (.cells #[a0, a1, a2] 24)).alloc (.cells #[rv] 70)).alloc (.cells #[cv] 70)).alloc (.cells #[.int .i64 0, .int .i64 0, .slice none 0 0] 24)
    (W.cell? ⟨w.heap.size, 0, none⟩ = some a0 ∧ W.cell? ⟨w.heap.size, 1, none⟩ = some a1 ∧ W.cell? ⟨w.heap.size, 2, none⟩ = some a2) ∧ W.cell? ⟨w.heap.size + 1, 0, none⟩ = some rv ∧ W.cell? ⟨w.heap.size + 1 + 1, 0, none⟩ = some cv ∧
    (∀ i y, [Value.int .i64 0, .int .i64 0, .slice none 0 0][i]? = some y → W.cell? ⟨w.heap.size + 1 + 1 + 1, i, none⟩ = some y ∧ W.frozen? ⟨w.heap.size + 1 + 1 + 1, i, none⟩ = false) ∧
    Below w.heap.size w W ∧ W.heap.size = w.heap.size + 4 := by
  intro W
  obtain ⟨w1, h1⟩ : ∃ w1, w1 = w.alloc (.cells #[a0, a1, a2] 24) := ⟨_, rfl⟩
  obtain ⟨w2, h2⟩ : ∃ w2, w2 = w1.alloc (.cells #[rv] 70) := ⟨_, rfl⟩
  obtain ⟨w3, h3⟩ : ∃ w3, w3 = w2.alloc (.cells #[cv] 70) := ⟨_, rfl⟩
  have hW : W = w3.alloc (.cells #[.int .i64 0, .int .i64 0, .slice none 0 0] 24) := by rw [h3, h2, h1]
  have s1 : w1.heap.size = w.heap.size + 1 := by rw [h1]; simp
  have s2 : w2.heap.size = w.heap.size + 1 + 1 := by rw [h2]; simp [s1]
  have s3 : w3.heap.size = w.heap.size + 1 + 1 + 1 := by rw [h3]; simp [s2]
  have b1 : Below w.heap.size w w1 := by rw [h1]; exact (Below.refl _ _).alloc (Nat.le_refl _) _
  have b2 : Below w1.heap.size w1 w2 := by rw [h2]; exact (Below.refl _ _).alloc (Nat.le_refl _) _
  have b3 : Below w2.heap.size w2 w3 := by rw [h3]; exact (Below.refl _ _).alloc (Nat.le_refl _) _
  have b4 : Below w3.heap.size w3 W := by rw [hW]; exact (Below.refl _ _).alloc (Nat.le_refl _) _
  have k1 := three_cells w a0 a1 a2 24
  rw [← h1] at k1
  have k2 : w2.cell? ⟨w.heap.size + 1, 0, none⟩ = some rv := by have := cell1_new w1 rv 70; rw [← h2, s1] at this; exact this
  have k3 : w3.cell? ⟨w.heap.size + 1 + 1, 0, none⟩ = some cv := by have := cell1_new w2 cv 70; rw [← h3, s2] at this; exact this
  have k4 := three_cells w3 (.int .i64 0) (.int .i64 0) (.slice none 0 0) 24
  rw [← hW, s3] at k4
  have sW : W.heap.size = w.heap.size + 4 := by rw [hW]; simp [s3]
  clear_value W
  have b24 := b3.trans (b4.mono (by omega))
  have b14 := b2.trans (b24.mono (by omega))
  exact ⟨⟨cell_stays b14 (k1 0 _ rfl).1, cell_stays b14 (k1 1 _ rfl).1, cell_stays b14 (k1 2 _ rfl).1⟩, cell_stays b24 k2, cell_stays b4 k3, k4, b1.trans (b14.mono (by omega)), sW⟩
theorem Pick_good (R C r c : Nat) (sl rv cv : Value) (P Q : Nat → Nat) (A : Nat → Int) (w : World) (hR : R ≤ 64) (hC : C ≤ 64) (hr : r ≤ 64) (hc : c ≤ 64) (hQ : ∀ i, i < r → Q i < R) (hP : ∀ j, j < c → P j < C)
    (hA : RdE w sl (R * C) A) (hrv : RdI64 w rv r Q) (hcv : RdI64 w cv c P) :
    Calls Try.prog 124 #[.agg #[.int .i64 R, .int .i64 C, sl], rv, cv] w fun e w' => ∃ lb, e = .returned (.tuple #[.agg #[.int .i64 r, .int .i64 c, .slice (some ⟨lb, 0, none⟩) (r * c) (r * c)], .int .i64 0]) ∧
      FrE w' w.heap.size (fun b => b ≤ lb) lb (r * c) (fun q => A (Q (q / c) * C + P (q % c))) ∧ Below w.heap.size w w' := by
  have hK4 : R * C ≤ 4096 := Nat.mul_le_mul hR hC
  obtain ⟨a, cap, rfl, hcap⟩ := hA.slice
  obtain ⟨ra, rcap, rfl, -, -, rc3⟩ := wd_get hrv
  obtain ⟨ca, ccap, rfl, -, -, cc3⟩ := wd_get hcv
  obtain ⟨⟨c0, c1, c2⟩, c3, c4, hz, hB, hsz⟩ := boxesP w (.int .i64 R) (.int .i64 C) (.slice a (R * C) cap) (.slice ra r rcap) (.slice ca c ccap)
  have hck := fun (u : World) => Check_any R C a (R * C) cap (by omega) u
  rw [checkE_ok hR hC rfl] at hck
  have hzb : ∀ i j, i < r → j < c → ZB 274877906944 (A (Q i * C + P j)) := fun i j hi hj => by
    obtain ⟨q, hq⟩ : ∃ q, q = Q i * C + P j := ⟨_, rfl⟩
    obtain ⟨-, -, s, m, -, -, -, h⟩ := hA.get (idx_lt (hQ i hi) (hP j hj) hq).1
    rw [← hq]; exact h.zb
  have hbd := fun (u : World) (hu : Below w.heap.size w u) (h1 : u.cell? ⟨w.heap.size, 1, none⟩ = some (.int .i64 C)) (h2 : u.cell? ⟨w.heap.size, 2, none⟩ = some (.slice a (R * C) cap)) (h3 : u.cell? ⟨w.heap.size + 1, 0, none⟩ = some (.slice ra r rcap)) (h4 : u.cell? ⟨w.heap.size + 1 + 1, 0, none⟩ = some (.slice ca c ccap)) =>
    build_pick r c (.pointer (some ⟨w.heap.size, 0, none⟩)) (.pointer (some ⟨w.heap.size + 1, 0, none⟩)) (.pointer (some ⟨w.heap.size + 1 + 1, 0, none⟩)) (fun i j => A (Q i * C + P j)) hr hc u hzb
      (fun W i j hW hi hj => pick1_any w.heap.size (w.heap.size + 1) (w.heap.size + 1 + 1) R C r c i j _ _ _ P Q A W hR hC hr hc hi hj (hQ i hi) (hP j hj) (cell_stays hW h1) (cell_stays hW h2) (cell_stays hW h3) (cell_stays hW h4) ((hA.below hu).below hW) ((hrv.below hu).below hW) ((hcv.below hu).below hW))
  generalize R * C = K at *
  have hmf : ∀ (fn : Fn) (first cap : Array Value) (w : World), (Instr.makeFunc fn first cap).run Try.prog w = .ok (.func fn first cap) w := fun fn first cap w => by rfl
  have RC3 := Lib.hid rc3
  have CC3 := Lib.hid cc3
  have HQ := Lib.hid hQ
  have HP := Lib.hid hP
  have HCK := Lib.hid hck
  have HBD := Lib.hid hbd
  have HB := Lib.hid hB
  have HSZ := Lib.hid hsz
  have z0 := hz 0 _ rfl
  have z1 := hz 1 _ rfl
  have z2 := hz 2 _ rfl
  clear hck hbd hB hsz hz hzb hA hrv hcv rc3 cc3 hQ hP
  go_enter Try.func124, Try.ntmps124
  go_upto_region 1 with fail
  generalize (((w.alloc (.cells #[.int .i64 R, .int .i64 C, .slice a K cap] 24)).alloc (.cells #[.slice ra r rcap] 70)).alloc (.cells #[.slice ca c ccap] 70)).alloc (.cells #[.int .i64 0, .int .i64 0, .slice none 0 0] 24) = W at *
  go_wp2_with fail
  (refine (HCK.out W).mono ?_)
  rintro e w3 ⟨rfl, hb3⟩
  have HB3 := Lib.hid (HB.out.trans (hb3.mono HB.out.size))
  have hs3 := hb3.size
  have y0 := froz_stays hb3 z0.1 z0.2
  have y1 := froz_stays hb3 z1.1 z1.2
  have y2 := froz_stays hb3 z2.1 z2.2
  have x0 := cell_stays hb3 z0.1
  have x1 := cell_stays hb3 z1.1
  have x2 := cell_stays hb3 z2.1
  replace c0 := cell_stays hb3 c0
  replace c1 := cell_stays hb3 c1
  replace c2 := cell_stays hb3 c2
  replace c3 := cell_stays hb3 c3
  replace c4 := cell_stays hb3 c4
  have HC1 := Lib.hid c1
  have HC2 := Lib.hid c2
  have HC3 := Lib.hid c3
  have HC4 := Lib.hid c4
  have HS3 := Lib.hid (show w.heap.size + 4 ≤ w3.heap.size by have := HSZ.out; omega)
  clear hb3 hs3 HCK z0 z1 z2 HSZ HB
  go_wp2_with fail
  go_loopw [21] (fun iv wr => w3 = wr ∧ ∃ i : Nat, i ≤ r ∧ iv = .int .i64 i) (fun iv _ => r - (intOf iv).toNat)
  case atStart => exact ⟨rfl, 0, Nat.zero_le _, rfl⟩
  case round =>
    obtain ⟨rfl, i, i1, rfl⟩ := hrel
    by_cases hi : i < r
    · obtain ⟨b1, o1, rfl, d3⟩ := RC3.out i hi
      replace d3 := cell_stays HB3.out d3
      have hq := HQ.out i hi
      generalize Q i = qi at d3 hq
      go_wp2_with fail
      go_roundw
      case rel => exact ⟨trivial, i + 1, by omega, by go_num⟩
      case measure => simp [intOf]; omega
    · obtain rfl : i = r := by omega
      go_wp2_with fail
      go_loopw [37] (fun iv wr => w3 = wr ∧ ∃ j : Nat, j ≤ c ∧ iv = .int .i64 j) (fun iv _ => c - (intOf iv).toNat)
      case atStart => exact ⟨rfl, 0, Nat.zero_le _, rfl⟩
      case round =>
        obtain ⟨rfl, j, j1, rfl⟩ := hrel
        by_cases hj : j < c
        · obtain ⟨b1, o1, rfl, d3⟩ := CC3.out j hj
          replace d3 := cell_stays HB3.out d3
          have hq := HP.out j hj
          generalize P j = qj at d3 hq
          go_wp2_with fail
          go_roundw
          case rel => exact ⟨trivial, j + 1, by omega, by go_num⟩
          case measure => simp [intOf]; omega
        · obtain rfl : j = c := by omega
          go_wp2_with fail
          (refine (HBD.out w3 HB3.out HC1.out HC2.out HC3.out HC4.out).mono ?_)
          rintro e w4 ⟨lb, rfl, hf, hb4⟩
          have v0 := froz_stays hb4 x0 y0
          have v1 := froz_stays hb4 x1 y1
          have v2 := froz_stays hb4 x2 y2
          replace x0 := cell_stays hb4 x0
          replace x1 := cell_stays hb4 x1
          replace x2 := cell_stays hb4 x2
          have hg := stored3_gb w4 (w.heap.size + 1 + 1 + 1) (.int .i64 i) (.int .i64 j) (.slice (some ⟨lb, 0, none⟩) (i * j) (i * j))
          have hlb : w.heap.size + 4 ≤ lb := Nat.le_trans HS3.out hf.own
          have HF := Lib.hid ((hf.grown hg (by omega) (by show w.heap.size + 1 + 1 + 1 ≤ lb; omega)).mono HB3.out.size)
          have hbw := HB3.out.trans (hb4.mono HB3.out.size)
          have HBL := Lib.hid (hbw.grown hg hbw.size (fun k hk => by injection hk with hk; omega))
          clear hf hb4 hg hbw y0 y1 y2 c0 c1 c2 c3 c4 HBD
          go_wp2_with fail
          refine bodyPost_ret (v := .tuple #[.agg #[.int .i64 i, .int .i64 j, .slice (some ⟨lb, 0, none⟩) (i * j) (i * j)], .int .i64 0]) ?_ rfl ⟨lb, rfl, HF.out, HBL.out⟩
          simp [results, Try.results124, go_sem, x0, x1, x2]
end Go.Proofs.Ytejliecmdkmgiaa
namespace Go.Proofs.Ytejliecmdkmgiaa
open Go.RowKit Go.Shelf
def Abid {β : Sort _} (B : Nat) (I : β → World → Prop) : Prop :=
  ∀ s W W' r, I s W → W.grownBy W' r → (∀ k, r = some k → k = B + 1) → I s W'
theorem Abid.put {β : Sort _} {B : Nat} {I : β → World → Prop} (h : Abid B I) {s : β} {W : World} {l : Nat} (o' : Obj) (hs : I s W) (hB : l = B + 1) : I s (W.putObj l o') :=
  h s W _ (some l) hs (grownBy_putObj' W l o') (fun k e => by cases e; exact hB)
theorem Abid.below {β : Sort _} {B : Nat} {I : β → World → Prop} (h : Abid B I) {s : β} {W W' : World} (hs : I s W) (hb : Below W.heap.size W W') : I s W' :=
  h s W _ none hs (gb_below hb none) (fun k e => by cases e)
def goesOn (I : World → Prop) (W : World) : Exit → Act → World → Prop
  | .normal, _, W' => KeepsOthers W W' ∧ I W'
  | _, _, _ => False
theorem range_rows {P : Program} {β : Type} {n : Nat} {g : Operand} {ps : Array Tmp} {assign body : Code} {Q : Exit → Act → World → Prop} {a : Act} {w : World} (h1 : 1 ≤ n)
    {gf : Nat} {lb : Array Value} (hg : a.eval g = .func (.func gf) #[] lb) (eg : ∀ args w, (callFunc gf args).run P w = .ok (.enter gf args) w)
    (encs : Nat → β → Array Value) (hps : ∀ i x, (encs i x).size = ps.size) (N : Nat)
    (Row : Nat × Nat × β → World → Prop) (hRow : Abid w.heap.size Row) (I : Nat × Nat → World → Prop) (hI : Abid w.heap.size I) (hIN : ∀ i b W, I (i, b) W → I (i, W.heap.size) W)
    (hseq : ∀ (l : Nat) (J : Nat × Nat → World → Prop) (W : World), (∀ s W W', J s W → Below W.heap.size W W' → J s W') → (∀ i b W, J (i, b) W → J (i, W.heap.size) W) → (∀ s W, J s W → I s W ∧ w.heap.size + 2 ≤ s.2) →
      (∀ i b x W, i < N → J (i, b) W → Row (i, b, x) W → YieldAt Fence.wide (n - 1 - 1) P l (encs i x) W fun e W' => e = .returned (.bool true) ∧ J (i + 1, W'.heap.size) W') → J (0, W.heap.size) W →
      CallsIn Fence.wide (n - 1) P gf (#[.func (.yield l) #[] #[]] ++ lb) W fun e W' => (∃ v, e = .returned v) ∧ ∃ b, J (N, b) W')
    (h0 : I (0, w.heap.size) w) (a₁ : Nat → β → Act)
    (hassign : ∀ (l i : Nat) (x : β) (W : World) (K : Act → World → Prop), K (a₁ i x) W →
      assign.wpIn (Fence.wide.inRound l) (n - 1 - 1) P (Exit.then K (fun _ _ _ => False)) { tmps := (ps.zip (encs i x)).foldl (fun t (p, v) => t.setIfInBounds p v) a.tmps, defers := [] } W)
    (hbody : ∀ (l i b : Nat) (x : β) (W : World), i < N → w.heap.size + 2 ≤ b → I (i, b) W → Row (i, b, x) W → body.wpIn (Fence.wide.inRound l) (n - 1 - 1) P (goesOn (fun W' => I (i + 1, W'.heap.size) W') W) (a₁ i x) W)
    (hdone : ∀ (D b : Nat) (W : World), D = w.heap.size → I (N, b) W → W.heap[D]? = some (.deferred (some [])) → Q .normal { a with defers := { target := .collected D, args := #[] } :: a.defers } W) :
    (Code.rangeFunc g ps assign body).wpIn Fence.wide n P Q a w := by
  refine wpIn_rangeFunc fun fn hfn => ?_
  obtain ⟨B, hB⟩ : ∃ B, B = w.heap.size := ⟨_, rfl⟩
  obtain ⟨rc, hrc⟩ : ∃ rc : LoopState → Loop, rc = fun st => { state := st, pending := none, fn, tmps := a.tmps, params := ps, assign, body, defers := B } := ⟨_, rfl⟩
  obtain ⟨u, hu⟩ : ∃ u, u = w.alloc (.deferred (some [])) := ⟨_, rfl⟩
  obtain ⟨v, hv⟩ : ∃ v, v = u.alloc (.loop (rc .ready)) := ⟨_, rfl⟩
  have su : u.heap.size = B + 1 := by rw [hu, hB]; simp
  have bu : Below w.heap.size w u := by rw [hu]; exact (Below.refl _ _).alloc (Nat.le_refl _) _
  have bv : Below u.heap.size u v := by rw [hv]; exact (Below.refl _ _).alloc (Nat.le_refl _) _
  have kD : v.heap[B]? = some (.deferred (some [])) := by
    rw [hv]; exact (Below.heap_alloc _ _ _ (by omega)).trans (by rw [hu, hB]; exact World.alloc_heap_new w _)
  have kL : v.heap[B + 1]? = some (.loop (rc .ready)) := by rw [hv, ← su]; exact World.alloc_heap_new u _
  have hi0 : I (0, v.heap.size) v := hIN _ _ _ (hI.below (hI.below h0 bu) bv)
  refine ⟨B + 1, [{ target := .collected B, args := #[] }], v, { target := .fn (.func gf) lb, args := #[.func (.yield (B + 1)) #[] #[]] }, v, gf, #[.func (.yield (B + 1)) #[] #[]] ++ lb, v, ?_, ?_, ?_, ?_, fun _ => h1, ?_⟩
  · rw [hv, hu, hrc, hB]; exact run_enterLoop_outer _ _ _ _ _
  · simp only [resolve, hg]
    simp [go_sem]
  · intro f' hf'; trivial
  · simp [invoke, go_sem, eg]
  · have hJb : ∀ i W W', ((I i W ∧ B + 2 ≤ i.2) ∧ W.heap[B + 1]? = some (.loop (rc .ready)) ∧ W.heap[B]? = some (.deferred (some []))) → Below W.heap.size W W' → ((I i W' ∧ B + 2 ≤ i.2) ∧ W'.heap[B + 1]? = some (.loop (rc .ready)) ∧ W'.heap[B]? = some (.deferred (some []))) :=
      fun i W W' ⟨c1, c2, c3⟩ hb => ⟨⟨hI.below c1.1 hb, c1.2⟩, (hb.block _ (Array.getElem?_eq_some_iff.1 c2).1).trans c2, (hb.block _ (Array.getElem?_eq_some_iff.1 c3).1).trans c3⟩
    refine (hseq (B + 1) (fun i W => (I i W ∧ B + 2 ≤ i.2) ∧ W.heap[B + 1]? = some (.loop (rc .ready)) ∧ W.heap[B]? = some (.deferred (some []))) v hJb (fun i b W h => ⟨⟨hIN _ _ _ h.1.1, (Array.getElem?_eq_some_iff.1 h.2.1).1⟩, h.2⟩) (fun i W h => ⟨h.1.1, by have := h.1.2; omega⟩) ?_ ⟨⟨hi0, (Array.getElem?_eq_some_iff.1 kL).1⟩, kL, kD⟩).mono ?_
    · rintro i b x W hiN ⟨⟨ci, cb⟩, cL, cD⟩ hrow
      have hy := run_yield (P := P) (args := encs i x) cL (by rw [hrc]; exact hps i x)
      have hbr := run_beginRound (P := P) cL (by rw [hrc])
      have hlt : B + 1 < W.heap.size := (Array.getElem?_eq_some_iff.1 cL).1
      have cL2 : (W.putObj (B + 1) (.loop { rc .ready with state := .busy })).heap[B + 1]? = some (.loop { rc .ready with state := .busy }) := World.putObj_heap_same hlt
      have cD2 : (W.putObj (B + 1) (.loop { rc .ready with state := .busy })).heap[B]? = some (.deferred (some [])) := (World.putObj_heap_other (by omega)).trans cD
      have ci2 := hI.put (l := B + 1) (.loop { rc .ready with state := .busy }) ci (by omega)
      have hrow2 := hRow.put (l := B + 1) (.loop { rc .ready with state := .busy }) hrow (by omega)
      generalize W.putObj (B + 1) (.loop { rc .ready with state := .busy }) = W2 at *
      rw [hrc] at hy
      refine ⟨fn, _, assign, body, hy, roundIn_of_wpIn hfn (hassign _ i x W _ ⟨W2, hbr, ?_⟩)⟩
      refine wpIn_mono (hbody _ i b x W2 hiN (by omega) ci2 hrow2) ?_
      rintro e a3 W3 hp
      cases e with
      | normal =>
        obtain ⟨hk, hi3⟩ := hp
        have cL3 := hk.same _ _ cL2 rfl
        have cD3 := hk.same _ _ cD2 rfl
        have he := run_endRound (P := P) none cL3
        have hl3 := (Array.getElem?_eq_some_iff.1 cL3).1
        refine ⟨_, _, he, rfl, ⟨hIN _ _ _ (hI.put _ hi3 (by omega)), Nat.le_trans hl3 (grownBy_putObj' W3 _ _).size⟩, ?_, (World.putObj_heap_other (by omega)).trans cD3⟩
        rw [World.putObj_heap_same (Array.getElem?_eq_some_iff.1 cL3).1, hrc]; rfl
      | ret => exact hp.elim
      | exit id => exact hp.elim
      | goto t => exact hp.elim
      | panic ch => exact hp.elim
      | outgrown => exact hp.elim
    · rintro e W2 ⟨⟨v, rfl⟩, b, ⟨ci, -⟩, cL, cD⟩
      have he := run_endLoop (P := P) cL (by rw [hrc]; simp)
      have hpn : (rc .ready).pending = none := by rw [hrc]
      rw [hpn] at he
      refine ⟨none, _, he, hdone B b _ hB (hI.put _ ci (by omega)) ((World.putObj_heap_other (by omega)).trans cD)⟩
end Go.Proofs.Ytejliecmdkmgiaa
namespace Go.Proofs.Ytejliecmdkmgiaa
open Go.RowKit Go.Shelf
theorem undE : Try.prog.underlying 22 = some (.slice (Try.prog.elem 22)) := by kernel_rfl
theorem sizeE : ∀ u, (sizeOf (Try.prog.elem 22)).run Try.prog u = .ok 2 u := fun u => by kernel_rfl
theorem cutE (a : Option Addr) (n cap lo hi : Nat) (h1 : lo ≤ hi) (h2 : hi ≤ n) {w : World} {E : Nat → Int} (hr : RdE w (.slice a n cap) n E) :
    ∃ a', (∀ u : World, (Instr.slice 22 (.slice a n cap) (some (.int .i64 (lo : Int))) (some (.int .i64 (hi : Int))) none).run Try.prog u = .ok (.slice a' (hi - lo) (cap - lo)) u) ∧
      (∀ u : World, (Instr.sliceAt 22 (.slice a n cap) (some (.int .i64 (lo : Int))) (some (.int .i64 (hi : Int))) none).run Try.prog u = .ok (.slice a' (hi - lo) (cap - lo)) u) ∧
      RdE w (.slice a' (hi - lo) (cap - lo)) (hi - lo) (fun i => E (lo + i)) := by
  have h3 : n ≤ cap := by obtain ⟨_, _, e, h, -⟩ := hr; simp at e; rw [e.2]; exact h
  have key : ∀ u : World, (Instr.slice 22 (.slice a n cap) (some (.int .i64 (lo : Int))) (some (.int .i64 (hi : Int))) none).run Try.prog u = .ok (.slice (if cap = lo then a else a.map (·.add (lo * 2))) (hi - lo) (cap - lo)) u := fun u => by
    rw [run_slice_lh u 22 a n cap undE .i64 .i64 (lo : Int) (hi : Int) (by omega) (by omega) (by omega), sizeE]
    simp only [Result.andThen, sliced, Int.toNat_natCast]
  refine ⟨_, key, fun u => by rw [run_sliceAt_slice u 22 _ _ _ _ undE, key u], ?_⟩
  obtain ⟨a0, c0, e, k1, k2, k3⟩ := hr
  simp only [Value.slice.injEq, true_and] at e
  obtain ⟨rfl, rfl⟩ := e
  refine ⟨_, _, rfl, by omega, by omega, fun hp => ?_⟩
  obtain ⟨b, o, rfl, hc⟩ := k3 (by omega)
  refine ⟨b, o + lo * 2, by rw [if_neg (by omega)]; simp [Addr.add], fun i hi => ?_⟩
  have := hc (lo + i) (by omega)
  rw [show o + lo * 2 + i * 2 = o + (lo + i) * 2 by omega]
  exact this
structure Shown (W : World) (mb R C lb : Nat) (A : Nat → Int) : Prop where
  c0 : W.cell? ⟨mb, 0, none⟩ = some (.int .i64 R)
  c1 : W.cell? ⟨mb, 1, none⟩ = some (.int .i64 C)
  c2 : W.cell? ⟨mb, 2, none⟩ = some (.slice (some ⟨lb, 0, none⟩) (R * C) (R * C))
  rd : RdE W (.slice (some ⟨lb, 0, none⟩) (R * C) (R * C)) (R * C) A
theorem Lines_good (R C : Nat) (sl : Value) (A : Nat → Int) (w : World) (hR : R ≤ 64) (hC : C ≤ 64) (hr : RdE w sl (R * C) A) :
    Calls Try.prog 166 #[.agg #[.int .i64 R, .int .i64 C, sl]] w fun e w' => ∃ mb lb, e = .returned (.func (.func 187) #[] #[.pointer (some ⟨mb, 0, none⟩)]) ∧
      Shown w' mb R C lb A ∧ FrE w' w.heap.size (fun b => b ≤ lb) lb (R * C) A ∧ w.heap.size ≤ mb ∧ Below w.heap.size w w' := by
  have hK4 : R * C ≤ 4096 := Nat.mul_le_mul hR hC
  obtain ⟨a, cap, rfl, hcap⟩ := hr.slice
  have k1 := three_cells w (.int .i64 R) (.int .i64 C) (.slice a (R * C) cap) 24
  have hB : Below w.heap.size w (w.alloc (.cells #[.int .i64 R, .int .i64 C, .slice a (R * C) cap] 24)) := (Below.refl _ _).alloc (Nat.le_refl _) _
  have hsz : (w.alloc (.cells #[.int .i64 R, .int .i64 C, .slice a (R * C) cap] 24)).heap.size = w.heap.size + 1 := by simp
  have c0 := (k1 0 _ rfl).1
  have c1 := (k1 1 _ rfl).1
  have c2 := (k1 2 _ rfl).1
  have hl := mLeast_good R C (.slice a (R * C) cap) A _ hR hC (hr.below hB)
  have hmf : ∀ (fn : Fn) (first cap : Array Value) (w : World), (Instr.makeFunc fn first cap).run Try.prog w = .ok (.func fn first cap) w := fun fn first cap w => by rfl
  obtain ⟨K, hKK⟩ : ∃ K, R * C = K := ⟨_, rfl⟩
  simp only [hKK] at hK4 hcap hB hsz c0 c1 c2 hl ⊢
  clear hr k1
  have HL := Lib.hid hl
  have HB := Lib.hid hB
  have HSZ := Lib.hid hsz
  have HK := Lib.hid hKK
  clear hl hB hsz hKK
  go_enter Try.func166, Try.ntmps166
  go_upto_region 1 with fail
  generalize w.alloc (.cells #[.int .i64 R, .int .i64 C, .slice a K cap] 24) = W at *
  go_wp2_with fail
  (refine HL.out.mono ?_)
  rintro e w3 ⟨lb, rfl, hf, hb3⟩
  have HF := Lib.hid hf
  have HB3 := Lib.hid hb3
  clear hf hb3
  go_wp2_with fail
  have k3 := three_cells w3 (.int .i64 R) (.int .i64 C) (.slice (some ⟨lb, 0, none⟩) K K) 24
  have b4 : Below w3.heap.size w3 (w3.alloc (.cells #[.int .i64 R, .int .i64 C, .slice (some ⟨lb, 0, none⟩) K K] 24)) := (Below.refl _ _).alloc (Nat.le_refl _) _
  have hmo := HB.out.size
  have hm3 := HB3.out.size
  go_ret
  have hf4 := (HF.out.below b4).mono hmo
  refine ⟨_, lb, rfl, ⟨(k3 0 _ rfl).1, (k3 1 _ rfl).1, ?_, ?_⟩, hf4, by omega, HB.out.trans ((HB3.out.trans (b4.mono hm3)).mono hmo)⟩
  · rw [HK.out]; exact (k3 2 _ rfl).1
  · rw [HK.out]; exact hf4.rd (Nat.le_refl _) (by omega)
end Go.Proofs.Ytejliecmdkmgiaa
namespace Go.Proofs.Ytejliecmdkmgiaa
open Go.RowKit Go.Shelf
attribute [local go_sem] Oper.semAt_some
def RowE (C : Nat) (A : Nat → Int) (p : Nat × Nat × Nat) (W : World) : Prop := FrE W p.2.1 (fun b => b ≤ p.2.2) p.2.2 C (fun j => A (p.1 * C + j))
theorem lines1_in (n : Nat) (hn : 1 ≤ n) (mb lb R C : Nat) (A : Nat → Int) (hR : R ≤ 64) (hC : C ≤ 64) (l : Nat) (J : Nat × Nat → World → Prop) (W : World)
    (hJb : ∀ s W W', J s W → Below W.heap.size W W' → J s W') (hJN : ∀ i b W, J (i, b) W → J (i, W.heap.size) W) (hJm : ∀ s W, J s W → Shown W mb R C lb A)
    (hY : ∀ i b x W, i < R → J (i, b) W → RowE C A (i, b, x) W → YieldAt Fence.wide (n - 1) Try.prog l #[.int .i64 i, .slice (some ⟨x, 0, none⟩) C C] W fun e W' => e = .returned (.bool true) ∧ J (i + 1, W'.heap.size) W') (h0 : J (0, W.heap.size) W) :
    CallsIn Fence.wide n Try.prog 187 #[.func (.yield l) #[] #[], .pointer (some ⟨mb, 0, none⟩)] W fun e W' => (∃ v, e = .returned v) ∧ ∃ b, J (R, b) W' := by
  have hK4 : R * C ≤ 4096 := Nat.mul_le_mul hR hC
  refine callsIn_of_wp Try.func187 rfl trivial ?_ rfl
  simp only [Try.ntmps187, List.size_toArray, List.length_cons, List.length_nil, Nat.reduceAdd, Nat.reduceSub, Array.replicate_succ, Array.replicate_zero, List.push_toArray, List.append_toArray, List.nil_append, List.cons_append]
  obtain ⟨c0, -, -, -⟩ := hJm _ W h0
  gi_wp2
  gi_loopw [6] (fun iv wr => ∃ i : Nat, i ≤ R ∧ iv = .int .i64 i ∧ J (i, wr.heap.size) wr) (fun iv _ => R - (intOf iv).toNat)
  case atStart => exact ⟨0, Nat.zero_le _, rfl, h0⟩
  case round =>
    obtain ⟨i, i1, rfl, hJ⟩ := hrel
    by_cases hi : i < R
    · obtain ⟨d0, d1, d2, hrd⟩ := hJm _ wr hJ
      have e1 : i * C ≤ (i + 1) * C := Nat.mul_le_mul_right C (by omega)
      have e2 : (i + 1) * C ≤ R * C := Nat.mul_le_mul_right C (by omega)
      obtain ⟨a', hs1, hs2, hcut⟩ := cutE (some ⟨lb, 0, none⟩) (R * C) (R * C) (i * C) ((i + 1) * C) e1 e2 hrd
      rw [show (i + 1) * C - i * C = C by rw [Nat.add_mul, Nat.one_mul]; omega] at hs1 hs2 hcut
      have w1 : (i : Int) * C = ((i * C : Nat) : Int) := by simp
      have w2 : ((i : Int) + 1) * C = (((i + 1) * C : Nat) : Int) := by simp
      have w3 : IntKind.i64.wrap ((i * C : Nat) : Int) = ((i * C : Nat) : Int) := IntWalk.i64_in _ (by omega)
      have w4 : IntKind.i64.wrap (((i + 1) * C : Nat) : Int) = (((i + 1) * C : Nat) : Int) := IntWalk.i64_in _ (by omega)
      have hea := each_any a' C (R * C - i * C) _ wr hcut
      have HJ := Lib.hid hJ
      have HY := Lib.hid (show ∀ x W, J (i, wr.heap.size) W → FrE W wr.heap.size (fun b => b ≤ x) x C (fun j => A (i * C + j)) → YieldAt Fence.wide (n - 1) Try.prog l #[.int .i64 i, .slice (some ⟨x, 0, none⟩) C C] W fun e W' => e = .returned (.bool true) ∧ J (i + 1, W'.heap.size) W' from fun x W h1 h2 => hY i _ x W hi h1 h2)
      have HE := Lib.hid hea
      clear hJ hY hea hcut hrd
      generalize i * C = p at *
      generalize (i + 1) * C = q at *
      gi_wp2_with (first
        | (refine ⟨trivial, ?_⟩; gi_at_call 110; refine (callsIn_wide.2 HE.out).mono ?_; rintro e w3 ⟨x, rfl, hf, hb⟩; obtain ⟨fn, tmps, assign, body, hy, hR⟩ := HY.out x w3 (hJb _ _ _ HJ.out hb) hf))
      refine hR.mono ?_
      rintro e W3 ⟨rfl, hJ3⟩
      gi_wp2
      go_roundw
      case rel => exact ⟨i + 1, by omega, by go_num, hJ3⟩
      case measure => simp [intOf]; omega
    · obtain rfl : i = R := by omega
      gi_wp2
      go_end0
      exact ⟨⟨_, rfl⟩, _, hJ⟩
end Go.Proofs.Ytejliecmdkmgiaa
namespace Go.Proofs.Ytejliecmdkmgiaa
open Go.RowKit Go.Shelf
theorem infoR : (Try.prog.info? 22).map (fun i => (i.zero, i.size, i.bytes)) = some (some (.slice none 0 0), 1, 24) := by kernel_rfl
def DB (base fb N q : Nat) (B : Nat → Nat) (rs ns : Value) (b : Nat) : Prop := (b = fb ∨ base ≤ b ∧ b < base + 2) ∨ N ≤ b ∨ rs.ownBlock = some b ∨ ns.ownBlock = some b ∨ ∃ t, t < q ∧ b = B t
structure FlB (W : World) (base fb C q q' N : Nat) (B : Nat → Nat) (A : Nat → Int) (rs ns : Value) : Prop where
  fbl : fb < base
  c0 : W.cell? ⟨fb, 0, none⟩ = some rs ∧ W.frozen? ⟨fb, 0, none⟩ = false
  c1 : W.cell? ⟨fb, 1, none⟩ = some ns ∧ W.frozen? ⟨fb, 1, none⟩ = false
  r : W.ownsRow base 22 1 rs q ((List.range q).map fun (j : Nat) => .slice (some ⟨B j, 0, none⟩) C C)
  n : W.ownsRow base 3 1 ns q' ((List.range q').map fun (j : Nat) => .int .i64 (j : Int))
  rN : ∀ b, rs.ownBlock = some b → b < N
  nN : ∀ b, ns.ownBlock = some b → b < N
  r2 : ∀ b, (rs.ownBlock = some b ∨ ns.ownBlock = some b ∨ ∃ j, j < q ∧ b = B j) → base + 2 ≤ b
  rn : ∀ b, rs.ownBlock = some b → ns.ownBlock ≠ some b
  bN : ∀ j, j < q → B j < N
  inj : ∀ i j, i < q → j < q → B i = B j → i = j
  off : ∀ j, j < q → rs.ownBlock ≠ some (B j) ∧ ns.ownBlock ≠ some (B j)
  lie : ∀ j, j < q → PaE W base (DB base fb N q B rs ns) (B j) C C (fun c => A (j * C + c))
  NW : N ≤ W.heap.size
  bs : base ≤ N
theorem grow_row {w w' : World} {base : Nat} {e : TypeId} {v : Value} {n : Nat} {xs : List Value} {r : Option Nat} (h : w.ownsRow base e 1 v n xs) (hg : w.grownBy w' r) (hr : ∀ b, v.ownBlock = some b → r ≠ some b) : w'.ownsRow base e 1 v n xs :=
  h.kept hg (by cases hv : v.ownBlock with
    | none => exact Or.inl rfl
    | some b => exact Or.inr (fun e => hr b hv e.symm))
theorem own_ge {w : World} {base : Nat} {e : TypeId} {v : Value} {n : Nat} {xs : List Value} (h : w.ownsRow base e 1 v n xs) (b : Nat) (hb : v.ownBlock = some b) : base ≤ b ∧ b < w.heap.size := h.lt b hb
section
variable {W W' : World} {base fb C q q' N : Nat} {B : Nat → Nat} {A : Nat → Int} {rs ns : Value}
theorem FlB.grown (h : FlB W base fb C q q' N B A rs ns) {r : Option Nat} (hg : W.grownBy W' r) (hr : ∀ k, r = some k → base ≤ k ∧ k < base + 2) : FlB W' base fb C q q' N B A rs ns := by
  have fz (i : Nat) (u : Value) (hu : W.cell? ⟨fb, i, none⟩ = some u ∧ W.frozen? ⟨fb, i, none⟩ = false) : W'.cell? ⟨fb, i, none⟩ = some u ∧ W'.frozen? ⟨fb, i, none⟩ = false := by
    have hne : some fb ≠ r := fun e => by have := hr fb e.symm; have := h.fbl; omega
    exact ⟨hg.cell hu.1 hne, (World.frozen?_of_block (hg.block fb (World.block_lt_of_cell? W _ hu.1) hne)).trans hu.2⟩
  refine { h with c0 := fz _ _ h.c0, c1 := fz _ _ h.c1, r := grow_row h.r hg (fun b hb e => by have := hr b e; have := h.r2 b (Or.inl hb); omega), n := grow_row h.n hg (fun b hb e => by have := hr b e; have := h.r2 b (Or.inr (Or.inl hb)); omega), NW := Nat.le_trans h.NW hg.size, lie := fun j hj => ?_ }
  cases r with
  | none =>
    have := h.lie j hj
    exact ⟨this.own, this.blk.grown hg (by simp), fun i hi => by
      obtain ⟨s, m, c1, c2, c3, c4⟩ := this.cells i hi
      refine ⟨s, m, hg.cell c1 (by simp), hg.cell c2 (by simp), ?_, fun b hb => ⟨Nat.lt_of_lt_of_le (c4 b hb).1 hg.size, (c4 b hb).2⟩⟩
      exact c3.below ⟨hg.os, hg.tape, hg.output, hg.size, fun k hk => hg.block k hk (by simp)⟩⟩
  | some k =>
    have h1 := hr k rfl
    exact (h.lie j hj).grown hg (by have := h.r2 (B j) (Or.inr (Or.inr ⟨j, hj, rfl⟩)); omega) (Or.inl (Or.inr h1))
theorem FlB.up (h : FlB W base fb C q q' N B A rs ns) {N' : Nat} (h1 : N ≤ N') (h2 : N' ≤ W.heap.size) : FlB W base fb C q q' N' B A rs ns :=
  { h with rN := fun b hb => Nat.lt_of_lt_of_le (h.rN b hb) h1, nN := fun b hb => Nat.lt_of_lt_of_le (h.nN b hb) h1, bN := fun j hj => Nat.lt_of_lt_of_le (h.bN j hj) h1, NW := h2, bs := Nat.le_trans h.bs h1,
           lie := fun j hj => (h.lie j hj).turnD fun b _ hb hd => hb (by rcases hd with e | e | e | e | e; exact Or.inl e; exact Or.inr (Or.inl (by omega)); exact Or.inr (Or.inr (Or.inl e)); exact Or.inr (Or.inr (Or.inr (Or.inl e))); exact Or.inr (Or.inr (Or.inr (Or.inr e)))) }
theorem PaE.grow {w w' : World} {base : Nat} {D : Nat → Prop} {lb n k : Nat} {E : Nat → Int} (h : PaE w base D lb n k E) {r : Option Nat} (hg : w.grownBy w' r) (hr : ∀ d, r = some d → lb ≠ d ∧ D d) : PaE w' base D lb n k E := by
  cases r with
  | none =>
    exact ⟨h.own, h.blk.grown hg (by simp), fun i hi => by
      obtain ⟨s, m, c1, c2, c3, c4⟩ := h.cells i hi
      refine ⟨s, m, hg.cell c1 (by simp), hg.cell c2 (by simp), ?_, fun b hb => ⟨Nat.lt_of_lt_of_le (c4 b hb).1 hg.size, (c4 b hb).2⟩⟩
      exact c3.below ⟨hg.os, hg.tape, hg.output, hg.size, fun k hk => hg.block k hk (by simp)⟩⟩
  | some d => exact h.grown hg (hr d rfl).1 (hr d rfl).2
theorem rows_snoc (C x q : Nat) (B : Nat → Nat) : ((List.range (q + 1)).map fun (j : Nat) => Value.slice (some ⟨if j = q then x else B j, 0, none⟩) C C) = ((List.range q).map fun (j : Nat) => Value.slice (some ⟨B j, 0, none⟩) C C) ++ [Value.slice (some ⟨x, 0, none⟩) C C] := by
  rw [List.range_succ, List.map_append]
  congr 1
  · apply List.map_congr_left
    intro j hj
    rw [if_neg (by have := List.mem_range.1 hj; omega)]
  · simp
theorem FlB.pushRow (h : FlB W base fb C q q' N B A rs ns) (h2 : base + 2 ≤ N) {x g cap : Nat} {w1 : World} (hx : FrE W N (fun b => b ≤ x) x C (fun c => A (q * C + c))) (hg : W.grownBy w1 rs.ownBlock) (hat : rs.ownBlock = some g ∨ W.heap.size ≤ g) (hl : g < w1.heap.size)
    (hown : w1.ownsRow base 22 1 (.slice (some ⟨g, 0, none⟩) (q + 1) cap) (q + 1) (((List.range q).map fun (j : Nat) => Value.slice (some ⟨B j, 0, none⟩) C C) ++ [Value.slice (some ⟨x, 0, none⟩) C C])) :
    FlB (w1.setCell ⟨fb, 0, none⟩ (.slice (some ⟨g, 0, none⟩) (q + 1) cap)) base fb C (q + 1) q' w1.heap.size (fun j => if j = q then x else B j) A (.slice (some ⟨g, 0, none⟩) (q + 1) cap) ns := by
  have g2 := gb_set w1 ⟨fb, 0, none⟩ (.slice (some ⟨g, 0, none⟩) (q + 1) cap)
  have hNx : N ≤ x := hx.own
  have hxW : x < W.heap.size := hx.lt
  have hNW := h.NW
  have hsz := hg.size
  have hbs := h.bs
  have hfb := h.fbl
  have hbg : base ≤ g := (own_ge hown g rfl).1
  have rsb : ∀ b, rs.ownBlock = some b → base ≤ b := fun b hb => (own_ge h.r b hb).1
  have nsb : ∀ b, ns.ownBlock = some b → base ≤ b := fun b hb => (own_ge h.n b hb).1
  have hfr : some fb ≠ rs.ownBlock := fun e => by have := rsb fb e.symm; omega
  have fz (i : Nat) (u : Value) (hu : W.cell? ⟨fb, i, none⟩ = some u ∧ W.frozen? ⟨fb, i, none⟩ = false) : w1.cell? ⟨fb, i, none⟩ = some u ∧ w1.frozen? ⟨fb, i, none⟩ = false :=
    ⟨hg.cell hu.1 hfr, (World.frozen?_of_block (hg.block fb (World.block_lt_of_cell? W _ hu.1) hfr)).trans hu.2⟩
  obtain ⟨k0, k0'⟩ := fz _ _ h.c0
  obtain ⟨k1, k1'⟩ := fz _ _ h.c1
  have hgN : g < N ∧ rs.ownBlock = some g ∨ W.heap.size ≤ g := hat.imp (fun e => ⟨h.rN g e, e⟩) id
  refine ⟨h.fbl, ⟨World.cell?_setCell_same _ _ _ k0, by rw [World.frozen?_setCell]; exact k0'⟩, ⟨by rw [World.cell?_setCell_other _ _ _ _ (by intro e'; injection e' with _ e3 _; omega)]; exact k1, by rw [World.frozen?_setCell]; exact k1'⟩, ?_, ?_, ?_, ?_, ?_, ?_, ?_, ?_, ?_, ?_, ?_, ?_⟩
  · rw [rows_snoc]
    refine grow_row hown g2 fun b hb e => ?_
    simp [Value.ownBlock] at hb e; omega
  · refine grow_row (grow_row h.n hg fun b hb e => h.rn b e hb) g2 fun b hb e => ?_
    have := nsb b hb; simp at e; omega
  · intro b hb; simp [Value.ownBlock] at hb; omega
  · intro b hb; have := h.nN b hb; omega
  · rintro b (hb | hb | ⟨j, hj, hb⟩)
    · simp [Value.ownBlock] at hb
      rcases hgN with ⟨_, e2⟩ | e2
      · exact h.r2 b (Or.inl (by rw [e2, hb]))
      · omega
    · exact h.r2 b (Or.inr (Or.inl hb))
    · have hb : b = if j = q then x else B j := hb
      by_cases hj' : j = q
      · rw [if_pos hj'] at hb; omega
      · rw [if_neg hj'] at hb; exact h.r2 b (Or.inr (Or.inr ⟨j, by omega, hb⟩))
  · intro b hb e
    simp [Value.ownBlock] at hb
    have := h.nN b e
    rcases hgN with ⟨_, e2⟩ | e2
    · exact h.rn b (by rw [e2, hb]) e
    · omega
  · intro j hj
    show (if j = q then x else B j) < _
    split
    · omega
    · have := h.bN j (by omega); omega
  · intro i j hi hj e
    have e : (if i = q then x else B i) = (if j = q then x else B j) := e
    by_cases hi' : i = q <;> by_cases hj' : j = q
    · omega
    · rw [if_pos hi', if_neg hj'] at e; have := h.bN j (by omega); omega
    · rw [if_neg hi', if_pos hj'] at e; have := h.bN i (by omega); omega
    · rw [if_neg hi', if_neg hj'] at e; exact h.inj i j (by omega) (by omega) e
  · intro j hj
    show Value.ownBlock _ ≠ some (if j = q then x else B j) ∧ ns.ownBlock ≠ some (if j = q then x else B j)
    by_cases hj' : j = q
    · rw [if_pos hj']
      refine ⟨fun e => ?_, fun e => ?_⟩
      · simp [Value.ownBlock] at e
        rcases hgN with ⟨e2, _⟩ | e2 <;> omega
      · have := h.nN x e; omega
    · rw [if_neg hj']
      have hb := h.bN j (by omega)
      obtain ⟨o1, o2⟩ := h.off j (by omega)
      refine ⟨fun e => ?_, o2⟩
      simp [Value.ownBlock] at e
      rcases hgN with ⟨_, e2⟩ | e2
      · exact o1 (by rw [e2, e])
      · omega
  · intro j hj
    have hD : DB base fb w1.heap.size (q + 1) (fun j => if j = q then x else B j) (.slice (some ⟨g, 0, none⟩) (q + 1) cap) ns fb := Or.inl (Or.inl rfl)
    show PaE _ _ _ (if j = q then x else B j) _ _ _
    by_cases hj' : j = q
    · rw [if_pos hj', hj']
      have p1 := (hx.mono hbs).turnD (D' := fun b => b ≤ x ∨ W.heap.size ≤ b) fun b hb hd e => by rcases e with e | e; exact hd e; omega
      have p2 := p1.grow hg fun d hd => ⟨fun e => by have := h.rN d hd; omega, Or.inl (by have := h.rN d hd; omega)⟩
      refine (p2.turnD fun b hb hd e => hd ?_).grown g2 (by show x ≠ fb; omega) hD
      rcases e with e | e | e | e | ⟨t, ht, e⟩
      · left; omega
      · omega
      · simp [Value.ownBlock] at e
        rcases hgN with ⟨e2, _⟩ | e2
        · left; omega
        · right; omega
      · left; have := h.nN b e; omega
      · left
        have e : b = if t = q then x else B t := e
        by_cases ht' : t = q
        · rw [if_pos ht'] at e; omega
        · rw [if_neg ht'] at e; have := h.bN t (by omega); omega
    · rw [if_neg hj']
      have hb := h.bN j (by omega)
      have p2 := (h.lie j (by omega)).grow hg fun d hd => ⟨fun e => (h.off j (by omega)).1 (by rw [hd, e]), Or.inr (Or.inr (Or.inl hd))⟩
      refine (p2.turnD fun b hb hd e => hd ?_).grown g2 (by have := (h.lie j (by omega)).own; show B j ≠ fb; omega) hD
      have hbN : b < N := by
        rcases Nat.lt_or_ge b N with hl | hl
        · exact hl
        · exact absurd (Or.inr (Or.inl hl)) hd
      rcases e with e | e | e | e | ⟨t, ht, e⟩
      · exact Or.inl e
      · omega
      · simp [Value.ownBlock] at e
        rcases hgN with ⟨_, e2⟩ | e2
        · exact Or.inr (Or.inr (Or.inl (by rw [e2, e])))
        · omega
      · exact Or.inr (Or.inr (Or.inr (Or.inl e)))
      · have e : b = if t = q then x else B t := e
        by_cases ht' : t = q
        · rw [if_pos ht'] at e; omega
        · rw [if_neg ht'] at e; exact Or.inr (Or.inr (Or.inr (Or.inr ⟨t, by omega, e⟩)))
  · exact g2.size
  · omega
theorem nums_snoc (q : Nat) : ((List.range (q + 1)).map fun (j : Nat) => Value.int .i64 (j : Int)) = ((List.range q).map fun (j : Nat) => Value.int .i64 (j : Int)) ++ [Value.int .i64 (q : Int)] := by
  rw [List.range_succ, List.map_append]; rfl
theorem FlB.pushNum (h : FlB W base fb C q q' N B A rs ns) (h2 : base + 2 ≤ N) {g cap : Nat} {w1 : World} (hg : W.grownBy w1 ns.ownBlock) (hat : ns.ownBlock = some g ∨ W.heap.size ≤ g) (hl : g < w1.heap.size)
    (hown : w1.ownsRow base 3 1 (.slice (some ⟨g, 0, none⟩) (q' + 1) cap) (q' + 1) (((List.range q').map fun (j : Nat) => Value.int .i64 (j : Int)) ++ [Value.int .i64 (q' : Int)])) :
    FlB (w1.setCell ⟨fb, 1, none⟩ (.slice (some ⟨g, 0, none⟩) (q' + 1) cap)) base fb C q (q' + 1) w1.heap.size B A rs (.slice (some ⟨g, 0, none⟩) (q' + 1) cap) := by
  have g2 := gb_set w1 ⟨fb, 1, none⟩ (.slice (some ⟨g, 0, none⟩) (q' + 1) cap)
  have hNW := h.NW
  have hsz := hg.size
  have hbs := h.bs
  have hfb := h.fbl
  have hbg : base ≤ g := (own_ge hown g rfl).1
  have rsb : ∀ b, rs.ownBlock = some b → base ≤ b := fun b hb => (own_ge h.r b hb).1
  have nsb : ∀ b, ns.ownBlock = some b → base ≤ b := fun b hb => (own_ge h.n b hb).1
  have hfr : some fb ≠ ns.ownBlock := fun e => by have := nsb fb e.symm; omega
  have fz (i : Nat) (u : Value) (hu : W.cell? ⟨fb, i, none⟩ = some u ∧ W.frozen? ⟨fb, i, none⟩ = false) : w1.cell? ⟨fb, i, none⟩ = some u ∧ w1.frozen? ⟨fb, i, none⟩ = false :=
    ⟨hg.cell hu.1 hfr, (World.frozen?_of_block (hg.block fb (World.block_lt_of_cell? W _ hu.1) hfr)).trans hu.2⟩
  obtain ⟨k0, k0'⟩ := fz _ _ h.c0
  obtain ⟨k1, k1'⟩ := fz _ _ h.c1
  have hgN : g < N ∧ ns.ownBlock = some g ∨ W.heap.size ≤ g := hat.imp (fun e => ⟨h.nN g e, e⟩) id
  refine ⟨h.fbl, ⟨by rw [World.cell?_setCell_other _ _ _ _ (by intro e'; injection e' with _ e3 _; omega)]; exact k0, by rw [World.frozen?_setCell]; exact k0'⟩, ⟨World.cell?_setCell_same _ _ _ k1, by rw [World.frozen?_setCell]; exact k1'⟩, ?_, ?_, ?_, ?_, ?_, ?_, ?_, h.inj, ?_, ?_, ?_, ?_⟩
  · refine grow_row (grow_row h.r hg fun b hb e => h.rn b hb e) g2 fun b hb e => ?_
    have := rsb b hb; simp at e; omega
  · rw [nums_snoc]
    refine grow_row hown g2 fun b hb e => ?_
    simp [Value.ownBlock] at hb e; omega
  · intro b hb; have := h.rN b hb; omega
  · intro b hb; simp [Value.ownBlock] at hb; omega
  · rintro b (hb | hb | hb)
    · exact h.r2 b (Or.inl hb)
    · simp [Value.ownBlock] at hb
      rcases hgN with ⟨_, e2⟩ | e2
      · exact h.r2 b (Or.inr (Or.inl (by rw [e2, hb])))
      · omega
    · exact h.r2 b (Or.inr (Or.inr hb))
  · intro b hb e
    simp [Value.ownBlock] at e
    have := h.rN b hb
    rcases hgN with ⟨_, e2⟩ | e2
    · exact h.rn b hb (by rw [e2, e])
    · omega
  · intro j hj; have := h.bN j hj; omega
  · intro j hj
    have hb := h.bN j hj
    obtain ⟨o1, o2⟩ := h.off j hj
    refine ⟨o1, fun e => ?_⟩
    simp [Value.ownBlock] at e
    rcases hgN with ⟨_, e2⟩ | e2
    · exact o2 (by rw [e2, e])
    · omega
  · intro j hj
    have hb := h.bN j hj
    have p2 := (h.lie j hj).grow hg fun d hd => ⟨fun e => (h.off j hj).2 (by rw [hd, e]), Or.inr (Or.inr (Or.inr (Or.inl hd)))⟩
    refine (p2.turnD fun b hb hd e => hd ?_).grown g2 (by have := (h.lie j hj).own; show B j ≠ fb; omega) (Or.inl (Or.inl rfl))
    have hbN : b < N := by
      rcases Nat.lt_or_ge b N with hl | hl
      · exact hl
      · exact absurd (Or.inr (Or.inl hl)) hd
    rcases e with e | e | e | e | e
    · exact Or.inl e
    · omega
    · exact Or.inr (Or.inr (Or.inl e))
    · simp [Value.ownBlock] at e
      rcases hgN with ⟨_, e2⟩ | e2
      · exact Or.inr (Or.inr (Or.inr (Or.inl (by rw [e2, e]))))
      · omega
    · exact Or.inr (Or.inr (Or.inr (Or.inr e)))
  · exact g2.size
  · omega
end
end Go.Proofs.Ytejliecmdkmgiaa
namespace Go.Proofs.Ytejliecmdkmgiaa
open Go.RowKit
section
variable {P : Program} {n l : Nat} {Q : Exit → Act → World → Prop} {md : Region.Mode} {ops : Array Oper}
theorem rows_round {row : String} {args : Array Value} {w : World} {R : Value → World → Prop} (h : Rows P row args w R) : RowsIn (Fence.wide.inRound l) n P row args w R :=
  fun c cs _ => let ⟨v, w', r, s⟩ := h c cs; ⟨v, w', r, stepsIn_wide.2 s⟩
theorem op_round {o : Oper} (hd : ∀ c, o.op ≠ .defer c) {a : Act} {w : World} {K : Act → World → Prop} (h : o.wp P a w K Q) : o.wpIn (Fence.wide.inRound l) n P a w K Q := by
  refine ⟨fun f _ => trivial, ?_⟩
  rw [Oper.semAt_eq _ _ _ hd]
  unfold Oper.wp at h
  generalize (execOp a.eval o).run P w = r at h ⊢
  cases r with
  | ok x w' =>
    cases x with
    | value v => exact h
    | skip => exact h
    | defer d => exact h
    | enter f args => exact ⟨fun e => by simp [Fence.wide] at e, CallsIn.inRound l (callsIn_wide.2 h)⟩
    | row row args => exact ⟨fun e => by simp [Fence.wide] at e, rows_round h⟩
    | _ => exact absurd h id
  | halt x w' =>
    cases x with
    | panic v => exact h
    | _ => exact absurd h id
theorem any_round (hops : ∀ o ∈ ops, ∀ c, o.op ≠ .defer c) (hQ : ¬ LetsOut Q) : ∀ (fuel : Nat) (listed : Array Bool) (a : Act) (w : World), wpAny P md ops Q fuel listed a w → wpAnyIn (Fence.wide.inRound l) n P md ops Q fuel listed a w
  | 0, _, _, _, h => h
  | fuel + 1, listed, a, w, h => ⟨h.1, fun i hi => by
    have h2 := h.2 i hi
    unfold wpOp at h2
    unfold wpOpIn
    cases ho : ops[i]? with
    | none => rw [ho] at h2; exact any_round hops hQ fuel _ a w h2
    | some o =>
      rw [ho] at h2
      dsimp only at h2 ⊢
      split
      · rename_i hw
        rw [if_pos hw] at h2
        rcases h2 with h2 | h2
        · exact op_round (hops o (Array.mem_of_getElem? ho)) (Oper.wp_mono (fun a' w' h' => any_round hops hQ fuel _ a' w' h') h2)
        · exact absurd h2.2 hQ
      · rename_i hw
        rw [if_neg hw] at h2
        exact ⟨fun f _ => trivial, any_round hops hQ fuel _ _ _ h2⟩⟩
def tailOff (f : Nat) (l : Array Bool) : Bool := (List.range l.size).all fun j => decide (j < f) || !(l.getD j true)
theorem tailOff_set {f i : Nat} {l : Array Bool} (hi : i < f) : tailOff f (l.setIfInBounds i true) = tailOff f l := by
  unfold tailOff
  rw [Array.size_setIfInBounds]
  refine congrArg _ ?_ |>.trans rfl
  funext j
  by_cases h : i = j
  · subst h; simp [hi]
  · rw [getD_set_ne true h]
def wpAnyL (P : Program) (md : Region.Mode) (ops : Array Oper) (Q : Exit → Act → World → Prop) (S : World → Prop) (f : Nat) : Nat → Array Bool → Act → World → Prop
  | 0, listed, a, w => Region.ready md ops listed = [] ∧ Q .normal a w
  | fuel + 1, listed, a, w =>
    (Region.ready md ops listed = [] → Q .normal a w) ∧
    ∀ i ∈ Region.ready md ops listed, wpOp P ops Q i (fun a' w' => (tailOff f (listed.setIfInBounds i true) = true → S w') ∧ wpAnyL P md ops Q S f fuel (listed.setIfInBounds i true) a' w') a w
theorem any_of_L {S : World → Prop} {f : Nat} : ∀ (fuel : Nat) (listed : Array Bool) (a : Act) (w : World), wpAnyL P md ops Q S f fuel listed a w → wpAny P md ops Q fuel listed a w
  | 0, _, _, _, h => h
  | fuel + 1, _, _, _, h => ⟨h.1, fun i hi => wpOp_mono (fun a' w' h' => any_of_L fuel _ a' w' h'.2) (h.2 i hi)⟩
def waitsB (md : Region.Mode) (ops : Array Oper) (f i : Nat) : Bool := (List.range ops.size).all fun j => decide (j < f) || match ops[j]? with | some o => o.after.any fun e => Region.binds md e && e.on == i | none => false
theorem anyL_first {S : World → Prop} {f i : Nat} {oi : Oper} {v : Value} (hi : ops[i]? = some oi) (hif : i < f) (hsel : ∀ (j : Nat) (o : Oper) cs b, ops[j]? = some o → o.op ≠ .select cs b)
    (hQ : ∀ c a w, Q (.panic c) (a.put oi.dst v) w → Q (.panic c) a w) (hw : waitsB md ops f i = true) :
    ∀ (fuel : Nat) (listed : Array Bool) (a : Act) (w : World),
      (∀ j oj, ops[j]? = some oj → j ≠ i → listed.getD j true = false → (∀ e ∈ oj.after, Region.binds md e = true → e.on ≠ i) → oi.apart ops oj = true) →
      i ∈ Region.ready md ops listed → YieldsIf P ops S oi v a → S w → tailOff f listed = true →
      wpAnyL P md ops Q S f fuel (listed.setIfInBounds i true) (a.put oi.dst v) w → wpAnyL P md ops Q S f (fuel + 1) listed a w := by
  intro fuel
  induction fuel with
  | zero =>
    intro listed a w _ hr hy hS h0 H
    refine ⟨fun h => (by rw [h] at hr; cases hr), fun j hj => ?_⟩
    by_cases hji : j = i
    · subst hji; exact hy.wpOp hi hS ⟨fun _ => hS, H⟩
    · have := ready_mono hj hji
      rw [H.1] at this
      cases this
  | succ fuel ih =>
    intro listed a w hfree hr hy hS h0 H
    refine ⟨fun h => (by rw [h] at hr; cases hr), fun j hj => ?_⟩
    by_cases hji : j = i
    · subst hji; exact hy.wpOp hi hS ⟨fun _ => hS, H⟩
    · have h1 := H.2 j (ready_mono hj hji)
      obtain ⟨hjun, oj, hoj, hall⟩ := mem_ready.1 hj
      have hnot : ∀ e ∈ oj.after, Region.binds md e = true → e.on ≠ i := fun e he hb heq => by
        have h1 := hall e he hb
        have h0 := (mem_ready.1 hr).1
        rw [heq] at h1
        rcases Nat.lt_or_ge i listed.size with h' | h'
        · simp [h'] at h0 h1; rw [h0] at h1; cases h1
        · simp [Array.getElem?_eq_none h'] at h1
      have hjf : j < f := by
        rcases Nat.lt_or_ge j f with h | h
        · exact h
        · exfalso
          unfold waitsB at hw
          have h3 := List.all_eq_true.1 hw j (List.mem_range.2 (Array.getElem?_eq_some_iff.1 hoj).1)
          rw [hoj] at h3
          simp only [Bool.or_eq_true, decide_eq_true_eq] at h3
          rcases h3 with h3 | h3
          · omega
          · obtain ⟨k, hk, he⟩ := Array.any_eq_true.1 h3
            simp only [Bool.and_eq_true, beq_iff_eq] at he
            exact hnot _ (Array.getElem_mem _) he.1 he.2
      have h2 := wpOp_putIf hoj (hfree j oj hoj hji hjun hnot) (fun cs b => hsel i oi cs b hi) (fun cs b => hsel j oj cs b hoj) hQ hy h1
      have hfree' : ∀ k ok, ops[k]? = some ok → k ≠ i → (listed.setIfInBounds j true).getD k true = false →
          (∀ e ∈ ok.after, Region.binds md e = true → e.on ≠ i) → oi.apart ops ok = true := fun k ok hk hki hun hno => by
        refine hfree k ok hk hki ?_ hno
        by_cases hjk : j = k
        · subst hjk; exact hjun
        · rw [getD_set_ne true hjk] at hun; exact hun
      have hcom : (listed.setIfInBounds i true).setIfInBounds j true = (listed.setIfInBounds j true).setIfInBounds i true := Array.setIfInBounds_comm _ _ (Ne.symm hji)
      have htl : tailOff f ((listed.setIfInBounds i true).setIfInBounds j true) = tailOff f (listed.setIfInBounds j true) := by rw [hcom, tailOff_set hif]
      have h00 : tailOff f (listed.setIfInBounds j true) = true := by rw [tailOff_set hjf]; exact h0
      refine wpOp_mono (fun a' w' h3 => ⟨fun _ => h3.2.1 (by rw [htl]; exact h00), ih (listed.setIfInBounds j true) a' w' hfree' (ready_mono hr (Ne.symm hji)) h3.1 (h3.2.1 (by rw [htl]; exact h00)) h00 ?_⟩) h2
      rw [← hcom]
      exact h3.2.2
theorem anyL_firstP {S : World → Prop} {f i : Nat} {oi : Oper} {v : Value} (hi : ops[i]? = some oi) (hif : i < f) (hsel : ∀ (j : Nat) (o : Oper) cs b, ops[j]? = some o → o.op ≠ .select cs b)
    (hQ : ∀ c a w, Q (.panic c) (a.put oi.dst v) w → Q (.panic c) a w) :
    ∀ (fuel : Nat) (listed : Array Bool) (a : Act) (w : World),
      (∀ j oj, ops[j]? = some oj → j ≠ i → listed.getD j true = false → (∀ e ∈ oj.after, Region.binds md e = true → e.on ≠ i) → oi.apart ops oj = true) →
      i ∈ Region.ready md ops listed → YieldsIf P ops (fun _ => True) oi v a → (tailOff f listed = true → S w) →
      wpAnyL P md ops Q S f fuel (listed.setIfInBounds i true) (a.put oi.dst v) w → wpAnyL P md ops Q S f (fuel + 1) listed a w := by
  intro fuel
  induction fuel with
  | zero =>
    intro listed a w _ hr hy hS H
    refine ⟨fun h => (by rw [h] at hr; cases hr), fun j hj => ?_⟩
    by_cases hji : j = i
    · subst hji; exact hy.wpOp hi trivial ⟨fun e => hS (by rw [tailOff_set hif] at e; exact e), H⟩
    · have := ready_mono hj hji
      rw [H.1] at this
      cases this
  | succ fuel ih =>
    intro listed a w hfree hr hy hS H
    refine ⟨fun h => (by rw [h] at hr; cases hr), fun j hj => ?_⟩
    by_cases hji : j = i
    · subst hji; exact hy.wpOp hi trivial ⟨fun e => hS (by rw [tailOff_set hif] at e; exact e), H⟩
    · have h1 := H.2 j (ready_mono hj hji)
      obtain ⟨hjun, oj, hoj, hall⟩ := mem_ready.1 hj
      have hnot : ∀ e ∈ oj.after, Region.binds md e = true → e.on ≠ i := fun e he hb heq => by
        have h1 := hall e he hb
        have h0 := (mem_ready.1 hr).1
        rw [heq] at h1
        rcases Nat.lt_or_ge i listed.size with h' | h'
        · simp [h'] at h0 h1; rw [h0] at h1; cases h1
        · simp [Array.getElem?_eq_none h'] at h1
      have h2 := wpOp_putIf hoj (hfree j oj hoj hji hjun hnot) (fun cs b => hsel i oi cs b hi) (fun cs b => hsel j oj cs b hoj) hQ hy h1
      have hfree' : ∀ k ok, ops[k]? = some ok → k ≠ i → (listed.setIfInBounds j true).getD k true = false →
          (∀ e ∈ ok.after, Region.binds md e = true → e.on ≠ i) → oi.apart ops ok = true := fun k ok hk hki hun hno => by
        refine hfree k ok hk hki ?_ hno
        by_cases hjk : j = k
        · subst hjk; exact hjun
        · rw [getD_set_ne true hjk] at hun; exact hun
      have hcom : (listed.setIfInBounds i true).setIfInBounds j true = (listed.setIfInBounds j true).setIfInBounds i true := Array.setIfInBounds_comm _ _ (Ne.symm hji)
      have htl : tailOff f ((listed.setIfInBounds i true).setIfInBounds j true) = tailOff f (listed.setIfInBounds j true) := by rw [hcom, tailOff_set hif]
      refine wpOp_mono (fun a' w' h3 => ⟨fun e => h3.2.1 (by rw [htl]; exact e), ih (listed.setIfInBounds j true) a' w' hfree' (ready_mono hr (Ne.symm hji)) h3.1 (fun e => h3.2.1 (by rw [htl]; exact e)) ?_⟩) h2
      rw [← hcom]
      exact h3.2.2
theorem anyL_take {S : World → Prop} {f i : Nat} {oi : Oper} {v : Value} {fuel : Nat} {listed : Array Bool} {a : Act} {w : World} (hi : ops[i]? = some oi)
    (hs : Region.noSelect ops = true) (hfr : Region.free md ops listed i = true) (hr : (Region.ready md ops listed).contains i = true) (hf : (waitsB md ops f i && tailOff f listed && decide (i < f)) = true)
    (hQ : ∀ c a w, Q (.panic c) (a.put oi.dst v) w → Q (.panic c) a w) (hy : YieldsIf P ops S oi v a) (hS : S w)
    (h : wpAnyL P md ops Q S f fuel (listed.setIfInBounds i true) (a.put oi.dst v) w) : wpAnyL P md ops Q S f (fuel + 1) listed a w := by
  simp only [Bool.and_eq_true, decide_eq_true_eq] at hf
  exact anyL_first hi hf.2 (Region.noSelect_spec hs) hQ hf.1.1 fuel listed a w (Region.free_spec hi hfr) (by simpa using hr) hy hS hf.1.2 h
theorem anyL_pure {S : World → Prop} {f i : Nat} {oi : Oper} {v : Value} {fuel : Nat} {listed : Array Bool} {a : Act} {w : World} (hi : ops[i]? = some oi)
    (hs : Region.noSelect ops = true) (hfr : Region.free md ops listed i = true) (hr : (Region.ready md ops listed).contains i = true) (hf : decide (i < f) = true)
    (hQ : ∀ c a w, Q (.panic c) (a.put oi.dst v) w → Q (.panic c) a w) (hy : YieldsIf P ops (fun _ => True) oi v a) (hS : S w)
    (h : wpAnyL P md ops Q S f fuel (listed.setIfInBounds i true) (a.put oi.dst v) w) : wpAnyL P md ops Q S f (fuel + 1) listed a w :=
  anyL_firstP hi (of_decide_eq_true hf) (Region.noSelect_spec hs) hQ fuel listed a w (Region.free_spec hi hfr) (by simpa using hr) hy (fun _ => hS) h
theorem anyL_done {S : World → Prop} {f : Nat} {listed : Array Bool} {a : Act} {w : World} (hr : Region.ready md ops listed = []) (h : Q .normal a w) : ∀ fuel, wpAnyL P md ops Q S f fuel listed a w
  | 0 => ⟨hr, h⟩
  | _ + 1 => ⟨fun _ => h, by rw [hr]; simp⟩
theorem anyL_one {S : World → Prop} {f i fuel : Nat} {o : Oper} {listed : Array Bool} {a : Act} {w : World} (hr : Region.ready md ops listed = [i]) (ho : ops[i]? = some o) (hw : Region.wanted o (yielded ops a.tmps) = true)
    (h : ∀ K : Act → World → Prop, (∀ a' w', (tailOff f (listed.setIfInBounds i true) = true → S w') → wpAnyL P md ops Q S f fuel (listed.setIfInBounds i true) a' w' → K a' w') → o.wp P a w K Q) : wpAnyL P md ops Q S f (fuel + 1) listed a w := by
  refine ⟨fun h0 => (by rw [hr] at h0; cases h0), fun j hj => ?_⟩
  rw [hr] at hj
  obtain rfl : j = i := by simpa using hj
  unfold wpOp
  rw [ho]
  dsimp only
  rw [if_pos hw]
  exact Or.inl (h _ fun a' w' h1 h2 => ⟨h1, h2⟩)
theorem anyL_two {S : World → Prop} {f i j fuel : Nat} {o o' : Oper} {listed : Array Bool} {a : Act} {w : World} (hr : Region.ready md ops listed = [i, j]) (ho : ops[i]? = some o) (hw : Region.wanted o (yielded ops a.tmps) = true) (ho' : ops[j]? = some o') (hw' : Region.wanted o' (yielded ops a.tmps) = true)
    (h : ∀ K : Act → World → Prop, (∀ a' w', (tailOff f (listed.setIfInBounds i true) = true → S w') → wpAnyL P md ops Q S f fuel (listed.setIfInBounds i true) a' w' → K a' w') → o.wp P a w K Q)
    (h' : ∀ K : Act → World → Prop, (∀ a' w', (tailOff f (listed.setIfInBounds j true) = true → S w') → wpAnyL P md ops Q S f fuel (listed.setIfInBounds j true) a' w' → K a' w') → o'.wp P a w K Q) : wpAnyL P md ops Q S f (fuel + 1) listed a w := by
  refine ⟨fun h0 => (by rw [hr] at h0; cases h0), fun t ht => ?_⟩
  rw [hr] at ht
  simp only [List.mem_cons, List.not_mem_nil, or_false] at ht
  unfold wpOp
  rcases ht with rfl | rfl
  · rw [ho]
    dsimp only
    rw [if_pos hw]
    exact Or.inl (h _ fun a' w' h1 h2 => ⟨h1, h2⟩)
  · rw [ho']
    dsimp only
    rw [if_pos hw']
    exact Or.inl (h' _ fun a' w' h1 h2 => ⟨h1, h2⟩)
def noDefer (o : Oper) : Bool := match o.op with | .defer _ => false | _ => true
theorem region_held (S : World → Prop) (f : Nat) {id : Nat} {a : Act} {w : World} (hm : P.follows .mixedOrders = true)
    (h : wpAnyL P .any ops Q S f ops.size (Array.replicate ops.size false) a w.drew) : (Code.region id ops true).wp P Q a w := wp_region_any hm (any_of_L _ _ _ _ h)
theorem region_round (S : World → Prop) (f : Nat) {id : Nat} {a : Act} {w : World} (hm : P.follows .mixedOrders = true) (hd : ops.all noDefer = true) (hQ : ¬ LetsOut Q)
    (h : wpAnyL P .any ops Q S f ops.size (Array.replicate ops.size false) a w.drew) : (Code.region id ops true).wpIn (Fence.wide.inRound l) n P Q a w := by
  refine wpIn_region_any hm (any_round (fun o ho c e => ?_) hQ _ _ _ _ (any_of_L _ _ _ _ h))
  have := Array.all_eq_true_iff_forall_mem.1 hd o ho
  unfold noDefer at this
  rw [e] at this
  cases this
end
end Go.Proofs.Ytejliecmdkmgiaa
namespace Go.Proofs.Ytejliecmdkmgiaa
open Go.RowKit
def OwnL (w : World) (base : Nat) (e : TypeId) (v : Value) (n : Nat) (F : Nat → Value) : Prop := w.ownsRow base e 1 v n ((List.range n).map F)
theorem OwnL.cell {w : World} {base : Nat} {e : TypeId} {v : Value} {n : Nat} {F : Nat → Value} (h : OwnL w base e v n F) (hn : 0 < n) : ∃ g cap, v = .slice (some ⟨g, 0, none⟩) n cap ∧ n ≤ cap ∧ base ≤ g ∧ g < w.heap.size ∧ ∀ i, i < n → w.cell? ⟨g, i, none⟩ = some (F i) ∧ w.frozen? ⟨g, i, none⟩ = false := by
  obtain ⟨h0, h⟩ := h
  rcases h with ⟨rfl, h⟩ | ⟨g, cap, cur, rfl, h2, h3, h4, h5, h6, h7⟩
  · omega
  · refine ⟨g, cap, rfl, h4, h2, (Array.getElem?_eq_some_iff.1 h3).1, fun i hi => ⟨?_, ?_⟩⟩
    · rw [cell_of_row _ _ _ _ _ _ h3]
      have := congrArg (·[i]?) h7
      rw [List.getElem?_take, if_pos (by omega)] at this
      simpa [hi] using this
    · unfold World.frozen?
      simp only [h3]; simp
theorem OwnL.slice {w : World} {base : Nat} {e : TypeId} {v : Value} {n : Nat} {F : Nat → Value} (h : OwnL w base e v n F) : ∃ a cap, v = .slice a n cap ∧ n ≤ cap ∧ cap ≤ maxLen := by
  obtain ⟨h0, h⟩ := h
  rcases h with ⟨rfl, rfl⟩ | ⟨g, cap, cur, rfl, h2, h3, h4, h5, h6, h7⟩
  · exact ⟨none, 0, rfl, Nat.le_refl _, Nat.zero_le _⟩
  · exact ⟨_, cap, rfl, h4, h5⟩
theorem OwnL.congr {w : World} {base : Nat} {e : TypeId} {v : Value} {n : Nat} {F G : Nat → Value} (h : OwnL w base e v n F) (hF : ∀ i, i < n → F i = G i) : OwnL w base e v n G := by
  have e : (List.range n).map F = (List.range n).map G := List.map_congr_left fun i hi => hF i (List.mem_range.1 hi)
  unfold OwnL at *
  rw [← e]; exact h
theorem OwnL.grow {w w' : World} {base : Nat} {e : TypeId} {v : Value} {n : Nat} {F : Nat → Value} {r : Option Nat} (h : OwnL w base e v n F) (hg : w.grownBy w' r) (hr : ∀ b, v.ownBlock = some b → r ≠ some b) : OwnL w' base e v n F := grow_row h hg hr
theorem OwnL.set {w : World} {base : Nat} {e : TypeId} {g n cap : Nat} {F : Nat → Value} (h : OwnL w base e (.slice (some ⟨g, 0, none⟩) n cap) n F) {i : Nat} (hi : i < n) (u : Value) : OwnL (w.setCell ⟨g, i, none⟩ u) base e (.slice (some ⟨g, 0, none⟩) n cap) n (fun j => if j = i then u else F j) := by
  obtain ⟨h0, h⟩ := h
  rcases h with ⟨h, _⟩ | ⟨g', cap', cur, h1, h2, h3, h4, h5, h6, h7⟩
  · simp at h
  · simp only [Value.slice.injEq, Option.some.injEq, Addr.mk.injEq, and_true, true_and] at h1
    obtain ⟨rfl, rfl⟩ := h1
    refine ⟨by simp, Or.inr ⟨g, cap, cur.setIfInBounds i u, rfl, h2, heap_setCell_same w g i cur e u h3, h4, h5, by simp [h6], ?_⟩⟩
    apply List.ext_getElem?
    intro j
    have := congrArg (·[j]?) h7
    simp only [List.getElem?_take, Nat.mul_one] at this ⊢
    by_cases hj : j < n
    · rw [if_pos hj] at this ⊢
      by_cases e : i = j
      · subst e
        simp [hi, h6, show i < cap by omega]
      · simp [e, hj, Ne.symm e] at this ⊢
        exact this
    · rw [if_neg hj]
      simp [show ¬ j < n from hj]
def DF (fb m : Nat) (B : Nat → Nat) (rs ns : Value) (b : Nat) : Prop := b = fb ∨ rs.ownBlock = some b ∨ ns.ownBlock = some b ∨ ∃ t, t < m ∧ b = B t
abbrev RowV (C : Nat) (B : Nat → Nat) (j : Nat) : Value := .slice (some ⟨B j, 0, none⟩) C C
def DX (X : Nat → Prop) (fb m : Nat) (B : Nat → Nat) (rs ns : Value) (b : Nat) : Prop := DF fb m B rs ns b ∨ X b
structure Fl (X : Nat → Prop) (W : World) (base fb m C : Nat) (B : Nat → Nat) (G : Nat → Nat → Int) (tn : Bool) (last : Int) (k : Nat) (rs ns : Value) : Prop where
  own : base ≤ fb
  xlt : ∀ b, X b → b < W.heap.size
  c0 : W.cell? ⟨fb, 0, none⟩ = some rs ∧ W.frozen? ⟨fb, 0, none⟩ = false
  c1 : W.cell? ⟨fb, 1, none⟩ = some ns ∧ W.frozen? ⟨fb, 1, none⟩ = false
  c2 : W.cell? ⟨fb, 2, none⟩ = some (.bool tn) ∧ W.frozen? ⟨fb, 2, none⟩ = false
  c3 : ∃ s mv, (W.cell? ⟨fb, 3, none⟩ = some (.bool s) ∧ W.frozen? ⟨fb, 3, none⟩ = false) ∧ (W.cell? ⟨fb, 4, none⟩ = some mv ∧ W.frozen? ⟨fb, 4, none⟩ = false) ∧ RdZ W (.agg #[.bool s, mv]) last ∧ ∀ b, mv.ownBlock = some b → b < W.heap.size ∧ ¬ DX X fb m B rs ns b
  c5 : W.cell? ⟨fb, 5, none⟩ = some (.int .i64 k) ∧ W.frozen? ⟨fb, 5, none⟩ = false
  r : OwnL W base 22 rs m (RowV C B)
  n : ∃ f : Nat → Int, OwnL W base 3 ns m (fun j => .int .i64 (f j))
  rf : rs.ownBlock ≠ some fb ∧ ns.ownBlock ≠ some fb ∧ ∀ b, rs.ownBlock = some b → ns.ownBlock ≠ some b
  inj : ∀ i j, i < m → j < m → B i = B j → i = j
  off : ∀ j, j < m → rs.ownBlock ≠ some (B j) ∧ ns.ownBlock ≠ some (B j) ∧ B j ≠ fb
  lie : ∀ j, j < m → PaE W base (DX X fb m B rs ns) (B j) C C (G j)
end Go.Proofs.Ytejliecmdkmgiaa
namespace Go.Proofs.Ytejliecmdkmgiaa
open Go.RowKit Go.Shelf
attribute [local go_sem] Oper.semAt_some
structure RestF (W : World) (fb : Nat) (s : Bool) (m : Value) : Prop where
  c2 : W.cell? ⟨fb, 2, none⟩ = some (.bool false) ∧ W.frozen? ⟨fb, 2, none⟩ = false
  c3 : W.cell? ⟨fb, 3, none⟩ = some (.bool s) ∧ W.frozen? ⟨fb, 3, none⟩ = false
  c4 : W.cell? ⟨fb, 4, none⟩ = some m ∧ W.frozen? ⟨fb, 4, none⟩ = false
  c5 : W.cell? ⟨fb, 5, none⟩ = some (.int .i64 0) ∧ W.frozen? ⟨fb, 5, none⟩ = false
theorem kept_cell {W W' : World} {r : Option Nat} (hg : W.grownBy W' r) {b i : Nat} {u : Value} (hb : r ≠ some b) (hu : W.cell? ⟨b, i, none⟩ = some u ∧ W.frozen? ⟨b, i, none⟩ = false) : W'.cell? ⟨b, i, none⟩ = some u ∧ W'.frozen? ⟨b, i, none⟩ = false :=
  ⟨hg.cell hu.1 (fun e => hb e.symm), (World.frozen?_of_block (hg.block b (World.block_lt_of_cell? W _ hu.1) (fun e => hb e.symm))).trans hu.2⟩
theorem kept_set {W : World} {b i j : Nat} {u v : Value} (hb : i ≠ j) (hu : W.cell? ⟨b, i, none⟩ = some u ∧ W.frozen? ⟨b, i, none⟩ = false) : (W.setCell ⟨b, j, none⟩ v).cell? ⟨b, i, none⟩ = some u ∧ (W.setCell ⟨b, j, none⟩ v).frozen? ⟨b, i, none⟩ = false :=
  ⟨by rw [World.cell?_setCell_other _ _ _ _ (by intro e'; injection e' with _ e3 _; omega)]; exact hu.1, by rw [World.frozen?_setCell]; exact hu.2⟩
theorem RestF.grown {W W' : World} {fb : Nat} {s : Bool} {m : Value} (h : RestF W fb s m) {r : Option Nat} (hg : W.grownBy W' r) (hb : r ≠ some fb) : RestF W' fb s m :=
  ⟨kept_cell hg hb h.c2, kept_cell hg hb h.c3, kept_cell hg hb h.c4, kept_cell hg hb h.c5⟩
theorem RestF.set {W : World} {fb j : Nat} {s : Bool} {m v : Value} (h : RestF W fb s m) (hj : j < 2) : RestF (W.setCell ⟨fb, j, none⟩ v) fb s m :=
  ⟨kept_set (by omega) h.c2, kept_set (by omega) h.c3, kept_set (by omega) h.c4, kept_set (by omega) h.c5⟩
theorem field_new (w2 : World) (am : Option Addr) (an ac : Nat) {w3 : World} (h : (w2.alloc (.cells #[.slice none 0 0, .slice none 0 0, .bool false, .bool false, .slice am an ac, .int .i64 0] 126)).alloc (.cells #[.pointer (some ⟨w2.heap.size, 0, none⟩)] 122) = w3) :
    (w3.cell? ⟨w2.heap.size, 0, none⟩ = some (.slice none 0 0) ∧ w3.frozen? ⟨w2.heap.size, 0, none⟩ = false) ∧ (w3.cell? ⟨w2.heap.size, 1, none⟩ = some (.slice none 0 0) ∧ w3.frozen? ⟨w2.heap.size, 1, none⟩ = false) ∧
    RestF w3 w2.heap.size false (.slice am an ac) ∧ w3.cell? ⟨w2.heap.size + 1, 0, none⟩ = some (.pointer (some ⟨w2.heap.size, 0, none⟩)) ∧ w3.heap.size = w2.heap.size + 2 := by
  obtain ⟨u, hu⟩ : ∃ u, u = w2.alloc (.cells #[.slice none 0 0, .slice none 0 0, .bool false, .bool false, .slice am an ac, .int .i64 0] 126) := ⟨_, rfl⟩
  rw [← hu] at h
  have su : u.heap.size = w2.heap.size + 1 := by rw [hu]; simp
  have hb : Below u.heap.size u w3 := by rw [← h]; exact (Below.refl _ _).alloc (Nat.le_refl _) _
  have hh : u.heap[w2.heap.size]? = some (.cells #[.slice none 0 0, .slice none 0 0, .bool false, .bool false, .slice am an ac, .int .i64 0] 126 (0, 0)) := by rw [hu]; exact heap_alloc_new w2 _
  have k (i : Nat) (y : Value) (hy : [Value.slice none 0 0, .slice none 0 0, .bool false, .bool false, .slice am an ac, .int .i64 0][i]? = some y) : w3.cell? ⟨w2.heap.size, i, none⟩ = some y ∧ w3.frozen? ⟨w2.heap.size, i, none⟩ = false := by
    have c : u.cell? ⟨w2.heap.size, i, none⟩ = some y := by rw [cell_of_row _ _ _ _ _ _ hh]; simpa using hy
    have f : u.frozen? ⟨w2.heap.size, i, none⟩ = false := by unfold World.frozen?; simp only; rw [hh]; simp
    exact ⟨cell_stays hb c, froz_stays hb c f⟩
  refine ⟨k 0 _ rfl, k 1 _ rfl, ⟨k 2 _ rfl, k 3 _ rfl, k 4 _ rfl, k 5 _ rfl⟩, ?_, by rw [← h]; simp [su]⟩
  rw [← h, ← su]; exact cell1_new u _ _
def OfI (w4 : World) (fb C : Nat) (A : Nat → Int) (s : Bool) (m : Value) (p : Nat × Nat) (W : World) : Prop :=
  w4.grownBy W (some fb) ∧ RestF W fb s m ∧ ∃ B rs ns, FlB W w4.heap.size fb C p.1 p.1 p.2 B A rs ns
theorem rowc_cells {w : World} {base : Nat} {e : TypeId} {v : Value} {n : Nat} {xs : List Value} (h : w.ownsRow base e 1 v n xs) (j : Nat) (o : Obj) (hj : v.ownBlock = some j) (ho : w.heap[j]? = some o) : o.isCells = true := by
  rcases h.2 with ⟨rfl, _⟩ | ⟨g, cap, cur, rfl, h2, h3, h4⟩
  · simp [Value.ownBlock] at hj
  · simp [Value.ownBlock] at hj
    subst hj
    rw [h3] at ho
    cases ho; rfl
theorem gb_then {w W W' : World} {fb : Nat} (h : w.grownBy W (some fb)) {r : Option Nat} (hg : W.grownBy W' r) (hr : ∀ k, r = some k → w.heap.size ≤ k ∨ k = fb) : w.grownBy W' (some fb) :=
  ⟨hg.os.trans h.os, hg.tape.trans h.tape, hg.output.trans h.output, Nat.le_trans h.size hg.size, fun k hk hne =>
    (hg.block k (Nat.lt_of_lt_of_le hk h.size) (fun e => by rcases hr k e.symm with e2 | e2; omega; exact hne (by rw [e2]))).trans (h.block k hk hne)⟩
theorem OfI.abid (w4 : World) (fb C : Nat) (hfb : fb < w4.heap.size) (A : Nat → Int) (s : Bool) (m : Value) : Abid w4.heap.size (OfI w4 fb C A s m) := by
  rintro p W W' r ⟨h1, h2, B, rs, ns, h3⟩ hg hr
  exact ⟨gb_then h1 hg fun k e => Or.inl (by have := hr k e; omega), h2.grown hg (fun e => by have := hr fb e; omega), B, rs, ns, h3.grown hg fun k e => by have := hr k e; omega⟩
theorem OfI.up {w4 : World} {fb C : Nat} {A : Nat → Int} {s : Bool} {m : Value} {i b : Nat} {W : World} (h : OfI w4 fb C A s m (i, b) W) : OfI w4 fb C A s m (i, W.heap.size) W := by
  obtain ⟨h1, h2, B, rs, ns, h3⟩ := h
  exact ⟨h1, h2, B, rs, ns, h3.up h3.NW (Nat.le_refl _)⟩
theorem of_any (R C : Nat) (sl : Value) (A : Nat → Int) (w : World) (hR : R ≤ 64) (hC : C ≤ 64) (hr : RdE w sl (R * C) A) :
    Calls Try.prog 115 #[.agg #[.int .i64 R, .int .i64 C, sl]] w fun e w' => ∃ fb B rs ns, e = .returned (.pointer (some ⟨fb, 0, none⟩)) ∧ Fl (fun _ => False) w' w.heap.size fb R C B (fun i j => A (i * C + j)) false 1 0 rs ns ∧ Below w.heap.size w w' := by
  refine (callsIn_wide (n := 9)).1 ?_
  refine callsIn_of_wp_marks Try.func115 rfl trivial ?_ rfl
  simp only [Try.ntmps115, List.size_toArray, List.length_cons, List.length_nil, Nat.reduceAdd, Nat.reduceSub, Array.replicate_succ, Array.replicate_zero, List.push_toArray, List.append_toArray, List.nil_append, List.cons_append]
  obtain ⟨a, cap, rfl, hcap⟩ := hr.slice
  have k1 := three_cells w (.int .i64 R) (.int .i64 C) (.slice a (R * C) cap) 24
  have hB : Below w.heap.size w (w.alloc (.cells #[.int .i64 R, .int .i64 C, .slice a (R * C) cap] 24)) := (Below.refl _ _).alloc (Nat.le_refl _) _
  have hsz : (w.alloc (.cells #[.int .i64 R, .int .i64 C, .slice a (R * C) cap] 24)).heap.size = w.heap.size + 1 := by simp
  have c0 := (k1 0 _ rfl).1
  have c1 := (k1 1 _ rfl).1
  have c2 := (k1 2 _ rfl).1
  have hof := zOf_fr 1 (by omega) (by omega) (w.alloc (.cells #[.int .i64 R, .int .i64 C, .slice a (R * C) cap] 24))
  have hli := fun u hu => Lines_good R C (.slice a (R * C) cap) A u hR hC (hr.below hu)
  have HOF := Lib.hid hof
  have HLI := Lib.hid hli
  have HB := Lib.hid hB
  clear hof hli hB hr k1
  gi_wp2
  generalize w.alloc (.cells #[.int .i64 R, .int .i64 C, .slice a (R * C) cap] 24) = w1 at *
  refine ⟨trivial, (callsIn_wide.2 HOF.out).mono ?_⟩
  rintro e w2 ⟨v, rfl, hf, hb⟩
  obtain ⟨am, an, ac, rfl, ho⟩ := hf.agg
  have hs1 := HB.out.size
  have hs2 := hb.size
  have HB2 := Lib.hid (HB.out.trans (hb.mono hs1))
  have hlast : RdZ w2 (.agg #[.bool false, .slice am an ac]) 1 := by have := hf.rd (S := 1) (by unfold ZB; omega) (by omega); simpa using this
  replace c0 := cell_stays hb c0
  replace c1 := cell_stays hb c1
  replace c2 := cell_stays hb c2
  have hb3 : Below w2.heap.size w2 ((w2.alloc (.cells #[.slice none 0 0, .slice none 0 0, .bool false, .bool false, .slice am an ac, .int .i64 0] 126)).alloc (.cells #[.pointer (some ⟨w2.heap.size, 0, none⟩)] 122)) :=
    ((Below.refl _ _).alloc (Nat.le_refl _) _).alloc (by simp) _
  replace c0 := cell_stays hb3 c0
  replace c1 := cell_stays hb3 c1
  replace c2 := cell_stays hb3 c2
  gi_wp2
  generalize hw3 : (w2.alloc (.cells #[.slice none 0 0, .slice none 0 0, .bool false, .bool false, .slice am an ac, .int .i64 0] 126)).alloc (.cells #[.pointer (some ⟨w2.heap.size, 0, none⟩)] 122) = w3 at *
  have hs3 := hb3.size
  refine ⟨trivial, (callsIn_wide.2 (HLI.out w3 (HB2.out.trans (hb3.mono HB2.out.size)))).mono ?_⟩
  rintro e w4 ⟨mb, lb, rfl, hsh, hfr, hmb, hb4⟩
  gi_wp2
  obtain ⟨n0, n1, nr, np, ns⟩ := field_new w2 am an ac hw3
  have h4s := hb4.size
  have p0 := cell_stays hb4 np
  have pf := fun i u (h : w3.cell? ⟨w2.heap.size, i, none⟩ = some u ∧ w3.frozen? ⟨w2.heap.size, i, none⟩ = false) => kept_cell (gb_below hb4 none) (by simp) h
  have m0 := pf _ _ n0
  have m1 := pf _ _ n1
  have mr : RestF w4 w2.heap.size false (.slice am an ac) := nr.grown (gb_below hb4 none) (by simp)
  have hlb : w3.heap.size ≤ lb := hfr.own
  have hmbs : mb < w4.heap.size := World.block_lt_of_cell? w4 _ hsh.c0
  have hfb : w2.heap.size < w4.heap.size := by omega
  have hI0 : OfI w4 w2.heap.size C A false (.slice am an ac) (0, w4.heap.size) w4 :=
    ⟨gb_below (Below.refl _ _) _, mr, fun _ => 0, .slice none 0 0, .slice none 0 0, ⟨hfb, m0, m1, World.ownsRow_nil _ _ _ _, World.ownsRow_nil _ _ _ _, fun b hb => by simp [Value.ownBlock] at hb, fun b hb => by simp [Value.ownBlock] at hb, fun b hb => by simp [Value.ownBlock] at hb, fun b hb => by simp [Value.ownBlock] at hb, fun j hj => by omega, fun i j hi => by omega, fun j hj => by omega, fun j hj => by omega, Nat.le_refl _, Nat.le_refl _⟩⟩
  refine range_rows (n := 9) (by omega) (gf := 187) (lb := #[.pointer (some ⟨mb, 0, none⟩)]) rfl (enters_of Try.func187 (by kernel_rfl) rfl) (fun (i x : Nat) => #[.int .i64 i, .slice (some ⟨x, 0, none⟩) C C]) (fun _ _ => rfl) R
    (fun p W => w4.heap.size + 2 ≤ p.2.1 ∧ RowE C A p W) ?row (OfI w4 w2.heap.size C A false (.slice am an ac)) (OfI.abid w4 _ C hfb A _ _) (fun i b W h => h.up) ?seq hI0
    (fun i x => { tmps := #[.agg #[.int .i64 R, .int .i64 C, .slice a (R * C) cap], .pointer (some ⟨w.heap.size, 0, none⟩), .pointer none, .pointer (some ⟨w2.heap.size + 1, 0, none⟩), .int .i64 i, .slice (some ⟨x, 0, none⟩) C C, .agg #[.bool false, .slice am an ac],
      .agg #[.slice none 0 0, .slice none 0 0, .bool false, .bool false, .slice am an ac, .int .i64 0], .pointer (some ⟨w2.heap.size, 0, none⟩), .agg #[.int .i64 R, .int .i64 C, .slice a (R * C) cap], .func (.func 187) #[] #[.pointer (some ⟨mb, 0, none⟩)], .int .i64 i, .slice (some ⟨x, 0, none⟩) C C,
      undef, undef, undef, undef, undef, undef, undef, undef, undef, undef, undef, undef, undef, undef, undef, undef, undef, undef, undef, undef, undef], defers := [] }) ?assign ?body ?done
  case row =>
    rintro ⟨i, b, x⟩ W W' r ⟨hb, hrow⟩ hg hr
    refine ⟨hb, hrow.grow hg fun d hd => ?_⟩
    have h1 := hr d hd
    have h2 : b ≤ x := hrow.own
    have hb : w4.heap.size + 2 ≤ b := hb
    exact ⟨by show x ≠ d; omega, by show d ≤ x; omega⟩
  case seq =>
    intro l J W j1 j2 j3 j4 j5
    refine lines1_in 8 (by omega) mb lb R C A hR hC l J W j1 j2 (fun p W h => ?_) (fun i b x W hi hj hrow => j4 i b x W hi hj ⟨(j3 _ _ hj).2, hrow⟩) j5
    obtain ⟨⟨hg, -⟩, -⟩ := j3 p W h
    refine ⟨hg.cell hsh.c0 (by simp; omega), hg.cell hsh.c1 (by simp; omega), hg.cell hsh.c2 (by simp; omega), ?_⟩
    exact (hfr.grown hg (by omega) (by show w2.heap.size ≤ lb; omega)).rd (Nat.le_refl _) (by have : R * C ≤ 64 * 64 := Nat.mul_le_mul hR hC; omega)
  case assign =>
    intro l i x W K hK
    gi_wp2
    exact hK
  case body =>
    rintro l i b x W hi hb2 ⟨hg, hrest, B, rs, ns, hst⟩ ⟨-, hrow⟩
    have hmix : Try.prog.follows .mixedOrders = true := by kernel_rfl
    have hp : W.cell? ⟨w2.heap.size + 1, 0, none⟩ = some (.pointer (some ⟨w2.heap.size, 0, none⟩)) := hg.cell p0 (by simp)
    obtain ⟨q0, q0'⟩ := hst.c0
    obtain ⟨q1, q1'⟩ := hst.c1
    have HST := Lib.hid hst
    have HROW := Lib.hid hrow
    have HRE := Lib.hid hrest
    clear hst hrow hrest
    gi_wp2
    obtain ⟨i0, hri, hz0, hz1, hz2⟩ := info_parts infoR
    obtain ⟨i0n, hrin, hz0n, hz1n, hz2n⟩ := info_parts infoN
    have hWs := hg.size
    refine region_round (fun u => u.cell? ⟨w2.heap.size + 1, 0, none⟩ = some (.pointer (some ⟨w2.heap.size, 0, none⟩)) ∧ u.cell? ⟨w2.heap.size, 0, none⟩ = some rs) 10 hmix (by kernel_rfl) (by rintro ⟨a', w', h'⟩; exact h') ?_
    have hS : W.drew.cell? ⟨w2.heap.size + 1, 0, none⟩ = some (.pointer (some ⟨w2.heap.size, 0, none⟩)) ∧ W.drew.cell? ⟨w2.heap.size, 0, none⟩ = some rs := ⟨hp, q0⟩
    refine anyL_take (i := 0) (v := .pointer (some ⟨w2.heap.size, 0, none⟩)) rfl (by kernel_rfl) (by kernel_rfl) (by kernel_rfl) (by kernel_rfl) (fun _ _ _ h => h) (Or.inl ⟨by rfl, ?_⟩) hS ?_
    · intro u hu
      obtain ⟨u1, u2⟩ := hu
      go_simp
    simp only [Act.put, List.setIfInBounds_toArray, List.set_cons_zero, List.set_cons_succ]
    refine anyL_take (i := 1) (v := .pointer (some ⟨w2.heap.size, 0, none⟩)) rfl (by kernel_rfl) (by kernel_rfl) (by kernel_rfl) (by kernel_rfl) (fun _ _ _ h => h) (Or.inl ⟨by rfl, ?_⟩) hS ?_
    · intro u hu
      obtain ⟨u1, u2⟩ := hu
      go_simp
    simp only [Act.put, List.setIfInBounds_toArray, List.set_cons_zero, List.set_cons_succ]
    refine anyL_pure (i := 2) (v := .pointer (some ⟨w2.heap.size, 0, none⟩)) rfl (by kernel_rfl) (by kernel_rfl) (by kernel_rfl) (by kernel_rfl) (fun _ _ _ h => h) (Or.inl ⟨by rfl, ?_⟩) hS ?_
    · intro u hu
      go_simp
    simp only [Act.put, List.setIfInBounds_toArray, List.set_cons_zero, List.set_cons_succ]
    refine anyL_pure (i := 3) (v := .pointer (some ⟨w2.heap.size, 0, none⟩)) rfl (by kernel_rfl) (by kernel_rfl) (by kernel_rfl) (by kernel_rfl) (fun _ _ _ h => h) (Or.inl ⟨by rfl, ?_⟩) hS ?_
    · intro u hu
      go_simp
    simp only [Act.put, List.setIfInBounds_toArray, List.set_cons_zero, List.set_cons_succ]
    refine anyL_take (i := 4) (v := rs) rfl (by kernel_rfl) (by kernel_rfl) (by kernel_rfl) (by kernel_rfl) (fun _ _ _ h => h) (Or.inl ⟨by rfl, ?_⟩) hS ?_
    · intro u hu
      obtain ⟨u1, u2⟩ := hu
      go_simp
    simp only [Act.put, List.setIfInBounds_toArray, List.set_cons_zero, List.set_cons_succ]
    refine anyL_pure (i := 5) (v := .slice (some ⟨x, 0, none⟩) C C) rfl (by kernel_rfl) (by kernel_rfl) (by kernel_rfl) (by kernel_rfl) (fun _ _ _ h => h) (Or.inl ⟨by rfl, ?_⟩) hS ?_
    · intro u hu
      go_simp
    simp only [Act.put, List.setIfInBounds_toArray, List.set_cons_zero, List.set_cons_succ]
    refine anyL_one (i := 6) (by kernel_rfl) rfl rfl fun K hK => ?_
    go_simp
    obtain ⟨T, hT⟩ : ∃ T, T = (W.alloc (.cells #[.slice (some ⟨x, 0, none⟩) C C] 22)).drew := ⟨_, rfl⟩
    have hbT : Below W.heap.size W T := by rw [hT]; exact ((Below.refl _ _).alloc (Nat.le_refl _) _).drew
    have hTs : T.heap.size = W.heap.size + 1 := by rw [hT]; simp
    have hcT : T.cell? ⟨W.heap.size, 0, none⟩ = some (.slice (some ⟨x, 0, none⟩) C C) := by rw [hT]; simp
    have hrT := grow_row HST.out.r (gb_below hbT none) (fun b _ e => by cases e)
    have hpT := cell_stays hbT hp
    have hqT := cell_stays hbT q0
    rw [← hT]
    refine hK _ _ (fun _ => ⟨hpT, hqT⟩) ?_
    clear hK K
    refine anyL_one (i := 7) (by kernel_rfl) rfl rfl fun K hK => ?_
    refine wp_append_lies T (.tmp 17) (.tmp 19) 124 rfl w4.heap.size 22 i0 (.slice none 0 0) 1 24 Try.underlying124 hri hz0 hz1 hz2 rfl (by omega) rs i _ (by simp [Act.eval]) hrT
      ⟨W.heap.size, 0, none⟩ 1 1 [.slice (some ⟨x, 0, none⟩) C C] (by simp [Act.eval]) rfl (by intro j u hj; match j, hj with | 0, hj => (simp at hj; subst hj; simpa [Addr.add] using hcT)) (by intro u hu; simp at hu; subst hu; rfl) (by omega) (by unfold maxLen; omega) (by omega) (by omega) (W.heap.size + 1) hTs ?_
    intro g cp w5 hown hgrow hat hgl
    have hgT : W.grownBy w5 rs.ownBlock := gb_trans (gb_below hbT _) hgrow
    have hfr : rs.ownBlock ≠ some w2.heap.size := fun e => by have := (own_ge HST.out.r _ e).1; omega
    have hfp : some (w2.heap.size + 1) ≠ rs.ownBlock := fun e => by have := (own_ge HST.out.r _ e.symm).1; omega
    obtain ⟨k0, k0'⟩ := kept_cell hgT hfr ⟨q0, q0'⟩
    have hp5 := hgT.cell hp hfp
    refine hK _ _ (fun _ => ⟨hp5, k0⟩) ?_
    clear hK K
    simp only [Act.put, List.setIfInBounds_toArray, List.set_cons_zero, List.set_cons_succ]
    have hS5 : w5.cell? ⟨w2.heap.size + 1, 0, none⟩ = some (.pointer (some ⟨w2.heap.size, 0, none⟩)) ∧ w5.cell? ⟨w2.heap.size, 0, none⟩ = some rs := ⟨hp5, k0⟩
    refine anyL_one (i := 8) (by kernel_rfl) rfl rfl fun K hK => ?_
    go_simp
    refine hK _ _ (fun _ => hS5) ?_
    clear hK K
    refine anyL_one (i := 9) (by kernel_rfl) rfl rfl fun K hK => ?_
    go_simp
    refine hK _ _ (fun _ => hS5) ?_
    clear hK K
    refine anyL_one (i := 10) (by kernel_rfl) rfl rfl fun K hK => ?_
    go_simp
    refine hK _ _ (fun e => absurd e (by decide)) ?_
    clear hK K
    refine anyL_done (by kernel_rfl) ?_ _
    have hst5 := HST.out.pushRow hb2 HROW.out hgT (hat.imp id (fun e => by omega)) hgl hown
    have g2 := gb_set w5 ⟨w2.heap.size, 0, none⟩ (.slice (some ⟨g, 0, none⟩) (i + 1) cp)
    have hp6 := g2.cell hp5 (by simp)
    have hre5 : RestF (w5.setCell ⟨w2.heap.size, 0, none⟩ (.slice (some ⟨g, 0, none⟩) (i + 1) cp)) w2.heap.size false (.slice am an ac) := (HRE.out.grown hgT hfr).set (by omega)
    have hg5 := gb_then (gb_then hg hgT (fun k e => Or.inl (own_ge HST.out.r _ e).1)) g2 (fun k e => Or.inr (by simpa using e.symm))
    have hko5 : KeepsOthers W (w5.setCell ⟨w2.heap.size, 0, none⟩ (.slice (some ⟨g, 0, none⟩) (i + 1) cp)) := (KeepsOthers.of_grownBy hgT (rowc_cells HST.out.r)).trans (KeepsOthers.setCell _ _ _)
    have hbN : w4.heap.size + 2 ≤ w5.heap.size := by have := hgT.size; have := HST.out.NW; omega
    gi_wp2
    generalize w5.setCell ⟨w2.heap.size, 0, none⟩ (.slice (some ⟨g, 0, none⟩) (i + 1) cp) = W5 at *
    generalize w5.heap.size = N5 at *
    obtain ⟨q1, q1'⟩ := hst5.c1
    have HSTn := Lib.hid hst5
    have HREn := Lib.hid hre5
    have hWs5 := hg5.size
    clear hst5 hre5 hp hp5 hgT hgrow hown hbT hcT hTs hrT hpT hqT hS hS5 k0 k0' q0 q0' hat hgl hT T g2 hfr hfp HROW
    have hp := hp6
    refine region_round (fun u => u.cell? ⟨w2.heap.size + 1, 0, none⟩ = some (.pointer (some ⟨w2.heap.size, 0, none⟩)) ∧ u.cell? ⟨w2.heap.size, 1, none⟩ = some ns) 10 hmix (by kernel_rfl) (by rintro ⟨a', w', h'⟩; exact h') ?_
    have hS : W5.drew.cell? ⟨w2.heap.size + 1, 0, none⟩ = some (.pointer (some ⟨w2.heap.size, 0, none⟩)) ∧ W5.drew.cell? ⟨w2.heap.size, 1, none⟩ = some ns := ⟨hp, q1⟩
    refine anyL_take (i := 0) (v := .pointer (some ⟨w2.heap.size, 0, none⟩)) rfl (by kernel_rfl) (by kernel_rfl) (by kernel_rfl) (by kernel_rfl) (fun _ _ _ h => h) (Or.inl ⟨by rfl, ?_⟩) hS ?_
    · intro u hu
      obtain ⟨u1, u2⟩ := hu
      go_simp
    simp only [Act.put, List.setIfInBounds_toArray, List.set_cons_zero, List.set_cons_succ]
    refine anyL_take (i := 1) (v := .pointer (some ⟨w2.heap.size, 0, none⟩)) rfl (by kernel_rfl) (by kernel_rfl) (by kernel_rfl) (by kernel_rfl) (fun _ _ _ h => h) (Or.inl ⟨by rfl, ?_⟩) hS ?_
    · intro u hu
      obtain ⟨u1, u2⟩ := hu
      go_simp
    simp only [Act.put, List.setIfInBounds_toArray, List.set_cons_zero, List.set_cons_succ]
    refine anyL_pure (i := 2) (v := .pointer (some ⟨w2.heap.size, 0, none⟩)) rfl (by kernel_rfl) (by kernel_rfl) (by kernel_rfl) (by kernel_rfl) (fun _ _ _ h => h) (Or.inl ⟨by rfl, ?_⟩) hS ?_
    · intro u hu
      go_simp
    simp only [Act.put, List.setIfInBounds_toArray, List.set_cons_zero, List.set_cons_succ]
    refine anyL_pure (i := 3) (v := .pointer (some ⟨w2.heap.size, 1, none⟩)) rfl (by kernel_rfl) (by kernel_rfl) (by kernel_rfl) (by kernel_rfl) (fun _ _ _ h => h) (Or.inl ⟨by rfl, ?_⟩) hS ?_
    · intro u hu
      go_simp
    simp only [Act.put, List.setIfInBounds_toArray, List.set_cons_zero, List.set_cons_succ]
    refine anyL_take (i := 4) (v := ns) rfl (by kernel_rfl) (by kernel_rfl) (by kernel_rfl) (by kernel_rfl) (fun _ _ _ h => h) (Or.inl ⟨by rfl, ?_⟩) hS ?_
    · intro u hu
      obtain ⟨u1, u2⟩ := hu
      go_simp
    simp only [Act.put, List.setIfInBounds_toArray, List.set_cons_zero, List.set_cons_succ]
    refine anyL_pure (i := 5) (v := .int .i64 i) rfl (by kernel_rfl) (by kernel_rfl) (by kernel_rfl) (by kernel_rfl) (fun _ _ _ h => h) (Or.inl ⟨by rfl, ?_⟩) hS ?_
    · intro u hu
      go_simp
    simp only [Act.put, List.setIfInBounds_toArray, List.set_cons_zero, List.set_cons_succ]
    refine anyL_one (i := 6) (by kernel_rfl) rfl rfl fun K hK => ?_
    go_simp
    obtain ⟨T, hT⟩ : ∃ T, T = (W5.alloc (.cells #[.int .i64 i] 3)).drew := ⟨_, rfl⟩
    have hbT : Below W5.heap.size W5 T := by rw [hT]; exact ((Below.refl _ _).alloc (Nat.le_refl _) _).drew
    have hTs : T.heap.size = W5.heap.size + 1 := by rw [hT]; simp
    have hcT : T.cell? ⟨W5.heap.size, 0, none⟩ = some (.int .i64 i) := by rw [hT]; simp
    have hrT := grow_row HSTn.out.n (gb_below hbT none) (fun b _ e => by cases e)
    have hpT := cell_stays hbT hp
    have hqT := cell_stays hbT q1
    rw [← hT]
    refine hK _ _ (fun _ => ⟨hpT, hqT⟩) ?_
    clear hK K
    refine anyL_one (i := 7) (by kernel_rfl) rfl rfl fun K hK => ?_
    refine wp_append_lies T (.tmp 27) (.tmp 29) 70 rfl w4.heap.size 3 i0n (.int .i64 0) 1 8 Try.underlying70 hrin hz0n hz1n hz2n rfl (by omega) ns i _ (by simp [Act.eval]) hrT
      ⟨W5.heap.size, 0, none⟩ 1 1 [.int .i64 i] (by simp [Act.eval]) rfl (by intro j u hj; match j, hj with | 0, hj => (simp at hj; subst hj; simpa [Addr.add] using hcT)) (by intro u hu; simp at hu; subst hu; rfl) (by omega) (by unfold maxLen; omega) (by omega) (by omega) (W5.heap.size + 1) hTs ?_
    intro gn cpn w6 hownn hgrown hatn hgln
    have hgTn : W5.grownBy w6 ns.ownBlock := gb_trans (gb_below hbT _) hgrown
    have hfrn : ns.ownBlock ≠ some w2.heap.size := fun e => by have := (own_ge HSTn.out.n _ e).1; omega
    have hfpn : some (w2.heap.size + 1) ≠ ns.ownBlock := fun e => by have := (own_ge HSTn.out.n _ e.symm).1; omega
    obtain ⟨k0, k0'⟩ := kept_cell hgTn hfrn ⟨q1, q1'⟩
    have hp5 := hgTn.cell hp hfpn
    refine hK _ _ (fun _ => ⟨hp5, k0⟩) ?_
    clear hK K
    simp only [Act.put, List.setIfInBounds_toArray, List.set_cons_zero, List.set_cons_succ]
    have hS5 : w6.cell? ⟨w2.heap.size + 1, 0, none⟩ = some (.pointer (some ⟨w2.heap.size, 0, none⟩)) ∧ w6.cell? ⟨w2.heap.size, 1, none⟩ = some ns := ⟨hp5, k0⟩
    refine anyL_one (i := 8) (by kernel_rfl) rfl rfl fun K hK => ?_
    go_simp
    refine hK _ _ (fun _ => hS5) ?_
    clear hK K
    refine anyL_one (i := 9) (by kernel_rfl) rfl rfl fun K hK => ?_
    go_simp
    refine hK _ _ (fun _ => hS5) ?_
    clear hK K
    refine anyL_one (i := 10) (by kernel_rfl) rfl rfl fun K hK => ?_
    go_simp
    refine hK _ _ (fun e => absurd e (by decide)) ?_
    clear hK K
    refine anyL_done (by kernel_rfl) ?_ _
    have hst6 := HSTn.out.pushNum hbN hgTn (hatn.imp id (fun e => by omega)) hgln hownn
    have g2 := gb_set w6 ⟨w2.heap.size, 1, none⟩ (.slice (some ⟨gn, 0, none⟩) (i + 1) cpn)
    have hre6 : RestF (w6.setCell ⟨w2.heap.size, 1, none⟩ (.slice (some ⟨gn, 0, none⟩) (i + 1) cpn)) w2.heap.size false (.slice am an ac) := (HREn.out.grown hgTn hfrn).set (by omega)
    have hg6 := gb_then (gb_then hg5 hgTn (fun k e => Or.inl (own_ge HSTn.out.n _ e).1)) g2 (fun k e => Or.inr (by simpa using e.symm))
    have hko6 : KeepsOthers W5 (w6.setCell ⟨w2.heap.size, 1, none⟩ (.slice (some ⟨gn, 0, none⟩) (i + 1) cpn)) := (KeepsOthers.of_grownBy hgTn (rowc_cells HSTn.out.n)).trans (KeepsOthers.setCell _ _ _)
    gi_wp2
    refine ⟨hko5.trans hko6, hg6, hre6, _, _, _, hst6.up ?_ (Nat.le_refl _)⟩
    exact g2.size
  case done =>
    rintro D b W hD ⟨hg, hrest, B, rs, ns, hst⟩ hdef
    have hp : W.cell? ⟨w2.heap.size + 1, 0, none⟩ = some (.pointer (some ⟨w2.heap.size, 0, none⟩)) := hg.cell p0 (by simp)
    have HST := Lib.hid hst
    have HRE := Lib.hid hrest
    clear hst hrest
    subst hD
    have hWs := hg.size
    have gD := grownBy_putObj' W w4.heap.size (.deferred none)
    have hst2 := HST.out.grown gD (fun k e => by cases e; omega)
    have hre2 := HRE.out.grown gD (fun e => by simp at e; omega)
    have hB4 : Below w.heap.size w w4 := HB2.out.trans ((hb3.trans (hb4.mono hs3)).mono (by omega))
    have hB6 : Below w.heap.size w (W.putObj w4.heap.size (.deferred none)) := (hB4.grown hg hB4.size (fun k e => by cases e; omega)).grown gD (by omega) (fun k e => by cases e; omega)
    have hl4 := ((hlast.below hb3).below (w' := w4) hb4)
    have hl5 := (hl4.gb hg (fun e => by have := (ho _ e).2; omega)).gb gD (fun e => by have := (ho _ e).2; omega)
    have HF := Lib.hid hst2
    have HR2 := Lib.hid hre2
    have HL5 := Lib.hid hl5
    clear hst2 hre2 hl5 hl4 hlast gD
    gi_wp2
    refine ⟨by simp, .inl ⟨_, _, rfl, run_takeDeferred hdef, ?_⟩⟩
    refine ⟨_, results_tmp rfl _ _ _, w2.heap.size, rfl, ⟨B, rs, ns, ⟨by omega, fun b h => h.elim, HF.out.c0, HF.out.c1, HR2.out.c2, ⟨false, .slice am an ac, HR2.out.c3, HR2.out.c4, HL5.out, fun b hb => ⟨?_, ?_⟩⟩, HR2.out.c5, ?_, ⟨fun j => (j : Int), ?_⟩, ⟨?_, ?_, HF.out.rn⟩, HF.out.inj, fun j hj => ⟨(HF.out.off j hj).1, (HF.out.off j hj).2, ?_⟩, fun j hj => ?_⟩⟩, hB6⟩
    · have := (ho b hb).2; have := hB6.size; have := (grownBy_putObj' W w4.heap.size (.deferred none)).size; omega
    · have h1 := (ho b hb).2
      rintro ((e | e | e | ⟨t, ht, e⟩) | e)
      · omega
      · have := HF.out.r2 b (Or.inl e); omega
      · have := HF.out.r2 b (Or.inr (Or.inl e)); omega
      · have := HF.out.r2 b (Or.inr (Or.inr ⟨t, ht, e⟩)); omega
      · exact e
    · have h := HF.out.r
      rcases h.2 with ⟨e1, e2⟩ | ⟨g, cap, cur, e1, e2, e3⟩
      · exact ⟨h.1, Or.inl ⟨e1, e2⟩⟩
      · exact ⟨h.1, Or.inr ⟨g, cap, cur, e1, by omega, e3⟩⟩
    · have h := HF.out.n
      rcases h.2 with ⟨e1, e2⟩ | ⟨g, cap, cur, e1, e2, e3⟩
      · exact ⟨h.1, Or.inl ⟨e1, e2⟩⟩
      · exact ⟨h.1, Or.inr ⟨g, cap, cur, e1, by omega, e3⟩⟩
    · intro e; have := HF.out.r2 _ (Or.inl e); omega
    · intro e; have := HF.out.r2 _ (Or.inr (Or.inl e)); omega
    · intro e; have := HF.out.r2 (B j) (Or.inr (Or.inr ⟨j, hj, rfl⟩)); omega
    · refine ((HF.out.lie j hj).mono (by omega)).turnD fun b _ h1 h2 => h1 ?_
      rcases h2 with (e | e | e | e) | e
      · exact Or.inl (Or.inl e)
      · exact Or.inr (Or.inr (Or.inl e))
      · exact Or.inr (Or.inr (Or.inr (Or.inl e)))
      · exact Or.inr (Or.inr (Or.inr (Or.inr e)))
      · exact e.elim
end Go.Proofs.Ytejliecmdkmgiaa
