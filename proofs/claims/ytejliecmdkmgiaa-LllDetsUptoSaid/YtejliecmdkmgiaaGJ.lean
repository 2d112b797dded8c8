/- The walk of the closure of mat.product; what a sum of products takes. The walks of mat.check of two, mat.product, mat.Mul. Plain: determinants of whole numbers: of a product, of a transpose. -/
import Derived.Test.YtejliecmdkmgiaaGI
import Derived.StillTailTactics
import Derived.Test.YtejliecmdkmgiaaGF
set_option linter.unusedVariables false
set_option linter.unusedSimpArgs false
set_option maxHeartbeats 8000000
set_option maxRecDepth 100000
namespace Go.Proofs.Ytejliecmdkmgiaa
open Go.RowKit
def psum (A B : Nat → Int) (K C i j k : Nat) : Int := laZ.sm k (fun t => A (i * K + t) * B (t * C + j))
theorem psum_zb {A B : Nat → Int} {R K C S T i j : Nat} (hK : K ≤ 64) (hi : i < R) (hj : j < C) (hA : ∀ q, q < R * K → ZB S (A q)) (hB : ∀ q, q < K * C → ZB T (B q)) {k : Nat} (hk : k ≤ K) : ZB (S + T + 1) (psum A B K C i j k) := by
  have h := smZ_abs (B := 18446744073709551616 ^ (S + T) - 1) k (fun t => A (i * K + t) * B (t * C + j)) (fun t ht => by
    have h1 := (hA _ (idx_lt hi (show t < K by omega) rfl).1).mul (hB _ (idx_lt (show t < K by omega) hj rfl).1)
    unfold ZB at h1; omega)
  unfold ZB psum
  rw [Int.pow_succ]
  have hp := pow_pos' (show (0 : Int) < 18446744073709551616 by omega) (S + T)
  generalize (18446744073709551616 : Int) ^ (S + T) = X at *
  have h5 : (k : Int) * (X - 1) ≤ 64 * (X - 1) := Int.mul_le_mul_of_nonneg_right (by omega) (by omega)
  omega
theorem psum_succ (A B : Nat → Int) (K C i j k : Nat) : psum A B K C i j (k + 1) = A (i * K + k) * B (k * C + j) + psum A B K C i j k := by
  exact Int.add_comm _ _
theorem prod1_any (ab bb R K C i j S T : Nat) (sl sl' : Value) (A B : Nat → Int) (w : World) (hR : R ≤ 64) (hK : K ≤ 64) (hC : C ≤ 64) (hi : i < R) (hj : j < C) (hST : S + T + 1 ≤ 274877906944) (hA : ∀ q, q < R * K → ZB S (A q)) (hB : ∀ q, q < K * C → ZB T (B q))
    (c1 : w.cell? ⟨ab, 1, none⟩ = some (.int .i64 K)) (c2 : w.cell? ⟨ab, 2, none⟩ = some sl) (d1 : w.cell? ⟨bb, 1, none⟩ = some (.int .i64 C)) (d2 : w.cell? ⟨bb, 2, none⟩ = some sl') (hr : RdE w sl (R * K) A) (hr' : RdE w sl' (K * C) B) :
    Calls Try.prog 155 #[.int .i64 i, .int .i64 j, .pointer (some ⟨ab, 0, none⟩), .pointer (some ⟨bb, 0, none⟩)] w fun e w' => ∃ v, e = .returned v ∧ FrZ w' w.heap.size v (psum A B K C i j K) ∧ Below w.heap.size w w' := by
  have hK4 : R * K ≤ 4096 := Nat.mul_le_mul hR hK
  have hK5 : K * C ≤ 4096 := Nat.mul_le_mul hK hC
  obtain ⟨a, cap, rfl, hcap⟩ := hr.slice
  obtain ⟨b, cap', rfl, hcap'⟩ := hr'.slice
  have t1 : ab < w.heap.size := World.block_lt_of_cell? w _ c1
  have t2 : bb < w.heap.size := World.block_lt_of_cell? w _ d1
  obtain ⟨W, hW⟩ : ∃ W, W = (w.alloc (.cells #[.bool false, .slice none 0 0] 49)).alloc (.cells #[.bool false, .slice none 0 0] 49) := ⟨_, rfl⟩
  obtain ⟨⟨x0, x1, y0, y1, v0, v1⟩, hb, hsz⟩ := boxes2 w (.bool false) (.slice none 0 0) (.bool false) (.slice none 0 0) 49
  have k2 := two_cells w (.bool false) (.slice none 0 0) 49
  have x2 : W.frozen? ⟨w.heap.size, 0, none⟩ = false := by rw [hW]; exact froz_stays (bl_alloc _ _) k2.1 k2.2.2.1
  have x3 : W.frozen? ⟨w.heap.size, 1, none⟩ = false := by rw [hW]; exact froz_stays (bl_alloc _ _) k2.2.1 k2.2.2.2
  rw [← hW] at x0 x1 y0 y1 v0 v1 hb hsz
  replace c1 := cell_stays hb c1
  replace c2 := cell_stays hb c2
  replace d1 := cell_stays hb d1
  replace d2 := cell_stays hb d2
  have HR := Lib.hid hr
  have HR' := Lib.hid hr'
  have HA := Lib.hid hA
  have HB := Lib.hid hB
  have HBW := Lib.hid hb
  have HSZ := Lib.hid hsz
  have HST := Lib.hid hST
  clear hr hr' hA hB hb hsz k2 hST
  go_enter Try.func155, Try.ntmps155
  go_upto_region 2 with fail
  rw [← hW]
  clear hW
  go_wp2_with fail
  go_loopw [11] (fun kv wr => ∃ (k : Nat) (am : Option Addr) (an ac : Nat), k ≤ K ∧ kv = .int .i64 k ∧ Below (w.heap.size + 1) W wr ∧
    (wr.cell? ⟨w.heap.size + 1, 0, none⟩ = some (.bool (decide (psum A B K C i j k < 0))) ∧ wr.cell? ⟨w.heap.size + 1, 1, none⟩ = some (.slice am an ac) ∧ wr.frozen? ⟨w.heap.size + 1, 0, none⟩ = false ∧ wr.frozen? ⟨w.heap.size + 1, 1, none⟩ = false) ∧
    FrZ wr (w.heap.size + 2) (.agg #[.bool (decide (psum A B K C i j k < 0)), .slice am an ac]) (psum A B K C i j k) ∧ w.heap.size + 2 ≤ wr.heap.size) (fun kv _ => K - (intOf kv).toNat)
  case atStart => exact ⟨0, none, 0, 0, Nat.zero_le _, rfl, Below.refl _ _, ⟨y0, y1, v0, v1⟩, frz_nil _ _, by rw [HSZ.out]; exact Nat.le_refl _⟩
  case round =>
    clear y0 y1 v0 v1
    obtain ⟨k, am, an, ac, hkK, rfl, hbl, ⟨y0, y1, v0, v1⟩, hf, hs⟩ := hrel
    have hbw := HBW.out.trans (hbl.mono (Nat.le_succ _))
    replace c1 := below_keep hbl (by omega) c1
    replace c2 := below_keep hbl (by omega) c2
    replace d1 := below_keep hbl (by omega) d1
    replace d2 := below_keep hbl (by omega) d2
    by_cases hk : k < K
    · obtain ⟨p, hp⟩ : ∃ p, p = i * K + k := ⟨_, rfl⟩
      obtain ⟨q, hq⟩ : ∃ q, q = k * C + j := ⟨_, rfl⟩
      obtain ⟨hpK, hpe⟩ := idx_lt hi hk hp
      obtain ⟨hqK, hqe⟩ := idx_lt hk hj hq
      obtain ⟨ba, oa, sa, ma, rfl, a0, a1, hza⟩ := (HR.out.below hbw).get hpK
      obtain ⟨bb', ob, sb, mb, rfl, b0, b1, hzb⟩ := (HR'.out.below hbw).get hqK
      obtain ⟨ama, ana, aca, rfl⟩ := hza.agg
      obtain ⟨amb, anb, acb, rfl⟩ := hzb.agg
      have hz := hf.rd (psum_zb hK hi hj HA.out HB.out (Nat.le_of_lt hk)) HST.out
      have hab := (HA.out p hpK).mul (HB.out q hqK)
      obtain ⟨z, hzz⟩ : ∃ z, z = psum A B K C i j k := ⟨_, rfl⟩
      have hz' : psum A B K C i j (k + 1) = A p * B q + z := by rw [psum_succ, ← hp, ← hq, ← hzz]
      rw [← hzz] at hz y0
      obtain ⟨sg, hsg⟩ : ∃ sg, sg = decide (z < 0) := ⟨_, rfl⟩
      rw [← hsg] at hz y0
      have m0 : 0 ≤ (i : Int) * K := Int.mul_nonneg (by omega) (by omega)
      have m1 : (i : Int) * K ≤ 4096 := by omega
      have m2 : 0 ≤ (k : Int) * C := Int.mul_nonneg (by omega) (by omega)
      have m3 : (k : Int) * C ≤ 4096 := by omega
      have hpI : (p : Int) < ((R * K : Nat) : Int) := by exact_mod_cast hpK
      have hqI : (q : Int) < ((K * C : Nat) : Int) := by exact_mod_cast hqK
      have wi1 : IntKind.i64.wrap ((i : Int) * K) = (i : Int) * K := IntWalk.i64_in _ (by omega)
      have wi2 : IntKind.i64.wrap ((i : Int) * K + k) = (p : Int) := by rw [hpe]; exact IntWalk.i64_in _ (by omega)
      have wq1 : IntKind.i64.wrap ((k : Int) * C) = (k : Int) * C := IntWalk.i64_in _ (by omega)
      have wq2 : IntKind.i64.wrap ((k : Int) * C + j) = (q : Int) := by rw [hqe]; exact IntWalk.i64_in _ (by omega)
      have hma := zMulAdd_any _ _ _ (A p) (B q) z (S + T) wr.drew (by have := HST.out; omega) hab (hza.below (bl_drew _)) (hzb.below (bl_drew _)) (hz.below (bl_drew _))
      rw [← hz'] at hma
      have HMA := Lib.hid hma
      have HBL := Lib.hid hbl
      generalize R * K = RK at *
      generalize K * C = KC at *
      clear hab hz' hma hza hzb hz hbw hbl hsg hzz hp hq hf HR HR' hpe hqe
      go_wp2_with fail
      refine wp_region_still_tail 21 (by kernel_rfl) (by kernel_rfl) ?_
      simp only [List.take_succ_cons, List.take_zero, List.drop_succ_cons, List.drop_zero]
      repeat still_step
      refine wpStill_nil ?_
      change wpList _ _ _ _ _ wr.drew
      replace y0 := cell_stays (bl_drew wr) y0
      replace y1 := cell_stays (bl_drew wr) y1
      have u0 : wr.drew.frozen? ⟨w.heap.size + 1, 0, none⟩ = false := v0
      have u1 : wr.drew.frozen? ⟨w.heap.size + 1, 1, none⟩ = false := v1
      have hs2 : w.heap.size + 2 ≤ wr.drew.heap.size := hs
      have HBL2 := Lib.hid (HBL.out.drew)
      clear a0 a1 b0 b1 c1 c2 d1 d2 v0 v1 HBL wi1 wi2 wq1 wq2
      generalize wr.drew = w4 at *
      obtain ⟨z1, hz1⟩ : ∃ z1, z1 = psum A B K C i j (k + 1) := ⟨_, rfl⟩
      rw [← hz1] at HMA
      have HZ1 := Lib.hid hz1
      clear hz1
      go_wp2_with fail
      (refine HMA.out.mono ?_)
      rintro e w5 ⟨v, rfl, hf5, hb5⟩
      replace u0 := froz_stays hb5 y0 u0
      replace u1 := froz_stays hb5 y1 u1
      replace y0 := cell_stays hb5 y0
      replace y1 := cell_stays hb5 y1
      obtain ⟨am5, an5, ac5, rfl, -⟩ := (hf5.mono (show w.heap.size + 1 + 1 ≤ w4.heap.size by omega)).stored
      have hg5 := stored2_gb w5 (w.heap.size + 1) (.bool (decide (z1 < 0))) (.slice am5 an5 ac5)
      have HF6 := Lib.hid ((hf5.mono hs2).far hg5 (by omega))
      have hs5 := hb5.size
      have HB6 := Lib.hid ((HBL2.out.trans (hb5.mono (by omega))).grown hg5 (by omega) (fun k hk => by injection hk with hk; omega))
      have HS6 := Lib.hid (show w.heap.size + 2 ≤ (stored2 w5 (w.heap.size + 1) (.bool (decide (z1 < 0))) (.slice am5 an5 ac5)).heap.size from Nat.le_trans (by omega) hg5.size)
      obtain ⟨n0, n1⟩ := two_own (x0 := .bool (decide (z1 < 0))) (x1 := .slice am5 an5 ac5) y0 y1
      have n2 : (stored2 w5 (w.heap.size + 1) (.bool (decide (z1 < 0))) (.slice am5 an5 ac5)).frozen? ⟨w.heap.size + 1, 0, none⟩ = false := by unfold stored2; rw [World.frozen?_setCell, World.frozen?_setCell]; exact u0
      have n3 : (stored2 w5 (w.heap.size + 1) (.bool (decide (z1 < 0))) (.slice am5 an5 ac5)).frozen? ⟨w.heap.size + 1, 1, none⟩ = false := by unfold stored2; rw [World.frozen?_setCell, World.frozen?_setCell]; exact u1
      have HN := Lib.hid (And.intro n0 (And.intro n1 (And.intro n2 n3)))
      have wk : IntKind.i64.wrap ((k : Int) + 1) = (k : Int) + 1 := IntWalk.i64_in _ (by omega)
      clear hf5 hb5 hg5 hs5 n0 n1 n2 n3 HMA HBL2
      go_wp2_with fail
      go_roundw
      case rel => exact ⟨k + 1, am5, an5, ac5, by omega, by go_num, HB6.out, by rw [← HZ1.out]; exact HN.out, by rw [← HZ1.out]; exact HF6.out, HS6.out⟩
      case measure => simp [intOf]; omega
    · obtain rfl : k = K := by omega
      obtain ⟨z1, hz1⟩ : ∃ z1, z1 = psum A B k C i j k := ⟨_, rfl⟩
      rw [← hz1] at hf y0
      have HZ1 := Lib.hid hz1
      clear hz1
      replace x2 := (hbl.frozen (p := ⟨w.heap.size, 0, none⟩) (by show w.heap.size < _; omega)).trans x2
      replace x3 := (hbl.frozen (p := ⟨w.heap.size, 1, none⟩) (by show w.heap.size < _; omega)).trans x3
      replace x0 := below_keep hbl (by omega) x0
      replace x1 := below_keep hbl (by omega) x1
      obtain ⟨am', an', ac', he, f1, f2⟩ := det_fin (b := w.heap.size) (w := w) hf (by omega) (Nat.le_refl _) hbw
      injection he with he
      injection he with he
      injection he with _ he
      injection he with he
      injection he with e1 e2 e3
      subst e1 e2 e3
      have F1 := Lib.hid f1
      have F2 := Lib.hid f2
      clear hf hbw hbl f1 f2 c1 c2 d1 d2 HR HR'
      go_wp2_with fail
      refine bodyPost_ret (v := .agg #[.bool (decide (z1 < 0)), .slice am an ac]) ?_ rfl ⟨_, rfl, by rw [← HZ1.out]; exact F1.out, F2.out⟩
      simp [results, Try.results155, go_sem, x0, x1]
end Go.Proofs.Ytejliecmdkmgiaa
namespace Go.Proofs.Ytejliecmdkmgiaa
open Go.RowKit
def chk2 (e1 e2 : Int) : Int := if e1 = 0 then e2 else 1
theorem checkE_or (r c : Int) (n : Nat) : checkE r c n = 0 ∨ checkE r c n = 1 := by unfold checkE; split <;> simp
theorem check_two (b : Nat) (r c r' c' : Int) (a a' : Option Addr) (n n' cap cap' : Nat) (hn : n ≤ 17592186044416) (hn' : n' ≤ 17592186044416) (w : World)
    (h0 : w.cell? ⟨b, 0, none⟩ = some (.int .i64 r)) (h1 : w.cell? ⟨b, 1, none⟩ = some (.int .i64 c)) (h2 : w.cell? ⟨b, 2, none⟩ = some (.slice a n cap))
    (h3 : w.cell? ⟨b, 3, none⟩ = some (.int .i64 r')) (h4 : w.cell? ⟨b, 4, none⟩ = some (.int .i64 c')) (h5 : w.cell? ⟨b, 5, none⟩ = some (.slice a' n' cap')) :
    Calls Try.prog 86 #[.slice (some ⟨b, 0, none⟩) 2 2] w fun e w' => e = .returned (.int .i64 (chk2 (checkE r c n) (checkE r' c' n'))) ∧ Below w.heap.size w w' := by
  have hck := fun (u : World) => Check_any r c a n cap hn u
  have hck' := fun (u : World) => Check_any r' c' a' n' cap' hn' u
  obtain ⟨E1, hE1⟩ : ∃ E1, E1 = checkE r c n := ⟨_, rfl⟩
  obtain ⟨E2, hE2⟩ : ∃ E2, E2 = checkE r' c' n' := ⟨_, rfl⟩
  have o1 : E1 = 0 ∨ E1 = 1 := by rw [hE1]; exact checkE_or r c n
  have o2 : E2 = 0 ∨ E2 = 1 := by rw [hE2]; exact checkE_or r' c' n'
  simp only [← hE1] at hck ⊢
  simp only [← hE2] at hck' ⊢
  have HC := Lib.hid hck
  have HC' := Lib.hid hck'
  have H := Lib.hid (And.intro h0 (And.intro h1 (And.intro h2 (And.intro h3 (And.intro h4 h5)))))
  clear hck hck' hE1 hE2 h0 h1 h2 h3 h4 h5
  go_enter Try.func86, Try.ntmps86
  go_wp2_with fail
  go_loopw [7] (fun kv wr => Below w.heap.size w wr ∧ (kv = .int .i64 0 ∨ (kv = .int .i64 1 ∧ E1 = 0) ∨ (kv = .int .i64 2 ∧ E1 = 0 ∧ E2 = 0))) (fun kv _ => 2 - (intOf kv).toNat)
  case atStart => exact ⟨Below.refl _ _, Or.inl rfl⟩
  case round =>
    obtain ⟨hb, hk⟩ := hrel
    have h0 := cell_stays hb H.out.1
    have h1 := cell_stays hb H.out.2.1
    have h2 := cell_stays hb H.out.2.2.1
    have h3 := cell_stays hb H.out.2.2.2.1
    have h4 := cell_stays hb H.out.2.2.2.2.1
    have h5 := cell_stays hb H.out.2.2.2.2.2
    have HB := Lib.hid hb
    rcases hk with rfl | ⟨rfl, rfl⟩ | ⟨rfl, rfl, rfl⟩
    · have hba := bl_alloc wr (.cells #[.int .i64 r, .int .i64 c, .slice a n cap] 24)
      have HBA := Lib.hid hba
      clear hb hba
      rcases o1 with rfl | rfl
      · go_wp2_with (go_at_call 93; refine (HC.out _).mono ?_; rintro e w2 ⟨rfl, hb2⟩; have HB2 := Lib.hid (below_via HB.out (below_via HBA.out hb2)); clear hb2)
        go_roundw
        case rel => exact ⟨HB2.out, Or.inr (Or.inl ⟨by go_num, trivial⟩)⟩
        case measure => simp [intOf]
      · go_wp2_with (go_at_call 93; refine (HC.out _).mono ?_; rintro e w2 ⟨rfl, hb2⟩; have HB2 := Lib.hid (below_via HB.out (below_via HBA.out hb2)); clear hb2)
        go_ret
        exact ⟨rfl, HB2.out⟩
    · have hba := bl_alloc wr (.cells #[.int .i64 r', .int .i64 c', .slice a' n' cap'] 24)
      have HBA := Lib.hid hba
      clear hb hba
      rcases o2 with rfl | rfl
      · go_wp2_with (go_at_call 93; refine (HC'.out _).mono ?_; rintro e w2 ⟨rfl, hb2⟩; have HB2 := Lib.hid (below_via HB.out (below_via HBA.out hb2)); clear hb2)
        go_roundw
        case rel => exact ⟨HB2.out, Or.inr (Or.inr ⟨by go_num, trivial, trivial⟩)⟩
        case measure => simp [intOf]
      · go_wp2_with (go_at_call 93; refine (HC'.out _).mono ?_; rintro e w2 ⟨rfl, hb2⟩; have HB2 := Lib.hid (below_via HB.out (below_via HBA.out hb2)); clear hb2)
        go_ret
        exact ⟨rfl, HB2.out⟩
    · go_wp2_with fail
      go_ret
      exact ⟨rfl, HB.out⟩
theorem boxes3M (w : World) (a0 a1 a2 b0 b1 b2 : Value) :
    let W := ((w.alloc (.cells #[a0, a1, a2] 24)).alloc (.cells #[b0, b1, b2] 24)).alloc (.cells #[.int .i64 0, .int .i64 0, .slice none 0 0] 24)
    (W.cell? ⟨w.heap.size, 0, none⟩ = some a0 ∧ W.cell? ⟨w.heap.size, 1, none⟩ = some a1 ∧ W.cell? ⟨w.heap.size, 2, none⟩ = some a2) ∧
    (W.cell? ⟨w.heap.size + 1, 0, none⟩ = some b0 ∧ W.cell? ⟨w.heap.size + 1, 1, none⟩ = some b1 ∧ W.cell? ⟨w.heap.size + 1, 2, none⟩ = some b2) ∧
    (∀ i y, [Value.int .i64 0, .int .i64 0, .slice none 0 0][i]? = some y → W.cell? ⟨w.heap.size + 1 + 1, i, none⟩ = some y ∧ W.frozen? ⟨w.heap.size + 1 + 1, i, none⟩ = false) ∧
    Below w.heap.size w W ∧ W.heap.size = w.heap.size + 3 := by
  intro W
  obtain ⟨w1, h1⟩ : ∃ w1, w1 = w.alloc (.cells #[a0, a1, a2] 24) := ⟨_, rfl⟩
  obtain ⟨w2, h2⟩ : ∃ w2, w2 = w1.alloc (.cells #[b0, b1, b2] 24) := ⟨_, rfl⟩
  have hW : W = w2.alloc (.cells #[.int .i64 0, .int .i64 0, .slice none 0 0] 24) := by rw [h2, h1]
  have s1 : w1.heap.size = w.heap.size + 1 := by rw [h1]; simp
  have s2 : w2.heap.size = w.heap.size + 1 + 1 := by rw [h2]; simp [s1]
  have b1' : Below w.heap.size w w1 := by rw [h1]; exact bl_alloc _ _
  have b2' : Below w1.heap.size w1 w2 := by rw [h2]; exact bl_alloc _ _
  have b3' : Below w2.heap.size w2 W := by rw [hW]; exact bl_alloc _ _
  have k1 := three_cells w a0 a1 a2 24
  have k2 := three_cells w1 b0 b1 b2 24
  have k3 := three_cells w2 (.int .i64 0) (.int .i64 0) (.slice none 0 0) 24
  rw [← h1] at k1
  rw [← h2, s1] at k2
  rw [← hW, s2] at k3
  have sW : W.heap.size = w.heap.size + 3 := by rw [hW]; simp [s2]
  clear_value W
  have b23 := below_via b2' b3'
  exact ⟨⟨cell_stays b23 (k1 0 _ rfl).1, cell_stays b23 (k1 1 _ rfl).1, cell_stays b23 (k1 2 _ rfl).1⟩, ⟨cell_stays b3' (k2 0 _ rfl).1, cell_stays b3' (k2 1 _ rfl).1, cell_stays b3' (k2 2 _ rfl).1⟩, k3, below_via b1' b23, sW⟩
def mulE (A B : Nat → Int) (K C q : Nat) : Int := psum A B K C (q / C) (q % C) K
theorem mat_fin {w w4 : World} {b base lb n : Nat} {E : Nat → Int} (hf : FrE w4 base (fun b => b ≤ lb) lb n E) (hb : b < base) (h0 : w.heap.size ≤ b) (hB : Below w.heap.size w w4) (u v x : Value) :
    FrE (stored3 w4 b u v x) w.heap.size (fun b => b ≤ lb) lb n E ∧ Below w.heap.size w (stored3 w4 b u v x) := by
  have hg := stored3_gb w4 b u v x
  have hlb := hf.own
  exact ⟨(hf.grown hg (by omega) (by omega)).mono (by omega), hB.grown hg hB.size (fun k hk => by injection hk with hk; omega)⟩
theorem matProd_any (R K C S T : Nat) (sl sl' : Value) (A B : Nat → Int) (w : World) (hR : R ≤ 64) (hK : K ≤ 64) (hC : C ≤ 64) (hST : S + T + 1 ≤ 274877906944) (hr : RdE w sl (R * K) A) (hr' : RdE w sl' (K * C) B) (hA : ∀ q, q < R * K → ZB S (A q)) (hB : ∀ q, q < K * C → ZB T (B q)) :
    Calls Try.prog 87 #[.agg #[.int .i64 R, .int .i64 K, sl], .agg #[.int .i64 K, .int .i64 C, sl']] w fun e w' => ∃ lb, e = .returned (.agg #[.int .i64 R, .int .i64 C, .slice (some ⟨lb, 0, none⟩) (R * C) (R * C)]) ∧
      FrE w' w.heap.size (fun b => b ≤ lb) lb (R * C) (mulE A B K C) ∧ Below w.heap.size w w' := by
  obtain ⟨a, cap, rfl, hcap⟩ := hr.slice
  obtain ⟨b, cap', rfl, hcap'⟩ := hr'.slice
  obtain ⟨⟨c0, c1, c2⟩, ⟨d0, d1, d2⟩, hz, hBW, hsz⟩ := boxes3M w (.int .i64 R) (.int .i64 K) (.slice a (R * K) cap) (.int .i64 K) (.int .i64 C) (.slice b (K * C) cap')
  have hbd := fun (u : World) (hu : Below w.heap.size w u) (h1 : u.cell? ⟨w.heap.size, 1, none⟩ = some (.int .i64 K)) (h2 : u.cell? ⟨w.heap.size, 2, none⟩ = some (.slice a (R * K) cap)) (h3 : u.cell? ⟨w.heap.size + 1, 1, none⟩ = some (.int .i64 C)) (h4 : u.cell? ⟨w.heap.size + 1, 2, none⟩ = some (.slice b (K * C) cap')) =>
    build_prod R C (.pointer (some ⟨w.heap.size, 0, none⟩)) (.pointer (some ⟨w.heap.size + 1, 0, none⟩)) (fun i j => psum A B K C i j K) hR hC u (fun i j hi hj => (psum_zb hK hi hj hA hB (Nat.le_refl _)).mono hST)
      (fun W i j hW hi hj => prod1_any w.heap.size (w.heap.size + 1) R K C i j S T _ _ A B W hR hK hC hi hj hST hA hB (cell_stays hW h1) (cell_stays hW h2) (cell_stays hW h3) (cell_stays hW h4) ((hr.below hu).below hW) ((hr'.below hu).below hW))
  generalize R * K = RK at *
  generalize K * C = KC at *
  have hmf : ∀ (fn : Fn) (first cap : Array Value) (w : World), (Instr.makeFunc fn first cap).run Try.prog w = .ok (.func fn first cap) w := fun fn first cap w => by rfl
  have HBD := Lib.hid hbd
  have HB := Lib.hid hBW
  have HSZ := Lib.hid hsz
  obtain ⟨z0, y0⟩ := hz 0 _ rfl
  obtain ⟨z1, y1⟩ := hz 1 _ rfl
  obtain ⟨z2, y2⟩ := hz 2 _ rfl
  clear hbd hBW hsz hz hr hr' hA hB
  go_enter Try.func87, Try.ntmps87
  go_upto_region 1 with fail
  generalize ((w.alloc (.cells #[.int .i64 R, .int .i64 K, .slice a RK cap] 24)).alloc (.cells #[.int .i64 K, .int .i64 C, .slice b KC cap'] 24)).alloc (.cells #[.int .i64 0, .int .i64 0, .slice none 0 0] 24) = W at *
  go_wp2_with fail
  (refine (HBD.out W HB.out c1 c2 d1 d2).mono ?_)
  rintro e w4 ⟨lb, rfl, hf, hb4⟩
  replace y0 := froz_stays hb4 z0 y0
  replace y1 := froz_stays hb4 z1 y1
  replace y2 := froz_stays hb4 z2 y2
  replace z0 := cell_stays hb4 z0
  replace z1 := cell_stays hb4 z1
  replace z2 := cell_stays hb4 z2
  obtain ⟨f1, f2⟩ := mat_fin (w := w) (b := w.heap.size + 1 + 1) hf (by rw [HSZ.out]; omega) (by omega) (below_via HB.out hb4) (.int .i64 R) (.int .i64 C) (.slice (some ⟨lb, 0, none⟩) (R * C) (R * C))
  have F1 := Lib.hid f1
  have F2 := Lib.hid f2
  clear hf hb4 f1 f2 HBD c0 c1 c2 d0 d1 d2
  go_wp2_with fail
  refine bodyPost_ret (v := .agg #[.int .i64 R, .int .i64 C, .slice (some ⟨lb, 0, none⟩) (R * C) (R * C)]) ?_ rfl ⟨lb, rfl, F1.out, F2.out⟩
  simp [results, Try.results87, go_sem, z0, z1, z2]
theorem six_new (w : World) (v0 v1 v2 v3 v4 v5 : Value) (t : TypeId) : ∀ i y, [v0, v1, v2, v3, v4, v5][i]? = some y → (w.alloc (.cells #[v0, v1, v2, v3, v4, v5] t)).cell? ⟨w.heap.size, i, none⟩ = some y := by
  intro i y hy
  rw [cell_of_row _ _ _ _ _ _ (heap_alloc_new w (.cells #[v0, v1, v2, v3, v4, v5] t))]
  simpa using hy
theorem Mul_good (R K C S T : Nat) (sl sl' : Value) (A B : Nat → Int) (w : World) (hR : R ≤ 64) (hK : K ≤ 64) (hC : C ≤ 64) (hST : S + T + 1 ≤ 274877906944) (hr : RdE w sl (R * K) A) (hr' : RdE w sl' (K * C) B) (hA : ∀ q, q < R * K → ZB S (A q)) (hB : ∀ q, q < K * C → ZB T (B q)) :
    Calls Try.prog 16 #[.agg #[.int .i64 R, .int .i64 K, sl], .agg #[.int .i64 K, .int .i64 C, sl']] w fun e w' => ∃ lb, e = .returned (.tuple #[.agg #[.int .i64 R, .int .i64 C, .slice (some ⟨lb, 0, none⟩) (R * C) (R * C)], .int .i64 0]) ∧
      FrE w' w.heap.size (fun b => b ≤ lb) lb (R * C) (mulE A B K C) ∧ Below w.heap.size w w' := by
  have hK4 : R * K ≤ 4096 := Nat.mul_le_mul hR hK
  have hK5 : K * C ≤ 4096 := Nat.mul_le_mul hK hC
  obtain ⟨a, cap, rfl, hcap⟩ := hr.slice
  obtain ⟨b, cap', rfl, hcap'⟩ := hr'.slice
  obtain ⟨⟨c0, c1, c2⟩, ⟨d0, d1, d2⟩, hz, hBW, hsz⟩ := boxes3M w (.int .i64 R) (.int .i64 K) (.slice a (R * K) cap) (.int .i64 K) (.int .i64 C) (.slice b (K * C) cap')
  have hpr := fun (u : World) (hu : Below w.heap.size w u) => matProd_any R K C S T _ _ A B u hR hK hC hST (hr.below hu) (hr'.below hu) hA hB
  have hck := fun (q : Nat) (u : World) (h0 : u.cell? ⟨q, 0, none⟩ = some (.int .i64 R)) (h1 : u.cell? ⟨q, 1, none⟩ = some (.int .i64 K)) (h2 : u.cell? ⟨q, 2, none⟩ = some (.slice a (R * K) cap)) (h3 : u.cell? ⟨q, 3, none⟩ = some (.int .i64 K)) (h4 : u.cell? ⟨q, 4, none⟩ = some (.int .i64 C)) (h5 : u.cell? ⟨q, 5, none⟩ = some (.slice b (K * C) cap')) =>
    check_two q R K K C a b (R * K) (K * C) cap cap' (by omega) (by omega) u h0 h1 h2 h3 h4 h5
  rw [checkE_ok hR hK rfl, checkE_ok hK hC rfl] at hck
  generalize R * K = RK at *
  generalize K * C = KC at *
  have HPR := Lib.hid hpr
  have HCK := Lib.hid hck
  have HB := Lib.hid hBW
  have HSZ := Lib.hid hsz
  obtain ⟨z0, y0⟩ := hz 0 _ rfl
  obtain ⟨z1, y1⟩ := hz 1 _ rfl
  obtain ⟨z2, y2⟩ := hz 2 _ rfl
  clear hpr hck hBW hsz hz hr hr' hA hB
  go_enter Try.func16, Try.ntmps16
  go_upto_region 1 with fail
  generalize ((w.alloc (.cells #[.int .i64 R, .int .i64 K, .slice a RK cap] 24)).alloc (.cells #[.int .i64 K, .int .i64 C, .slice b KC cap'] 24)).alloc (.cells #[.int .i64 0, .int .i64 0, .slice none 0 0] 24) = W at *
  have k6 := six_new W (.int .i64 R) (.int .i64 K) (.slice a RK cap) (.int .i64 K) (.int .i64 C) (.slice b KC cap') 24
  have hck2 := HCK.out W.heap.size _ (k6 0 _ rfl) (k6 1 _ rfl) (k6 2 _ rfl) (k6 3 _ rfl) (k6 4 _ rfl) (k6 5 _ rfl)
  rw [show chk2 0 0 = 0 from rfl] at hck2
  have HC2 := Lib.hid hck2
  have hba := bl_alloc W (.cells #[.int .i64 R, .int .i64 K, .slice a RK cap, .int .i64 K, .int .i64 C, .slice b KC cap'] 24)
  have HBA := Lib.hid hba
  clear k6 hck2 hba HCK
  go_wp2_with fail
  (refine HC2.out.mono ?_)
  rintro e w3 ⟨rfl, hb3⟩
  have hb4 := below_via HBA.out hb3
  have HB3 := Lib.hid (below_via HB.out hb4)
  have HS3 := Lib.hid (show w.heap.size + 3 ≤ w3.heap.size by have := HSZ.out; have := hb4.size; omega)
  replace y0 := froz_stays hb4 z0 y0
  replace y1 := froz_stays hb4 z1 y1
  replace y2 := froz_stays hb4 z2 y2
  replace z0 := cell_stays hb4 z0
  replace z1 := cell_stays hb4 z1
  replace z2 := cell_stays hb4 z2
  replace c0 := cell_stays hb4 c0
  replace c1 := cell_stays hb4 c1
  replace c2 := cell_stays hb4 c2
  replace d0 := cell_stays hb4 d0
  replace d1 := cell_stays hb4 d1
  replace d2 := cell_stays hb4 d2
  clear hb3 hb4 HC2 HBA HB HSZ
  go_wp2_with fail
  (refine (HPR.out w3 HB3.out).mono ?_)
  rintro e w5 ⟨lb, rfl, hf, hb5⟩
  replace y0 := froz_stays hb5 z0 y0
  replace y1 := froz_stays hb5 z1 y1
  replace y2 := froz_stays hb5 z2 y2
  replace z0 := cell_stays hb5 z0
  replace z1 := cell_stays hb5 z1
  replace z2 := cell_stays hb5 z2
  obtain ⟨f1, f2⟩ := mat_fin (w := w) (b := w.heap.size + 1 + 1) hf (by have := HS3.out; omega) (by omega) (below_via HB3.out hb5) (.int .i64 R) (.int .i64 C) (.slice (some ⟨lb, 0, none⟩) (R * C) (R * C))
  have F1 := Lib.hid f1
  have F2 := Lib.hid f2
  clear hf hb5 f1 f2 HPR c0 c1 c2 d0 d1 d2
  go_wp2_with fail
  refine bodyPost_ret (v := .tuple #[.agg #[.int .i64 R, .int .i64 C, .slice (some ⟨lb, 0, none⟩) (R * C) (R * C)], .int .i64 0]) ?_ rfl ⟨lb, rfl, F1.out, F2.out⟩
  simp [results, Try.results16, go_sem, z0, z1, z2]
end Go.Proofs.Ytejliecmdkmgiaa
namespace Go.Proofs.Ytejliecmdkmgiaa
open laQ
end Go.Proofs.Ytejliecmdkmgiaa
