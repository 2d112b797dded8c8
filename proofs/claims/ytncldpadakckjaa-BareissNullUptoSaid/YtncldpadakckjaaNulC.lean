/- The walk of the law BareissNull where a matrix is not sound. The walk of the law BareissNull where both matrices are sound. 'BareissNull', where what it reads is of bulk at most 1,048,576: for all matrices a and b the law returns true and its arguments read as before. -/
import Derived.Test.YtncldpadakckjaaGK
import Derived.BigQuiet
import Derived.Test.YtncldpadakckjaaRows
import Derived.Test.YtncldpadakckjaaGH
import Derived.ProofKit
import Derived.OpenShut
import Derived.Carry
import Derived.JoinedCond
set_option linter.unusedVariables false
set_option linter.unusedSimpArgs false
namespace Go.Proofs.Ytncldpadakckjaa
open Go.RowKit

/-- what Rank answers at most -/
theorem Rank_err (r c : Int) (s : Value) (n : Nat) (x : Nat → Raw) (w : World) (hr : RdL w s n x) (hx : ∀ i, i < n → (x i).n ≤ 1048576) :
    ∃ ρ : Int, ∀ u : World, Below w.heap.size w u → Calls Try.prog 20 #[.agg #[.int .i64 r, .int .i64 c, s]] u fun e w' => (∃ ρ : Int, e = .returned (.tuple #[.int .i64 ρ, .int .i64 (checkE r c n)])) ∧ Below u.heap.size u w' := by
  obtain ⟨a, cap, rfl, hcap, hn, -⟩ := id hr
  refine ⟨0, fun u hu => ?_⟩
  rcases check_cases r c n with h | ⟨R, C, rfl, rfl, hR, hC, rfl⟩
  · rw [h]
    refine (Rank_bad r c a n cap (by omega) h u).mono ?_
    rintro e w' ⟨rfl, hb⟩
    exact ⟨⟨0, rfl⟩, hb⟩
  · have hK4 : R * C ≤ 4096 := Nat.mul_le_mul hR hC
    rw [checkE_ok hR hC rfl]
    refine (Rank_good R C 1048576 _ _ u hR hC (by omega) ((hr.rde (by omega) (fun i hi => by have := hx i hi; omega)).below hu) (hr.zbs hx)).mono ?_
    rintro e w' ⟨ρ, P, rfl, -, hb⟩
    exact ⟨⟨ρ, rfl⟩, hb⟩

set_option maxHeartbeats 4000000 in
set_option maxRecDepth 100000 in
theorem Null_bad (r c r' c' : Int) (a b : Option Addr) (n n' cap cap' : Nat) (hn : n ≤ 17592186044416) (hn' : n' ≤ 17592186044416) (Ea Eb : Int) (hEa : Ea = checkE r c n) (hEb : Eb = checkE r' c' n') (hne : Ea = 1 ∨ Eb = 1) (w : World)
    (hra : ∀ u : World, Below w.heap.size w u → Calls Try.prog 20 #[.agg #[.int .i64 r, .int .i64 c, .slice a n cap]] u fun e w' => (∃ ρ : Int, e = .returned (.tuple #[.int .i64 ρ, .int .i64 Ea])) ∧ Below u.heap.size u w')
    (hrb : ∀ u : World, Below w.heap.size w u → Calls Try.prog 20 #[.agg #[.int .i64 r', .int .i64 c', .slice b n' cap']] u fun e w' => (∃ ρ : Int, e = .returned (.tuple #[.int .i64 ρ, .int .i64 Eb])) ∧ Below u.heap.size u w') :
    Calls Try.prog 4 #[.agg #[.int .i64 r, .int .i64 c, .slice a n cap], .agg #[.int .i64 r', .int .i64 c', .slice b n' cap']] w fun e w' => e = .returned (.bool true) ∧ Below w.heap.size w w' := by
  obtain ⟨⟨c0, c1, c2⟩, ⟨d0, d1, d2⟩, hB⟩ := boxes2M w (.int .i64 r) (.int .i64 c) (.slice a n cap) (.int .i64 r') (.int .i64 c') (.slice b n' cap')
  have hca := fun (u : World) => Check_any r c a n cap hn u
  have hcb := fun (u : World) => Check_any r' c' b n' cap' hn' u
  have oa : Ea = 0 ∨ Ea = 1 := by rw [hEa]; exact checkE_or r c n
  have ob : Eb = 0 ∨ Eb = 1 := by rw [hEb]; exact checkE_or r' c' n'
  have hcs : (Ea = 1 ∧ Eb = 1) ∨ (Ea = 1 ∧ Eb = 0) ∨ (Ea = 0 ∧ Eb = 1) := by omega
  simp only [← hEa] at hca
  simp only [← hEb] at hcb
  have HCA := Lib.hid hca
  have HCB := Lib.hid hcb
  have HRA := Lib.hid hra
  have HRB := Lib.hid hrb
  have HB := Lib.hid hB
  clear hca hcb hra hrb hB hEa hEb hne oa ob
  go_enter Try.func4, Try.ntmps4
  go_upto_region 1 with fail
  generalize (w.alloc (.cells #[.int .i64 r, .int .i64 c, .slice a n cap] 24)).alloc (.cells #[.int .i64 r', .int .i64 c', .slice b n' cap'] 24) = W at *
  go_wp2_with fail
  (refine (HRA.out W HB.out).mono ?_)
  rintro e w1 ⟨⟨ρ, rfl⟩, hb_w1⟩
  replace c0 := cell_stays hb_w1 c0
  replace c1 := cell_stays hb_w1 c1
  replace c2 := cell_stays hb_w1 c2
  replace d0 := cell_stays hb_w1 d0
  replace d1 := cell_stays hb_w1 d1
  replace d2 := cell_stays hb_w1 d2
  replace HB := Lib.hid (below_via HB.out hb_w1)
  clear hb_w1 HRA
  go_wp2_with fail
  (refine (HRB.out w1 HB.out).mono ?_)
  rintro e w2 ⟨⟨ρ', rfl⟩, hb_w2⟩
  replace c0 := cell_stays hb_w2 c0
  replace c1 := cell_stays hb_w2 c1
  replace c2 := cell_stays hb_w2 c2
  replace d0 := cell_stays hb_w2 d0
  replace d1 := cell_stays hb_w2 d1
  replace d2 := cell_stays hb_w2 d2
  replace HB := Lib.hid (below_via HB.out hb_w2)
  clear hb_w2 HRB
  go_wp2_with fail
  (refine (awake_any w2).mono ?_)
  rintro e w3 ⟨rfl, hb_w3⟩
  replace c0 := cell_stays hb_w3 c0
  replace c1 := cell_stays hb_w3 c1
  replace c2 := cell_stays hb_w3 c2
  replace d0 := cell_stays hb_w3 d0
  replace d1 := cell_stays hb_w3 d1
  replace d2 := cell_stays hb_w3 d2
  replace HB := Lib.hid (below_via HB.out hb_w3)
  clear hb_w3
  rcases hcs with ⟨rfl, rfl⟩ | ⟨rfl, rfl⟩ | ⟨rfl, rfl⟩
  · go_wp2_with fail
    (refine (HCA.out w3).mono ?_)
    rintro e w4 ⟨rfl, hb_w4⟩
    replace c0 := cell_stays hb_w4 c0
    replace c1 := cell_stays hb_w4 c1
    replace c2 := cell_stays hb_w4 c2
    replace d0 := cell_stays hb_w4 d0
    replace d1 := cell_stays hb_w4 d1
    replace d2 := cell_stays hb_w4 d2
    replace HB := Lib.hid (below_via HB.out hb_w4)
    clear hb_w4
    go_wp2_with fail
    (refine (HCA.out w4).mono ?_)
    rintro e w6 ⟨rfl, hb_w6⟩
    replace c0 := cell_stays hb_w6 c0
    replace c1 := cell_stays hb_w6 c1
    replace c2 := cell_stays hb_w6 c2
    replace d0 := cell_stays hb_w6 d0
    replace d1 := cell_stays hb_w6 d1
    replace d2 := cell_stays hb_w6 d2
    replace HB := Lib.hid (below_via HB.out hb_w6)
    clear hb_w6
    go_wp2_with fail
    (refine (HCB.out w6).mono ?_)
    rintro e w7 ⟨rfl, hb_w7⟩
    replace c0 := cell_stays hb_w7 c0
    replace c1 := cell_stays hb_w7 c1
    replace c2 := cell_stays hb_w7 c2
    replace d0 := cell_stays hb_w7 d0
    replace d1 := cell_stays hb_w7 d1
    replace d2 := cell_stays hb_w7 d2
    replace HB := Lib.hid (below_via HB.out hb_w7)
    clear hb_w7
    go_wp2_with fail
    go_ret
    exact ⟨rfl, HB.out⟩
  · go_wp2_with fail
    (refine (HCA.out w3).mono ?_)
    rintro e w4 ⟨rfl, hb_w4⟩
    replace c0 := cell_stays hb_w4 c0
    replace c1 := cell_stays hb_w4 c1
    replace c2 := cell_stays hb_w4 c2
    replace d0 := cell_stays hb_w4 d0
    replace d1 := cell_stays hb_w4 d1
    replace d2 := cell_stays hb_w4 d2
    replace HB := Lib.hid (below_via HB.out hb_w4)
    clear hb_w4
    go_wp2_with fail
    (refine (HCA.out w4).mono ?_)
    rintro e w6 ⟨rfl, hb_w6⟩
    replace c0 := cell_stays hb_w6 c0
    replace c1 := cell_stays hb_w6 c1
    replace c2 := cell_stays hb_w6 c2
    replace d0 := cell_stays hb_w6 d0
    replace d1 := cell_stays hb_w6 d1
    replace d2 := cell_stays hb_w6 d2
    replace HB := Lib.hid (below_via HB.out hb_w6)
    clear hb_w6
    go_wp2_with fail
    (refine (HCB.out w6).mono ?_)
    rintro e w7 ⟨rfl, hb_w7⟩
    replace c0 := cell_stays hb_w7 c0
    replace c1 := cell_stays hb_w7 c1
    replace c2 := cell_stays hb_w7 c2
    replace d0 := cell_stays hb_w7 d0
    replace d1 := cell_stays hb_w7 d1
    replace d2 := cell_stays hb_w7 d2
    replace HB := Lib.hid (below_via HB.out hb_w7)
    clear hb_w7
    go_wp2_with fail
    go_ret
    exact ⟨rfl, HB.out⟩
  · go_wp2_with fail
    (refine (HCA.out w3).mono ?_)
    rintro e w4 ⟨rfl, hb_w4⟩
    replace c0 := cell_stays hb_w4 c0
    replace c1 := cell_stays hb_w4 c1
    replace c2 := cell_stays hb_w4 c2
    replace d0 := cell_stays hb_w4 d0
    replace d1 := cell_stays hb_w4 d1
    replace d2 := cell_stays hb_w4 d2
    replace HB := Lib.hid (below_via HB.out hb_w4)
    clear hb_w4
    go_wp2_with fail
    (refine (HCB.out w4).mono ?_)
    rintro e w5 ⟨rfl, hb_w5⟩
    replace c0 := cell_stays hb_w5 c0
    replace c1 := cell_stays hb_w5 c1
    replace c2 := cell_stays hb_w5 c2
    replace d0 := cell_stays hb_w5 d0
    replace d1 := cell_stays hb_w5 d1
    replace d2 := cell_stays hb_w5 d2
    replace HB := Lib.hid (below_via HB.out hb_w5)
    clear hb_w5
    go_wp2_with fail
    (refine (HCA.out w5).mono ?_)
    rintro e w6 ⟨rfl, hb_w6⟩
    replace c0 := cell_stays hb_w6 c0
    replace c1 := cell_stays hb_w6 c1
    replace c2 := cell_stays hb_w6 c2
    replace d0 := cell_stays hb_w6 d0
    replace d1 := cell_stays hb_w6 d1
    replace d2 := cell_stays hb_w6 d2
    replace HB := Lib.hid (below_via HB.out hb_w6)
    clear hb_w6
    go_wp2_with fail
    (refine (HCB.out w6).mono ?_)
    rintro e w7 ⟨rfl, hb_w7⟩
    replace c0 := cell_stays hb_w7 c0
    replace c1 := cell_stays hb_w7 c1
    replace c2 := cell_stays hb_w7 c2
    replace d0 := cell_stays hb_w7 d0
    replace d1 := cell_stays hb_w7 d1
    replace d2 := cell_stays hb_w7 d2
    replace HB := Lib.hid (below_via HB.out hb_w7)
    clear hb_w7
    go_wp2_with fail
    go_ret
    exact ⟨rfl, HB.out⟩
end Go.Proofs.Ytncldpadakckjaa

namespace Go.Proofs.Ytncldpadakckjaa
open Go.RowKit

theorem Det_snd (R C S : Nat) (sl : Value) (A : Nat → Int) (w : World) (hR : R ≤ 64) (hC : C ≤ 64) (hS : S ≤ 100000000) (hr : RdE w sl (R * C) A) (hA : ∀ q, q < R * C → ZB S (A q)) :
    Calls Try.prog 23 #[.agg #[.int .i64 R, .int .i64 C, sl]] w fun e w' => ∃ sg am an ac h z, e = .returned (.tuple #[.agg #[.bool sg, .slice am an ac], .int .i64 h]) ∧ RdZ w' (.agg #[.bool sg, .slice am an ac]) z ∧ (R = C → h = 0 ∧ z = laZ.dt R (fun i j => A (i * C + j))) ∧ Below w.heap.size w w' := by
  by_cases e : R = C
  · subst e
    refine (Det_good R S sl A w hR (by omega) hr hA).mono ?_
    rintro e w' ⟨v, rfl, hf, hb⟩
    obtain ⟨am, an, ac, rfl, -⟩ := hf.agg
    exact ⟨_, _, _, _, _, _, rfl, hf.rd (leadD_zb hA hR (Nat.le_refl R)) (by omega), fun _ => ⟨rfl, rfl⟩, hb⟩
  · obtain ⟨a, cap, rfl, -⟩ := hr.slice
    refine (Det_unfit R C a (R * C) cap (by have := Nat.mul_le_mul hR hC; omega) (checkE_ok hR hC rfl) (by omega) w).mono ?_
    rintro e' w' ⟨rfl, hb⟩
    exact ⟨_, _, _, _, _, _, rfl, rd_zero w', fun h => absurd h e, hb⟩
theorem Mul_snd (R C R' C' S T : Nat) (sl sl' : Value) (A B : Nat → Int) (w : World) (hR : R ≤ 64) (hC : C ≤ 64) (hR' : R' ≤ 64) (hC' : C' ≤ 64) (hST : S + T + 1 ≤ 274877906944) (hr : RdE w sl (R * C) A) (hr' : RdE w sl' (R' * C') B) (hA : ∀ q, q < R * C → ZB S (A q)) (hB : ∀ q, q < R' * C' → ZB T (B q)) :
    Calls Try.prog 25 #[.agg #[.int .i64 R, .int .i64 C, sl], .agg #[.int .i64 R', .int .i64 C', sl']] w fun e w' => ∃ E pr pc pa pn pk, e = .returned (.tuple #[.agg #[.int .i64 pr, .int .i64 pc, .slice pa pn pk], .int .i64 E]) ∧ ((E = 0 ∧ C = R' ∧ pr = R ∧ pc = C' ∧ pn = R * C' ∧ RdE w' (.slice pa (R * C') pk) (R * C') (mulE A B C C')) ∨ E = 2) ∧ Below w.heap.size w w' := by
  by_cases e : C = R'
  · subst e
    refine (Mul_good R C C' S T sl sl' A B w hR hC hC' hST hr hr' hA hB).mono ?_
    rintro e w' ⟨lb, rfl, hf, hb⟩
    exact ⟨0, R, C', _, _, _, rfl, Or.inl ⟨rfl, rfl, rfl, rfl, rfl, hf.rd (Nat.le_refl _) (Nat.le_trans (Nat.mul_le_mul hR hC') (by decide))⟩, hb⟩
  · obtain ⟨a, cap, rfl, -⟩ := hr.slice
    obtain ⟨b, cap', rfl, -⟩ := hr'.slice
    refine (Mul_not R C R' C' a b (R * C) (R' * C') cap cap' (by have := Nat.mul_le_mul hR hC; omega) (by have := Nat.mul_le_mul hR' hC'; omega) 2 (Or.inr ⟨by rw [checkE_ok hR hC rfl, checkE_ok hR' hC' rfl]; rfl, by omega, rfl⟩) w).mono ?_
    rintro e' w' ⟨rfl, hb⟩
    exact ⟨2, 0, 0, _, _, _, rfl, Or.inr rfl, hb⟩
theorem Add_snd (R C R' C' S T : Nat) (sl sl' : Value) (A B : Nat → Int) (w : World) (hR : R ≤ 64) (hC : C ≤ 64) (hR' : R' ≤ 64) (hC' : C' ≤ 64) (hST : S + T + 1 ≤ 274877906944) (hr : RdE w sl (R * C) A) (hr' : RdE w sl' (R' * C') B) (hA : ∀ q, q < R * C → ZB S (A q)) (hB : ∀ q, q < R' * C' → ZB T (B q)) :
    Calls Try.prog 26 #[.agg #[.int .i64 R, .int .i64 C, sl], .agg #[.int .i64 R', .int .i64 C', sl']] w fun e w' => ∃ E pr pc pa pn pk, e = .returned (.tuple #[.agg #[.int .i64 pr, .int .i64 pc, .slice pa pn pk], .int .i64 E]) ∧ ((E = 0 ∧ R = R' ∧ C = C' ∧ pr = R ∧ pc = C ∧ pn = R * C ∧ RdE w' (.slice pa (R * C) pk) (R * C) (addE A B)) ∨ E = 2) ∧ Below w.heap.size w w' := by
  by_cases e : R = R' ∧ C = C'
  · obtain ⟨e1, e2⟩ := e
    subst e1 e2
    refine (Add_good R C S T sl sl' A B w hR hC hST hr hr' hA hB).mono ?_
    rintro e w' ⟨lb, rfl, hf, hb⟩
    exact ⟨0, R, C, _, _, _, rfl, Or.inl ⟨rfl, rfl, rfl, rfl, rfl, rfl, hf.rd (Nat.le_refl _) (Nat.le_trans (Nat.mul_le_mul hR hC) (by decide))⟩, hb⟩
  · obtain ⟨a, cap, rfl, -⟩ := hr.slice
    obtain ⟨b, cap', rfl, -⟩ := hr'.slice
    refine (Add_not R C R' C' a b (R * C) (R' * C') cap cap' (by have := Nat.mul_le_mul hR hC; omega) (by have := Nat.mul_le_mul hR' hC'; omega) 2 (Or.inr ⟨by rw [checkE_ok hR hC rfl, checkE_ok hR' hC' rfl]; rfl, fun h => e ⟨by omega, by omega⟩, rfl⟩) w).mono ?_
    rintro e' w' ⟨rfl, hb⟩
    exact ⟨2, 0, 0, _, _, _, rfl, Or.inr rfl, hb⟩

set_option maxHeartbeats 8000000 in
set_option maxRecDepth 100000 in
theorem Null_good (R C R' C' S : Nat) (sl sl' : Value) (A B : Nat → Int) (w : World) (hR : R ≤ 64) (hC : C ≤ 64) (hR' : R' ≤ 64) (hC' : C' ≤ 64) (hS : S ≤ 100000000) (hr : RdE w sl (R * C) A) (hr' : RdE w sl' (R' * C') B) (hA : ∀ q, q < R * C → ZB S (A q)) (hB' : ∀ q, q < R' * C' → ZB S (B q)) :
    Calls Try.prog 4 #[.agg #[.int .i64 R, .int .i64 C, sl], .agg #[.int .i64 R', .int .i64 C', sl']] w fun e w' => e = .returned (.bool true) ∧ Below w.heap.size w w' := by
  have hK4 : R * C ≤ 4096 := Nat.mul_le_mul hR hC
  have hK5 : R' * C' ≤ 4096 := Nat.mul_le_mul hR' hC'
  obtain ⟨a, cap, rfl, hcap⟩ := hr.slice
  obtain ⟨b, cap', rfl, hcap'⟩ := hr'.slice
  obtain ⟨⟨c0, c1, c2⟩, ⟨d0, d1, d2⟩, hB⟩ := boxes2M w (.int .i64 R) (.int .i64 C) (.slice a (R * C) cap) (.int .i64 R') (.int .i64 C') (.slice b (R' * C') cap')
  have hca := fun (u : World) => Check_any R C a (R * C) cap (by omega) u
  have hcb := fun (u : World) => Check_any R' C' b (R' * C') cap' (by omega) u
  rw [checkE_ok hR hC rfl] at hca
  rw [checkE_ok hR' hC' rfl] at hcb
  have hra := fun (u : World) (hu : Below w.heap.size w u) => Rank_good R C S _ A u hR hC (by omega) (hr.below hu) hA
  have hrb := fun (u : World) (hu : Below w.heap.size w u) => Rank_good R' C' S _ B u hR' hC' (by omega) (hr'.below hu) hB'
  have htu := fun (u : World) (hu : Below w.heap.size w u) => Turn_good R C _ A u hR hC (hr.below hu)
  have hdt := fun (u : World) (hu : Below w.heap.size w u) => Det_snd R C S _ A u hR hC hS (hr.below hu) hA
  have hmu := fun (u : World) (hu : Below w.heap.size w u) => Mul_snd R C R' C' S S _ _ A B u hR hC hR' hC' (by omega) (hr.below hu) (hr'.below hu) hA hB'
  have had := fun (u : World) (hu : Below w.heap.size w u) => Add_snd R C R' C' S S _ _ A B u hR hC hR' hC' (by omega) (hr.below hu) (hr'.below hu) hA hB'
  have hrt := fun (s : Value) (u : World) (h : RdE u s (C * R) (turnE A R C)) => Rank_good C R S s (turnE A R C) u hC hR (by omega) h (fun q hq => by
    obtain ⟨h1, h2⟩ := idx_at hq
    exact hA _ (idx_lt h2 h1 rfl).1)
  have hrp := fun (s : Value) (u : World) (hcr : C = R') (h : RdE u s (R * C') (mulE A B C C')) => Rank_good R C' (S + S + 1) s (mulE A B C C') u hR hC' (by omega) h (mulE_zb hC hA (by subst hcr; exact hB'))
  have hrs := fun (s : Value) (u : World) (h1 : R = R') (h2 : C = C') (h : RdE u s (R * C) (addE A B)) => Rank_good R C (S + S + 1) s (addE A B) u hR hC (by omega) h (addE_zb hA (by subst h1 h2; exact hB'))
  have hK6 : C * R ≤ 1048576 := Nat.le_trans (Nat.mul_le_mul hC hR) (by decide)
  generalize hCR : C * R = CR at *
  generalize hRC : R * C = K at *
  generalize hRC' : R' * C' = K' at *
  generalize hRP : R * C' = KP at *
  have HCA := Lib.hid hca
  have HCB := Lib.hid hcb
  have HRA := Lib.hid hra
  have HRB := Lib.hid hrb
  have HTU := Lib.hid htu
  have HDT := Lib.hid hdt
  have HMU := Lib.hid hmu
  have HAD := Lib.hid had
  have HRT := Lib.hid hrt
  have HRP := Lib.hid hrp
  have HRS := Lib.hid hrs
  have HB := Lib.hid hB
  clear hca hcb hra hrb htu hdt hmu had hrt hrp hrs hB hr hr' hA hB' hCR hRC hRC' hRP
  go_enter Try.func4, Try.ntmps4
  go_upto_region 1 with fail
  generalize (w.alloc (.cells #[.int .i64 R, .int .i64 C, .slice a K cap] 24)).alloc (.cells #[.int .i64 R', .int .i64 C', .slice b K' cap'] 24) = W at *
  go_wp2_with fail
  (refine (HRA.out W HB.out).mono ?_)
  rintro e w1 ⟨ra, P, rfl, hpa, hb_w1⟩
  have HPA := Lib.hid hpa
  have ra1 : ra ≤ R := hpa.le
  have ra2 : ra ≤ C := hpa.le_cols
  replace c0 := cell_stays hb_w1 c0
  replace c1 := cell_stays hb_w1 c1
  replace c2 := cell_stays hb_w1 c2
  replace d0 := cell_stays hb_w1 d0
  replace d1 := cell_stays hb_w1 d1
  replace d2 := cell_stays hb_w1 d2
  replace HB := Lib.hid (below_via HB.out hb_w1)
  clear hb_w1 HRA hpa
  go_wp2_with fail
  (refine (HRB.out w1 HB.out).mono ?_)
  rintro e w2 ⟨rb, P', rfl, hpb, hb_w2⟩
  have HPB := Lib.hid hpb
  have rb1 : rb ≤ R' := hpb.le
  replace c0 := cell_stays hb_w2 c0
  replace c1 := cell_stays hb_w2 c1
  replace c2 := cell_stays hb_w2 c2
  replace d0 := cell_stays hb_w2 d0
  replace d1 := cell_stays hb_w2 d1
  replace d2 := cell_stays hb_w2 d2
  replace HB := Lib.hid (below_via HB.out hb_w2)
  clear hb_w2 HRB hpb
  go_wp2_with fail
  (refine (awake_any w2).mono ?_)
  rintro e w3 ⟨rfl, hb_w3⟩
  replace c0 := cell_stays hb_w3 c0
  replace c1 := cell_stays hb_w3 c1
  replace c2 := cell_stays hb_w3 c2
  replace d0 := cell_stays hb_w3 d0
  replace d1 := cell_stays hb_w3 d1
  replace d2 := cell_stays hb_w3 d2
  replace HB := Lib.hid (below_via HB.out hb_w3)
  clear hb_w3
  go_wp2_with fail
  (refine (HCA.out w3).mono ?_)
  rintro e w4 ⟨rfl, hb_w4⟩
  replace c0 := cell_stays hb_w4 c0
  replace c1 := cell_stays hb_w4 c1
  replace c2 := cell_stays hb_w4 c2
  replace d0 := cell_stays hb_w4 d0
  replace d1 := cell_stays hb_w4 d1
  replace d2 := cell_stays hb_w4 d2
  replace HB := Lib.hid (below_via HB.out hb_w4)
  clear hb_w4 HCA
  go_wp2_with fail
  (refine (HCB.out w4).mono ?_)
  rintro e w5 ⟨rfl, hb_w5⟩
  replace c0 := cell_stays hb_w5 c0
  replace c1 := cell_stays hb_w5 c1
  replace c2 := cell_stays hb_w5 c2
  replace d0 := cell_stays hb_w5 d0
  replace d1 := cell_stays hb_w5 d1
  replace d2 := cell_stays hb_w5 d2
  replace HB := Lib.hid (below_via HB.out hb_w5)
  clear hb_w5 HCB
  go_wp2_with fail
  (refine (HTU.out w5 HB.out).mono ?_)
  rintro e w6 ⟨lt, rfl, hf6, hb_w6⟩
  have ba_w6 := bl_alloc w6 (.cells #[.int .i64 C, .int .i64 R, .slice (some ⟨lt, 0, none⟩) CR CR] 24)
  replace hb_w6 := below_via hb_w6 ba_w6
  have bk_w6 := three_cells w6 (.int .i64 C) (.int .i64 R) (.slice (some ⟨lt, 0, none⟩) CR CR) 24
  have t0 := (bk_w6 0 _ rfl).1
  have t1 := (bk_w6 1 _ rfl).1
  have t2 := (bk_w6 2 _ rfl).1
  have RT := Lib.hid ((hf6.rd (Nat.le_refl _) hK6).below ba_w6)
  replace c0 := cell_stays hb_w6 c0
  replace c1 := cell_stays hb_w6 c1
  replace c2 := cell_stays hb_w6 c2
  replace d0 := cell_stays hb_w6 d0
  replace d1 := cell_stays hb_w6 d1
  replace d2 := cell_stays hb_w6 d2
  replace HB := Lib.hid (below_via HB.out hb_w6)
  clear hb_w6 ba_w6 bk_w6 hf6 HTU
  go_wp2_with fail
  generalize hq_w6 : w6.heap.size = q_w6 at *
  generalize w6.alloc (.cells #[.int .i64 C, .int .i64 R, .slice (some ⟨lt, 0, none⟩) CR CR] 24) = v_w6 at *
  clear hq_w6
  have hrt6 := HRT.out _ v_w6 RT.out
  have HRT6 := Lib.hid hrt6
  clear hrt6 RT
  (refine (HRT6.out).mono ?_)
  rintro e w7 ⟨rt, P'', rfl, hpt, hb_w7⟩
  obtain rfl := (hpt.congr (B := fun j i => A (i * C + j)) fun i j _ hj => turn_idx A hj).turn HPA.out
  replace c0 := cell_stays hb_w7 c0
  replace c1 := cell_stays hb_w7 c1
  replace c2 := cell_stays hb_w7 c2
  replace d0 := cell_stays hb_w7 d0
  replace d1 := cell_stays hb_w7 d1
  replace d2 := cell_stays hb_w7 d2
  replace HB := Lib.hid (below_via HB.out hb_w7)
  clear hb_w7 HRT HRT6 hpt
  clear t0 t1 t2
  go_wp2_with fail
  (refine (HDT.out w7 HB.out).mono ?_)
  rintro e w8 ⟨sg, am, an, ac, hh, z, rfl, hz8, hd8, hb_w8⟩
  have ba_w8 := bl_alloc w8 (.cells #[.bool sg, .slice am an ac] 42)
  replace hb_w8 := below_via hb_w8 ba_w8
  obtain ⟨x0, x1, -, -⟩ := two_cells w8 (.bool sg) (.slice am an ac) 42
  have RZ := Lib.hid (hz8.below ba_w8)
  have HD8 := Lib.hid hd8
  replace c0 := cell_stays hb_w8 c0
  replace c1 := cell_stays hb_w8 c1
  replace c2 := cell_stays hb_w8 c2
  replace d0 := cell_stays hb_w8 d0
  replace d1 := cell_stays hb_w8 d1
  replace d2 := cell_stays hb_w8 d2
  replace HB := Lib.hid (below_via HB.out hb_w8)
  clear hb_w8 ba_w8 hz8 hd8 HDT
  go_wp2_with fail
  generalize hq_w8 : w8.heap.size = q_w8 at *
  generalize w8.alloc (.cells #[.bool sg, .slice am an ac] 42) = v_w8 at *
  clear hq_w8
  have HDI := Lib.hid (fun e : R = C => by subst e; exact HPA.out.det_iff)
  go_upto_region 12 with fail
  have U1 := Lib.hid (fun u (hu : Below v_w8.heap.size v_w8 u) => zSign_any _ z u (RZ.out.below hu))
  go_cut [118] (fun v wx => v = .bool false ∧ Below v_w8.heap.size v_w8 wx)
  case first =>
    by_cases hrc : R = C
    · subst hrc
      obtain ⟨rfl, hz⟩ := HD8.out rfl
      have hsg : (sgZ z != 0) = ((rt : Int) == R) := by
        rw [sgZ_ne, hz]
        have h := HDI.out rfl
        by_cases e : rt = R
        · rw [decide_eq_true (h.2 e)]; symm; rw [beq_iff_eq]; omega
        · rw [decide_eq_false (fun h' => e (h.1 h'))]; symm; rw [beq_eq_false_iff_ne]; omega
      obtain ⟨sz, hsz⟩ : ∃ sz, sz = sgZ z := ⟨_, rfl⟩
      rw [← hsz] at hsg
      simp only [← hsz] at U1
      have T8 := Lib.hid (And.intro c0 (And.intro c1 (And.intro x0 x1)))
      clear hsz hz
      go_region_held3 (fun w' => w'.cell? ⟨w.heap.size, 0, none⟩ = some (.int .i64 R) ∧ w'.cell? ⟨w.heap.size, 1, none⟩ = some (.int .i64 R) ∧ w'.cell? ⟨q_w8, 0, none⟩ = some (.bool sg) ∧ w'.cell? ⟨q_w8, 1, none⟩ = some (.slice am an ac))
        (first
          | exact T8.out
          | exact T_w9.out
          | go_keep)
        (first
          | (go_at_call 24; (first | (with_reducible refine (U1.out _ (bl_refl _)).mono ?_) | (with_reducible refine (U1.out _ (bl_drew _)).mono ?_)); rintro e w9 ⟨rfl, bb_w9⟩
             have b_w9 : Below v_w8.heap.size v_w8 w9 := by first | (with_reducible exact below_via (bl_refl _) bb_w9) | (with_reducible exact below_via (bl_drew _) bb_w9)
             have T_w9 := Lib.hid (show w9.cell? ⟨w.heap.size, 0, none⟩ = some (.int .i64 R) ∧ w9.cell? ⟨w.heap.size, 1, none⟩ = some (.int .i64 R) ∧ w9.cell? ⟨q_w8, 0, none⟩ = some (.bool sg) ∧ w9.cell? ⟨q_w8, 1, none⟩ = some (.slice am an ac) from ⟨cell_stays b_w9 (T8.out.1), cell_stays b_w9 (T8.out.2.1), cell_stays b_w9 (T8.out.2.2.1), cell_stays b_w9 (T8.out.2.2.2)⟩)
             clear bb_w9))
      all_goals
        go_wp2_with fail
        go_meet
        exact ⟨by first | rfl | (rw [hsg]; simp), b_w9⟩
    · have hrc' : ((R : Int) == C) = false := by rw [beq_eq_false_iff_ne]; omega
      have hrc2 : decide (R = C) = false := decide_eq_false hrc
      clear hrc
      go_quiet (fail)
      go_wp2_with fail
      go_meet
      exact ⟨rfl, below_drewN (Below.refl _ _) _⟩
  case rest =>
  obtain ⟨rfl, hcb⟩ := hcut
  obtain ⟨v9, hv9⟩ : ∃ x, x = wc := ⟨_, rfl⟩
  subst hv9
  replace c0 := cell_stays hcb c0
  replace c1 := cell_stays hcb c1
  replace c2 := cell_stays hcb c2
  replace d0 := cell_stays hcb d0
  replace d1 := cell_stays hcb d1
  replace d2 := cell_stays hcb d2
  replace HB := Lib.hid (below_via HB.out hcb)
  clear hcb U1 RZ HD8 HDI x0 x1
  go_wp2_with fail
  (refine (HMU.out v9 HB.out).mono ?_)
  rintro e w10 ⟨E, pr, pc, pa, pn, pk, rfl, hor, hb_w10⟩
  have ba_w10 := bl_alloc w10 (.cells #[.int .i64 pr, .int .i64 pc, .slice pa pn pk] 24)
  replace hb_w10 := below_via hb_w10 ba_w10
  have bk_w10 := three_cells w10 (.int .i64 pr) (.int .i64 pc) (.slice pa pn pk) 24
  have p0 := (bk_w10 0 _ rfl).1
  have p1 := (bk_w10 1 _ rfl).1
  have p2 := (bk_w10 2 _ rfl).1
  have HOR := Lib.hid (show (E = 0 ∧ C = R' ∧ pr = R ∧ pc = C' ∧ pn = KP ∧ RdE (w10.alloc (.cells #[.int .i64 pr, .int .i64 pc, .slice pa pn pk] 24)) (.slice pa KP pk) KP (mulE A B C C')) ∨ E = 2 from hor.imp (fun h => ⟨h.1, h.2.1, h.2.2.1, h.2.2.2.1, h.2.2.2.2.1, h.2.2.2.2.2.below ba_w10⟩) id)
  replace c0 := cell_stays hb_w10 c0
  replace c1 := cell_stays hb_w10 c1
  replace c2 := cell_stays hb_w10 c2
  replace d0 := cell_stays hb_w10 d0
  replace d1 := cell_stays hb_w10 d1
  replace d2 := cell_stays hb_w10 d2
  replace HB := Lib.hid (below_via HB.out hb_w10)
  clear hb_w10 ba_w10 bk_w10 HMU hor
  go_upto_if 126 with fail
  generalize hq_w10 : w10.heap.size = q_w10 at *
  generalize w10.alloc (.cells #[.int .i64 pr, .int .i64 pc, .slice pa pn pk] 24) = v_w10 at *
  clear hq_w10
  go_cut [] (fun wx => Below v_w10.heap.size v_w10 wx)
  case first =>
    rcases HOR.out with ⟨rfl, hcr, rfl, rfl, rfl, hrd⟩ | rfl
    · have hrk := HRP.out _ v_w10 hcr hrd
      have hpr := fun (r : Nat) (P3 : Nat → Nat) (h : PivQ R C' r P3 (fun i j => mulE A B C C' (i * C' + j))) => HPA.out.mul (by subst hcr; exact HPB.out) h (fun i j _ hj => mulE_at A B C C' i j hj)
      have HRK := Lib.hid hrk
      have HPR := Lib.hid hpr
      clear hrk hpr hrd HOR hcr
      go_wp2_with fail
      (refine HRK.out.mono ?_)
      rintro e w11 ⟨r, P3, rfl, hp3, hb11⟩
      obtain ⟨q1, q2, q3⟩ := HPR.out r P3 hp3
      replace c0 := cell_stays hb11 c0
      replace c1 := cell_stays hb11 c1
      have HB11 := Lib.hid hb11
      clear hp3 hb11 HRK HPR
      go_wp2_with fail
      go_meet
      exact HB11.out
    · go_wp2_with fail
      go_meet
      exact bl_refl _
  case rest =>
  obtain ⟨v11, hv11⟩ : ∃ x, x = wc := ⟨_, rfl⟩
  subst hv11
  replace c0 := cell_stays hcut c0
  replace c1 := cell_stays hcut c1
  replace c2 := cell_stays hcut c2
  replace d0 := cell_stays hcut d0
  replace d1 := cell_stays hcut d1
  replace d2 := cell_stays hcut d2
  replace HB := Lib.hid (below_via HB.out hcut)
  clear hcut HOR p0 p1 p2 HRP
  go_wp2_with fail
  (refine (HAD.out v11 HB.out).mono ?_)
  rintro e w12 ⟨E2, sr, sc, sa, sn, sk, rfl, hor2, hb_w12⟩
  have ba_w12 := bl_alloc w12 (.cells #[.int .i64 sr, .int .i64 sc, .slice sa sn sk] 24)
  replace hb_w12 := below_via hb_w12 ba_w12
  have bk_w12 := three_cells w12 (.int .i64 sr) (.int .i64 sc) (.slice sa sn sk) 24
  have p0 := (bk_w12 0 _ rfl).1
  have p1 := (bk_w12 1 _ rfl).1
  have p2 := (bk_w12 2 _ rfl).1
  have HOR2 := Lib.hid (show (E2 = 0 ∧ R = R' ∧ C = C' ∧ sr = R ∧ sc = C ∧ sn = K ∧ RdE (w12.alloc (.cells #[.int .i64 sr, .int .i64 sc, .slice sa sn sk] 24)) (.slice sa K sk) K (addE A B)) ∨ E2 = 2 from hor2.imp (fun h => ⟨h.1, h.2.1, h.2.2.1, h.2.2.2.1, h.2.2.2.2.1, h.2.2.2.2.2.1, h.2.2.2.2.2.2.below ba_w12⟩) id)
  replace c0 := cell_stays hb_w12 c0
  replace c1 := cell_stays hb_w12 c1
  replace c2 := cell_stays hb_w12 c2
  replace d0 := cell_stays hb_w12 d0
  replace d1 := cell_stays hb_w12 d1
  replace d2 := cell_stays hb_w12 d2
  replace HB := Lib.hid (below_via HB.out hb_w12)
  clear hb_w12 ba_w12 bk_w12 HAD hor2
  go_upto_region 20 with fail
  generalize hq_w12 : w12.heap.size = q_w12 at *
  generalize w12.alloc (.cells #[.int .i64 sr, .int .i64 sc, .slice sa sn sk] 24) = v_w12 at *
  clear hq_w12
  rcases HOR2.out with ⟨rfl, h1, h2, rfl, rfl, rfl, hrd⟩ | rfl
  · have hrk := HRS.out _ v_w12 h1 h2 hrd
    have hpr := fun (r : Nat) (P3 : Nat → Nat) (h : PivQ R C r P3 (fun i j => addE A B (i * C + j))) => HPA.out.add (by subst h1 h2; exact HPB.out) h (fun i j _ _ => rfl)
    have HRK := Lib.hid hrk
    have HPR := Lib.hid hpr
    clear hrk hpr hrd HOR2 h1 h2
    go_wp2_with fail
    (refine HRK.out.mono ?_)
    rintro e w13 ⟨r, P3, rfl, hp3, hb13⟩
    obtain ⟨q1, q2, q3⟩ := HPR.out r P3 hp3
    have HB13 := Lib.hid hb13
    clear hp3 hb13 HRK HPR
    go_wp2_with fail
    go_ret
    exact ⟨ret_bool (decide_eq_true (by omega)), below_via HB.out HB13.out⟩
  · go_wp2_with fail
    go_ret
    exact ⟨rfl, HB.out⟩

set_option maxRecDepth 100000 in
/-- the law, for any arguments -/
theorem Null_law (r c r' c' : Int) (s s' : Value) (n n' : Nat) (x x' : Nat → Raw) (w : World) (hr : RdL w s n x) (hr' : RdL w s' n' x') (hx : ∀ i, i < n → (x i).n ≤ 1048576) (hx' : ∀ i, i < n' → (x' i).n ≤ 1048576) :
    Calls Try.prog 4 #[.agg #[.int .i64 r, .int .i64 c, s], .agg #[.int .i64 r', .int .i64 c', s']] w fun e w' => e = .returned (.bool true) ∧ Below w.heap.size w w' := by
  obtain ⟨ρ, ha⟩ := Rank_err r c s n x w hr hx
  obtain ⟨ρ', hb⟩ := Rank_err r' c' s' n' x' w hr' hx'
  obtain ⟨a, cap, rfl, hcap, hn, -⟩ := id hr
  obtain ⟨b, cap', rfl, hcap', hn', -⟩ := id hr'
  rcases check_cases r c n with h | ⟨R, C, rfl, rfl, hR, hC, rfl⟩
  · exact Null_bad r c r' c' a b n n' cap cap' (by omega) (by omega) _ _ rfl rfl (Or.inl h) w ha hb
  · rcases check_cases r' c' n' with h | ⟨R', C', rfl, rfl, hR', hC', rfl⟩
    · exact Null_bad R C r' c' a b (R * C) n' cap cap' (by omega) (by omega) _ _ rfl rfl (Or.inr h) w ha hb
    · have hK4 : R * C ≤ 4096 := Nat.mul_le_mul hR hC
      have hK5 : R' * C' ≤ 4096 := Nat.mul_le_mul hR' hC'
      exact Null_good R C R' C' 1048576 _ _ _ _ w hR hC hR' hC' (by omega) (hr.rde (by omega) (fun i hi => by have := hx i hi; omega)) (hr'.rde (by omega) (fun i hi => by have := hx' i hi; omega)) (hr.zbs hx) (hr'.zbs hx')
end Go.Proofs.Ytncldpadakckjaa

namespace Go.Proofs.Ytncldpadakckjaa.bareissNull
open Go.ChangeShapes Go.WideShapes Go.ChangeAt Go.RowKit

theorem own : ownKnob Try.prog.godebug = none := by kernel_rfl

set_option maxRecDepth 100000 in
theorem contract (H : Type) (enc : TypeId × Value → H) (W : World) (base : Nat) (args : Array Value) (ds gs : List (DataW H)) (before : List MemPlace)
    (hval : ∀ (j : Nat) t v, Try.f4.params[j]? = some t → args[j]? = some v → Value.okWide Try.prog W .any base t v)
    (hW : DataW.Whole enc Try.prog Try.f4.params.toList Rows.bareissNullSpec.vars false W args.toList ds gs before) (hk : Rows.uptoSmall H (ds ++ gs) = true) :
    Calls Try.prog 4 args W fun e W' => ∃ v, e = .returned v ∧ Rows.bareissNullSpec.post enc Try.prog Try.f4 false true false false W args v W' := by
  have hW' := hW
  have hlt : ∀ x ∈ before, x.block < W.heap.size := fun x hx => hW.lt x hx
  obtain ⟨p, q, hA0, hV, rfl, hfz, hnd⟩ := hW
  have hA : DataW.TrodAll enc Try.prog W 0 (fun _ => true) true Try.f4.params.toList args.toList ds p := hA0
  rw [Try.params4] at hA hval
  obtain ⟨v0, vs0, d0, ds0, p0, q0, hargs, rfl, rfl, h0, r0⟩ := trodAll_cons hA
  obtain ⟨v1, vs1, d1, ds1, p1, q1, rfl, rfl, rfl, h1, r1⟩ := trodAll_cons r0
  obtain ⟨rfl, rfl, rfl⟩ := trodAll_nil r1
  obtain rfl : args = #[v0, v1] := by cases args; simp_all
  obtain ⟨rfl, rfl⟩ := trodVars_none hV
  have h0k := h0
  have h1k := h1
  clear hA0
  simp only [List.append_nil] at hW' hk hlt
  have hbk : Rows.uptoBulkAll [d0, d1] ≤ 1048576 := of_decide_eq_true hk
  simp only [Rows.uptoBulkAll] at hbk
  obtain ⟨R0, C0, s0, n0, x0, rfl, hr0, hn0, hx0, -, -⟩ := open_mat (B := 1048576) (hval 0 24 v0 rfl rfl) h0 (by omega) (by omega)
  obtain ⟨R1, C1, s1, n1, x1, rfl, hr1, hn1, hx1, -, -⟩ := open_mat (B := 1048576) (hval 1 24 v1 rfl rfl) h1 (by omega) (by omega)
  refine (Null_law R0 C0 R1 C1 s0 s1 n0 n1 x0 x1 W hr0 hr1 hx0 hx1).mono fun e W' ⟨he, hg⟩ => ?_
  subst he
  refine ⟨_, rfl, post_of_below (pa := (p0 ++ (p1 ++ []))) (pv := []) hW' (fun _ _ _ => (trodAll_cons_mk (shut_bool Try.underlying4 _) trodAll_mk0)) (fun sp hsp => (trodAll_cons_mk (WideElems.Trod_stays (P := Try.prog) (by kernel_rfl) (by kernel_rfl) (of_decide_eq_true (by kernel_rfl)) h0k (fun x hx => hg.same (hlt x (by simp [hx]))) (fun x hx => hsp x (by simp [hx]))) (trodAll_cons_mk (WideElems.Trod_stays (P := Try.prog) (by kernel_rfl) (by kernel_rfl) (of_decide_eq_true (by kernel_rfl)) h1k (fun x hx => hg.same (hlt x (by simp [hx]))) (fun x hx => hsp x (by simp [hx]))) trodAll_mk0))) (fun _ _ => rfl) (by simp)
    hg (ok_one (by kernel_rfl) rfl (okWide_bool_mk Try.underlying4 _))⟩

set_option maxRecDepth 100000 in
theorem lifted (os : Os) (started : os.Started) (H : Type) (enc : TypeId × Value → H) (F : Stop.Interp) :
    ReturnsInHanded {} Try.checked os 4 .any ((Rows.OpenSpec.upto Rows.bareissNullSpec).pre6 enc Try.prog Try.f4 Rows.bareissNullUptoRow.domain false) (((Rows.OpenSpec.upto Rows.bareissNullSpec).at F).post enc Try.prog Try.f4 false true false false) := by
  refine returnsInHanded_of_cond (C := Try.checked) (s := Rows.OpenSpec.upto Rows.bareissNullSpec) (k := Rows.uptoSmall) rfl own started (by kernel_rfl) Try.func4
    (OpenSpec.witness (enc := enc) (C := Try.checked) (s := Rows.OpenSpec.upto Rows.bareissNullSpec) (k := Rows.uptoSmall) rfl false ⟨#[], #[.agg #[.int .i64 0, .int .i64 0, .slice none 0 0], .agg #[.int .i64 0, .int .i64 0, .slice none 0 0]], []⟩ 8 (by kernel_rfl) (by kernel_rfl) (by kernel_rfl)
      (x := ([.agg [.lit (.int .i64 0), .lit (.int .i64 0), .nil], .agg [.lit (.int .i64 0), .lit (.int .i64 0), .nil]], [], [])) (by kernel_rfl) rfl (by kernel_rfl)) ?_
  intro W base args ds gs before hval hW _ hk _
  exact contract H enc W base args ds gs before hval hW hk

/-- the statement -/
theorem proved : Rows.BareissNullUptoSaid :=
  OpenClaim.holds_of_cond 4 Try.f4 rfl rfl rfl rfl rfl rfl rfl ⟨rfl, rfl, rfl, rfl, rfl⟩ rfl rfl rfl rfl rfl (by kernel_rfl) Try.func4 (by kernel_rfl)
    (of_decide_eq_true (by kernel_rfl)) (by unfold Func.isWrapper; first | (rw [if_pos (by decide +kernel)]; kernel_rfl) | (rw [if_neg (by decide +kernel)]; exact ⟨rfl, rfl⟩))
    (fun os started H enc _ F => lifted os started H enc F)
#print axioms proved
end Go.Proofs.Ytncldpadakckjaa.bareissNull
