/- The walks of trellisref05.made, Least, Of, Abs, Sign, Add, Sub. -/
import Derived.Test.YtdlpemmoobbgnaaR04
set_option linter.unusedVariables false
set_option linter.unusedSimpArgs false
namespace Go.Proofs.Ytdlpemmoobbgnaa
open Go.RowKit

/-- the value v reads as the integer z -/
def RdZ (w : World) (v : Value) (z : Int) : Prop := ∃ r : Raw, RdI w v r ∧ r.val = z ∧ r.n ≤ 274877906944
/-- v is the integer z in least form, its words in a block of their own from base on -/
def FrZ (w : World) (base : Nat) (v : Value) (z : Int) : Prop := ∃ m n f, v = .agg #[.bool (decide (z < 0)), m] ∧ FrA .u64 22 w base m n f ∧ Dig 18446744073709551616 n f (z.natAbs : Int)
/-- the size of z takes at most S words -/
def ZB (S : Nat) (z : Int) : Prop := (z.natAbs : Int) < 18446744073709551616 ^ S

theorem Dig.words {n : Nat} {f : Nat → Int} {N : Int} (h : Dig 18446744073709551616 n f N) : Words n f := fun i hi => by have := h.bd i hi; omega
theorem words_bd {n : Nat} {f : Nat → Int} (h : Words n f) : ∀ i, i < n → 0 ≤ f i ∧ f i < 18446744073709551616 := fun i hi => by have := h i hi; omega
theorem natFrom_bd {n : Nat} {f : Nat → Int} (h : Words n f) : 0 ≤ natFrom f 0 n ∧ natFrom f 0 n < 18446744073709551616 ^ n := by
  rw [natFrom_dv0]; exact dv_bd (by omega) (words_bd h)

theorem ZB.mono {S T : Nat} {z : Int} (h : ZB S z) (hST : S ≤ T) : ZB T z := Int.lt_of_lt_of_le h (pow_le' (by omega) hST)
theorem RdI.zb {w : World} {v : Value} {r : Raw} (h : RdI w v r) : ZB r.n r.val := by
  obtain ⟨m, _, h⟩ := h
  have := natFrom_bd h.2
  unfold ZB Raw.val Raw.mag
  split <;> omega
theorem ZB.add {S T : Nat} {x y : Int} (hx : ZB S x) (hy : ZB T y) : ZB (S + T + 1) (x + y) := by
  unfold ZB at *
  have h1 := pow_le' (B := 18446744073709551616) (by omega) (show S ≤ S + T by omega)
  have h2 := pow_le' (B := 18446744073709551616) (by omega) (show T ≤ S + T by omega)
  have h3 : (18446744073709551616 : Int) ^ (S + T + 1) = 18446744073709551616 ^ (S + T) * 18446744073709551616 := Int.pow_succ _ _
  omega
theorem ZB.neg {S : Nat} {x : Int} (hx : ZB S x) : ZB S (-x) := by unfold ZB at *; rw [Int.natAbs_neg]; exact hx
theorem ZB.mul {S T : Nat} {x y : Int} (hx : ZB S x) (hy : ZB T y) : ZB (S + T) (x * y) := by
  unfold ZB at *
  rw [Int.natAbs_mul, Int.pow_add]
  push_cast
  have h1 := pow_pos' (show (0 : Int) < 18446744073709551616 by omega) S
  have h2 : (x.natAbs : Int) * y.natAbs ≤ x.natAbs * 18446744073709551616 ^ T := Int.mul_le_mul_of_nonneg_left (by omega) (by omega)
  have h3 : (x.natAbs : Int) * 18446744073709551616 ^ T < 18446744073709551616 ^ S * 18446744073709551616 ^ T := Int.mul_lt_mul_of_pos_right hx (pow_pos' (by omega) T)
  omega

theorem FrZ.rd {w : World} {base : Nat} {v : Value} {z : Int} (h : FrZ w base v z) {S : Nat} (hz : ZB S z) (hS : S ≤ 274877906944) : RdZ w v z := by
  obtain ⟨m, n, f, rfl, h1, h2⟩ := h
  have hn : n ≤ S := h2.len (by omega) hz
  refine ⟨⟨decide (z < 0), n, f⟩, ⟨m, rfl, h1.read, h2.words⟩, ?_, by show n ≤ _; omega⟩
  unfold Raw.val Raw.mag
  simp only [natFrom_dv0, h2.val]
  by_cases hneg : z < 0
  · rw [decide_eq_true hneg, if_pos rfl]; omega
  · rw [decide_eq_false hneg, if_neg (by simp)]; omega
theorem FrZ.below {w w' : World} {base : Nat} {v : Value} {z : Int} (h : FrZ w base v z) (hb : Below w.heap.size w w') : FrZ w' base v z := by
  obtain ⟨m, n, f, e, h1, h2⟩ := h
  exact ⟨m, n, f, e, h1.below hb, h2⟩
theorem FrZ.mono {w : World} {base base' : Nat} {v : Value} {z : Int} (h : FrZ w base v z) (hb : base' ≤ base) : FrZ w base' v z := by
  obtain ⟨m, n, f, e, h1, h2⟩ := h
  exact ⟨m, n, f, e, h1.mono hb, h2⟩
theorem RdZ.below {w w' : World} {v : Value} {z : Int} (h : RdZ w v z) (hb : Below w.heap.size w w') : RdZ w' v z := by
  obtain ⟨r, h1, h2⟩ := h
  exact ⟨r, h1.below hb, h2⟩

theorem cells2 (w : World) (u v : Value) (t : TypeId) : ∀ i y, [u, v][i]? = some y → (w.alloc (.cells #[u, v] t)).cell? ⟨w.heap.size, i, none⟩ = some y ∧ (w.alloc (.cells #[u, v] t)).frozen? ⟨w.heap.size, i, none⟩ = false := by
  intro i y hy
  have h := heap_alloc_new w (.cells #[u, v] t)
  refine ⟨by rw [cell_of_row _ _ _ _ _ _ h]; simpa using hy, ?_⟩
  unfold World.frozen?; simp only; rw [h]; simp

/-- what is stored in a box of two cells -/
def stored2 (w3 : World) (b : Nat) (u v : Value) : World := (w3.setCell ⟨b, 0, none⟩ u).setCell ⟨b, 1, none⟩ v
theorem stored2_gb (w3 : World) (b : Nat) (u v : Value) : w3.grownBy (stored2 w3 b u v) (some b) := gb_trans (gb_set _ _ _) (gb_set _ _ _)
theorem stored2_fr {k : IntKind} {e : TypeId} {w3 : World} {b : Nat} {x : Value} {n : Nat} {f : Nat → Int} (h : FrA k e w3 (b + 1) x n f) (u v : Value) : FrA k e (stored2 w3 b u v) b x n f := by
  refine (h.grown (stored2_gb w3 b u v) ?_).mono (by omega)
  cases hb : x.ownBlock with
  | none => exact Or.inl rfl
  | some k => right; have := (h.lt hb).1; intro e; injection e with e; omega
theorem stored2_below {w w3 : World} (h : Below w.heap.size w w3) (u v : Value) : Below w.heap.size w (stored2 w3 w.heap.size u v) :=
  h.grown (stored2_gb w3 _ u v) h.size (fun k hk => by injection hk with hk; omega)

set_option maxHeartbeats 400000 in
theorem made_any (s : Bool) (v : Value) (n : Nat) (f : Nat → Int) (w : World) (hn : n ≤ 1099511627776) (hr : RdW w v n f) :
    Calls Try.prog 70 #[.bool s, v] w fun e w' => ∃ v', e = .returned v' ∧ FrZ w' w.heap.size v' (if s then - natFrom f 0 n else natFrom f 0 n) ∧ Below w.heap.size w w' := by
  have hN := (natFrom_bd hr.2).1
  have hl := fun (w1 : World) (hb : Below w.heap.size w w1) => Least01_any v n f w1 hn (hr.below hb)
  obtain ⟨a, cap, rfl, -⟩ := hr.1
  obtain ⟨N, hNe⟩ : ∃ N, N = natFrom f 0 n := ⟨_, rfl⟩
  rw [← hNe] at hN hl ⊢
  have HL := Lib.hid hl
  clear hr hl hNe
  have hb0 : Below w.heap.size w (w.alloc (.cells #[.bool false, .slice none 0 0] 56)) := (Below.refl _ _).alloc (Nat.le_refl _) _
  have z := cells2 w (.bool false) (.slice none 0 0) 56
  have hs0 : (w.alloc (.cells #[.bool false, .slice none 0 0] 56)).heap.size = w.heap.size + 1 := by simp
  have HB0 := Lib.hid hb0
  have Z := Lib.hid z
  have HS0 := Lib.hid hs0
  clear hb0 z hs0
  cases s with
  | false =>
    simp only [Bool.false_eq_true, if_false]
    go_enter Try.func70, Try.ntmps70
    go_wp2_with fail
    refine (HL.out _ HB0.out).mono ?_
    rintro e w3 ⟨v3, rfl, hfn, hb3⟩
    obtain ⟨a2, n2, cap2, f2, rfl, h1, h2⟩ := hfn.nat
    have hz := Z.out
    have x0 := cell_stays hb3 (hz 0 _ rfl).1
    have x1 := cell_stays hb3 (hz 1 _ rfl).1
    have y0 := froz_stays hb3 (hz 0 _ rfl).1 (hz 0 _ rfl).2
    have y1 := froz_stays hb3 (hz 1 _ rfl).1 (hz 1 _ rfl).2
    rw [HS0.out] at h1 hb3
    have hbw : Below w.heap.size w w3 := HB0.out.trans (hb3.mono (by omega))
    have H1 := Lib.hid h1
    have H2 := Lib.hid h2
    have HBW := Lib.hid hbw
    clear h1 h2 hfn hbw hb3 hz
    go_wp2_with fail
    refine bodyPost_ret (v := .agg #[.bool false, .slice a2 n2 cap2]) ?_ rfl ⟨_, rfl, ⟨_, n2, f2, ?_, stored2_fr H1.out (.bool false) (.slice a2 n2 cap2), ?_⟩, stored2_below HBW.out (.bool false) (.slice a2 n2 cap2)⟩
    · simp [results, Try.results70, go_sem, x0, x1]
    · rw [decide_eq_false (by omega)]
    · rw [Int.natAbs_of_nonneg hN]; exact H2.out
  | true =>
    simp only [if_true]
    go_enter Try.func70, Try.ntmps70
    go_wp2_with fail
    refine (HL.out _ HB0.out).mono ?_
    rintro e w3 ⟨v3, rfl, hfn, hb3⟩
    obtain ⟨a2, n2, cap2, f2, rfl, h1, h2⟩ := hfn.nat
    have hz := Z.out
    have x0 := cell_stays hb3 (hz 0 _ rfl).1
    have x1 := cell_stays hb3 (hz 1 _ rfl).1
    have y0 := froz_stays hb3 (hz 0 _ rfl).1 (hz 0 _ rfl).2
    have y1 := froz_stays hb3 (hz 1 _ rfl).1 (hz 1 _ rfl).2
    rw [HS0.out] at h1 hb3
    have hbw : Below w.heap.size w w3 := HB0.out.trans (hb3.mono (by omega))
    have H1 := Lib.hid h1
    have H2 := Lib.hid h2
    have HBW := Lib.hid hbw
    clear h1 h2 hfn hbw hb3 hz
    go_wp2_with fail
    refine bodyPost_ret (v := .agg #[.bool (decide (0 < n2)), .slice a2 n2 cap2]) ?_ rfl ⟨_, rfl, ⟨_, n2, f2, ?_, stored2_fr H1.out (.bool (decide (0 < n2))) (.slice a2 n2 cap2), ?_⟩, stored2_below HBW.out (.bool (decide (0 < n2))) (.slice a2 n2 cap2)⟩
    · simp [results, Try.results70, go_sem, x0, x1]
    · have hz := H2.out.zero_iff (by omega)
      have : decide (0 < n2) = decide (-N < 0) := by rw [decide_eq_decide]; omega
      rw [this]
    · rw [Int.natAbs_neg, Int.natAbs_of_nonneg hN]; exact H2.out

/-- three boxes of two cells, just made -/
theorem boxes3 (w : World) (a0 a1 b0 b1 c0 c1 : Value) (t : TypeId) :
    let W := ((w.alloc (.cells #[a0, a1] t)).alloc (.cells #[b0, b1] t)).alloc (.cells #[c0, c1] t)
    (W.cell? ⟨w.heap.size, 0, none⟩ = some a0 ∧ W.cell? ⟨w.heap.size, 1, none⟩ = some a1 ∧ W.cell? ⟨w.heap.size + 1, 0, none⟩ = some b0 ∧ W.cell? ⟨w.heap.size + 1, 1, none⟩ = some b1 ∧
      W.cell? ⟨w.heap.size + 1 + 1, 0, none⟩ = some c0 ∧ W.cell? ⟨w.heap.size + 1 + 1, 1, none⟩ = some c1 ∧ W.frozen? ⟨w.heap.size + 1 + 1, 0, none⟩ = false ∧ W.frozen? ⟨w.heap.size + 1 + 1, 1, none⟩ = false) ∧
    Below w.heap.size w W ∧ W.heap.size = w.heap.size + 3 := by
  intro W
  obtain ⟨w1, h1⟩ : ∃ w1, w1 = w.alloc (.cells #[a0, a1] t) := ⟨_, rfl⟩
  obtain ⟨w2, h2⟩ : ∃ w2, w2 = w1.alloc (.cells #[b0, b1] t) := ⟨_, rfl⟩
  have hW : W = w2.alloc (.cells #[c0, c1] t) := by rw [h2, h1]
  have s1 : w1.heap.size = w.heap.size + 1 := by rw [h1]; simp
  have s2 : w2.heap.size = w.heap.size + 1 + 1 := by rw [h2]; simp [s1]
  have b1' : Below w.heap.size w w1 := by rw [h1]; exact (Below.refl _ _).alloc (Nat.le_refl _) _
  have b2 : Below w1.heap.size w1 w2 := by rw [h2]; exact (Below.refl _ _).alloc (Nat.le_refl _) _
  have b3 : Below w2.heap.size w2 W := by rw [hW]; exact (Below.refl _ _).alloc (Nat.le_refl _) _
  have k1 := cells2 w a0 a1 t
  have k2 := cells2 w1 b0 b1 t
  have k3 := cells2 w2 c0 c1 t
  rw [← h1] at k1
  rw [← h2, s1] at k2
  rw [← hW, s2] at k3
  have sW : W.heap.size = w.heap.size + 3 := by rw [hW]; simp [s2]
  clear_value W
  exact ⟨⟨cell_stays b3 (cell_stays b2 (k1 0 _ rfl).1), cell_stays b3 (cell_stays b2 (k1 1 _ rfl).1), cell_stays b3 (k2 0 _ rfl).1, cell_stays b3 (k2 1 _ rfl).1, (k3 0 _ rfl).1, (k3 1 _ rfl).1, (k3 0 _ rfl).2, (k3 1 _ rfl).2⟩,
    b1'.trans ((b2.mono (by omega)).trans (b3.mono (by omega))), sW⟩

theorem addZ_same (a b : Raw) (h : a.neg = b.neg) : a.val + b.val = if a.neg then -(a.mag + b.mag) else a.mag + b.mag := by
  unfold Raw.val; rw [← h]; split <;> omega
theorem addZ_ge (a b : Raw) (h : a.neg ≠ b.neg) : a.val + b.val = if a.neg then -(a.mag - b.mag) else a.mag - b.mag := by
  unfold Raw.val
  cases ha : a.neg <;> cases hb : b.neg <;> simp_all <;> omega
theorem addZ_lt (a b : Raw) (h : a.neg ≠ b.neg) : a.val + b.val = if b.neg then -(b.mag - a.mag) else b.mag - a.mag := by
  unfold Raw.val
  cases ha : a.neg <;> cases hb : b.neg <;> simp_all <;> omega

/-- the answer of a call that stores it in a box of two cells -/
theorem FrZ.stored {w3 : World} {b : Nat} {v : Value} {z : Int} (h : FrZ w3 (b + 1) v z) : ∃ a n cap, v = .agg #[.bool (decide (z < 0)), .slice a n cap] ∧ FrZ (stored2 w3 b (.bool (decide (z < 0))) (.slice a n cap)) b v z := by
  obtain ⟨m, n, f, rfl, h1, h2⟩ := h
  obtain ⟨a, cap, rfl⟩ := h1.slice
  exact ⟨a, n, cap, rfl, _, n, f, rfl, stored2_fr h1 _ _, h2⟩

theorem big_step {u v : Int} {n m : Nat} (u0 : 0 ≤ u) (v0 : 0 ≤ v) (u1 : u < 18446744073709551616 ^ n) (v1 : v < 18446744073709551616 ^ m) :
    u + v < 18446744073709551616 ^ (n + m + 1) ∧ u - v < 18446744073709551616 ^ (n + m + 1) ∧ v - u < 18446744073709551616 ^ (n + m + 1) := by
  have h : (18446744073709551616 : Int) ^ (n + m + 1) = 18446744073709551616 ^ (n + m) * 18446744073709551616 := Int.pow_succ _ _
  have h1 := pow_le' (B := 18446744073709551616) (by omega) (show n ≤ n + m by omega)
  have h2 := pow_le' (B := 18446744073709551616) (by omega) (show m ≤ n + m by omega)
  omega


set_option maxHeartbeats 1000000 in
theorem Add05_any (x y : Value) (a b : Int) (w : World) (hx : RdZ w x a) (hy : RdZ w y b) :
    Calls Try.prog 58 #[x, y] w fun e w' => ∃ v, e = .returned v ∧ FrZ w' w.heap.size v (a + b) ∧ Below w.heap.size w w' := by
  obtain ⟨r, ⟨m, rfl, hr⟩, rfl, hrn⟩ := hx
  obtain ⟨s, ⟨l, rfl, hs⟩, rfl, hsn⟩ := hy
  obtain ⟨am, cm, rfl, -⟩ := hr.1
  obtain ⟨al, cl, rfl, -⟩ := hs.1
  have hbx := boxes3 w (.bool r.neg) (.slice am r.n cm) (.bool s.neg) (.slice al s.n cl) (.bool false) (.slice none 0 0) 56
  obtain ⟨⟨x0, x1, y0, y1, z0, z1, z2, z3⟩, hb, hs3⟩ := hbx
  have HR := Lib.hid (hr.below hb)
  have HS := Lib.hid (hs.below hb)
  have Z := Lib.hid (And.intro x0 (And.intro x1 (And.intro y0 (And.intro y1 (And.intro z0 (And.intro z1 (And.intro z2 z3)))))))
  have HB := Lib.hid hb
  have HS3 := Lib.hid hs3
  clear hr hs hb hs3 x0 x1 y0 y1 z0 z1 z2 z3
  have hr0 := (natFrom_bd HR.out.2).1
  have hs0 := (natFrom_bd HS.out.2).1
  have hr1 := (natFrom_bd HR.out.2).2
  have hs1 := (natFrom_bd HS.out.2).2
  have HBB := Lib.hid (big_step hr0 hs0 hr1 hs1)
  have HR0 := Lib.hid hr0
  have HS0 := Lib.hid hs0
  clear hr0 hs0 hr1 hs1
  by_cases hneg : r.neg = s.neg
  · have hbeq : (r.neg == s.neg) = true := by simp [hneg]
    have HV := Lib.hid (addZ_same r s hneg)
    have HBD : Hid (r.mag + s.mag < 18446744073709551616 ^ (r.n + s.n + 1)) := HBB.out.1
    clear hneg
    obtain ⟨x0, x1, y0, y1, z0, z1, z2, z3⟩ := Z.out
    have z0' := z0
    have z1' := z1
    clear Z
    go_enter Try.func58, Try.ntmps58
    go_wp2_with fail
    refine (Add01_any _ _ r.n s.n r.f s.f _ (by omega) (by omega) HR.out HS.out).mono ?_
    rintro e w4 ⟨v4, rfl, hfn, hb4⟩
    have hfn : FrN w4 _ v4 (r.mag + s.mag) := hfn
    obtain ⟨a4, n4, cap4, f4, rfl, h1, h2⟩ := hfn.nat
    have hn4 : n4 ≤ 1099511627776 := by have := h2.len (by omega) HBD.out; omega
    have z0 := cell_stays hb4 z0
    have z1 := cell_stays hb4 z1
    have z2 := froz_stays hb4 z0' z2
    have z3 := froz_stays hb4 z1' z3
    have x0 := cell_stays hb4 x0
    have y0 := cell_stays hb4 y0
    have hmk := made_any r.neg (.slice a4 n4 cap4) n4 f4 w4 hn4 ⟨h1.read, h2.words⟩
    rw [natFrom_dv0, h2.val, ← HV.out] at hmk
    have HMK := Lib.hid hmk
    have HBW4 := Lib.hid (HB.out.trans (hb4.mono (HB.out.size)))
    have HSZ := Lib.hid hb4.size
    clear h1 h2 hfn hmk hb4 z0' z1'
    go_wp2_with fail
    refine HMK.out.mono ?_
    rintro e w5 ⟨v5, rfl, hz, hb5⟩
    have z0' := z0
    have z1' := z1
    have z0 := cell_stays hb5 z0
    have z1 := cell_stays hb5 z1
    have z2 := froz_stays hb5 z0' z2
    have z3 := froz_stays hb5 z1' z3
    have HBW5 := Lib.hid (HBW4.out.trans (hb5.mono HBW4.out.size))
    clear hb5 z0' z1'
    obtain ⟨aq, nq, cq, rfl, hst⟩ := FrZ.stored (b := w.heap.size + 1 + 1) (hz.mono (by have := HS3.out; have := HSZ.out; omega))
    have hbl : Below w.heap.size w (stored2 w5 (w.heap.size + 1 + 1) (.bool (decide (r.val + s.val < 0))) (.slice aq nq cq)) := HBW5.out.grown (stored2_gb _ _ _ _) HBW5.out.size (fun k hk => by injection hk with hk; omega)
    have HST := Lib.hid (hst.mono (show w.heap.size ≤ w.heap.size + 1 + 1 by omega))
    have HBL := Lib.hid hbl
    clear hz hst hbl
    go_wp2_with fail
    refine bodyPost_ret (v := .agg #[.bool (decide (r.val + s.val < 0)), .slice aq nq cq]) ?_ rfl ⟨_, rfl, HST.out, HBL.out⟩
    simp [results, Try.results58, go_sem, z0, z1]
  · have hbeq : (r.neg == s.neg) = false := by simp [hneg]
    by_cases hge : s.mag ≤ r.mag
    · have HV := Lib.hid (addZ_ge r s hneg)
      have HBD : Hid (r.mag - s.mag < 18446744073709551616 ^ (r.n + s.n + 1)) := HBB.out.2.1
      have hle : natFrom s.f 0 s.n ≤ natFrom r.f 0 r.n := by exact hge
      have HLE := Lib.hid hle
      have hcc : 0 ≤ cmpZ r.mag s.mag := by
        unfold cmpZ
        rw [if_neg (by omega)]; split <;> omega
      have hcmp := Cmp01_any _ _ r.n s.n r.f s.f _ (by omega) (by omega) HR.out HS.out
      change Calls _ _ _ _ (fun e w' => e = .returned (.int .i64 (cmpZ r.mag s.mag)) ∧ _) at hcmp
      generalize cmpZ r.mag s.mag = cc at hcc hcmp
      have HCMP := Lib.hid hcmp
      clear hneg hge hle hcmp
      obtain ⟨x0, x1, y0, y1, z0, z1, z2, z3⟩ := Z.out
      have z0' := z0
      have z1' := z1
      clear Z
      go_enter Try.func58, Try.ntmps58
      go_wp2_with fail
      refine HCMP.out.mono ?_
      rintro e w6 ⟨rfl, hb6⟩
      have x0 := cell_stays hb6 x0
      have x1 := cell_stays hb6 x1
      have y0 := cell_stays hb6 y0
      have y1 := cell_stays hb6 y1
      have z0 := cell_stays hb6 z0
      have z1 := cell_stays hb6 z1
      have z2 := froz_stays hb6 z0' z2
      have z3 := froz_stays hb6 z1' z3
      have HR := Lib.hid (HR.out.below hb6)
      have HS := Lib.hid (HS.out.below hb6)
      have hs6 := hb6.size
      rw [HS3.out] at hs6
      have HB := Lib.hid (HB.out.trans (hb6.mono HB.out.size))
      have HS6 := Lib.hid hs6
      have z0' := z0
      have z1' := z1
      clear hb6 hs6 HCMP HS3
      go_wp2_with fail
      refine (Sub01_any _ _ r.n s.n r.f s.f _ (by omega) (by omega) HLE.out HR.out HS.out).mono ?_
      rintro e w4 ⟨v4, rfl, hfn, hb4⟩
      have hfn : FrN w4 _ v4 (r.mag - s.mag) := hfn
      obtain ⟨a4, n4, cap4, f4, rfl, h1, h2⟩ := hfn.nat
      have hn4 : n4 ≤ 1099511627776 := by have := h2.len (by omega) HBD.out; omega
      have z0 := cell_stays hb4 z0
      have z1 := cell_stays hb4 z1
      have z2 := froz_stays hb4 z0' z2
      have z3 := froz_stays hb4 z1' z3
      have x0 := cell_stays hb4 x0
      have y0 := cell_stays hb4 y0
      have hmk := made_any r.neg (.slice a4 n4 cap4) n4 f4 w4 hn4 ⟨h1.read, h2.words⟩
      rw [natFrom_dv0, h2.val, ← HV.out] at hmk
      have HMK := Lib.hid hmk
      have HBW4 := Lib.hid (HB.out.trans (hb4.mono (HB.out.size)))
      have HSZ := Lib.hid hb4.size
      clear h1 h2 hfn hmk hb4 z0' z1'
      go_wp2_with fail
      refine HMK.out.mono ?_
      rintro e w5 ⟨v5, rfl, hz, hb5⟩
      have z0' := z0
      have z1' := z1
      have z0 := cell_stays hb5 z0
      have z1 := cell_stays hb5 z1
      have z2 := froz_stays hb5 z0' z2
      have z3 := froz_stays hb5 z1' z3
      have HBW5 := Lib.hid (HBW4.out.trans (hb5.mono HBW4.out.size))
      clear hb5 z0' z1'
      obtain ⟨aq, nq, cq, rfl, hst⟩ := FrZ.stored (b := w.heap.size + 1 + 1) (hz.mono (by have := HS6.out; have := HSZ.out; omega))
      have hbl : Below w.heap.size w (stored2 w5 (w.heap.size + 1 + 1) (.bool (decide (r.val + s.val < 0))) (.slice aq nq cq)) := HBW5.out.grown (stored2_gb _ _ _ _) HBW5.out.size (fun k hk => by injection hk with hk; omega)
      have HST := Lib.hid (hst.mono (show w.heap.size ≤ w.heap.size + 1 + 1 by omega))
      have HBL := Lib.hid hbl
      clear hz hst hbl
      go_wp2_with fail
      refine bodyPost_ret (v := .agg #[.bool (decide (r.val + s.val < 0)), .slice aq nq cq]) ?_ rfl ⟨_, rfl, HST.out, HBL.out⟩
      simp [results, Try.results58, go_sem, z0, z1]
    · have HV := Lib.hid (addZ_lt r s hneg)
      have HBD : Hid (s.mag - r.mag < 18446744073709551616 ^ (r.n + s.n + 1)) := HBB.out.2.2
      have hle : natFrom r.f 0 r.n ≤ natFrom s.f 0 s.n := by exact Int.le_of_lt (Int.not_le.1 hge)
      have HLE := Lib.hid hle
      have hcc : cmpZ r.mag s.mag < 0 := by
        unfold cmpZ
        rw [if_pos (by omega)]; omega
      have hcmp := Cmp01_any _ _ r.n s.n r.f s.f _ (by omega) (by omega) HR.out HS.out
      change Calls _ _ _ _ (fun e w' => e = .returned (.int .i64 (cmpZ r.mag s.mag)) ∧ _) at hcmp
      generalize cmpZ r.mag s.mag = cc at hcc hcmp
      have HCMP := Lib.hid hcmp
      clear hneg hge hle hcmp
      obtain ⟨x0, x1, y0, y1, z0, z1, z2, z3⟩ := Z.out
      have z0' := z0
      have z1' := z1
      clear Z
      go_enter Try.func58, Try.ntmps58
      go_wp2_with fail
      refine HCMP.out.mono ?_
      rintro e w6 ⟨rfl, hb6⟩
      have x0 := cell_stays hb6 x0
      have x1 := cell_stays hb6 x1
      have y0 := cell_stays hb6 y0
      have y1 := cell_stays hb6 y1
      have z0 := cell_stays hb6 z0
      have z1 := cell_stays hb6 z1
      have z2 := froz_stays hb6 z0' z2
      have z3 := froz_stays hb6 z1' z3
      have HR := Lib.hid (HR.out.below hb6)
      have HS := Lib.hid (HS.out.below hb6)
      have hs6 := hb6.size
      rw [HS3.out] at hs6
      have HB := Lib.hid (HB.out.trans (hb6.mono HB.out.size))
      have HS6 := Lib.hid hs6
      have z0' := z0
      have z1' := z1
      clear hb6 hs6 HCMP HS3
      go_wp2_with fail
      refine (Sub01_any _ _ s.n r.n s.f r.f _ (by omega) (by omega) HLE.out HS.out HR.out).mono ?_
      rintro e w4 ⟨v4, rfl, hfn, hb4⟩
      have hfn : FrN w4 _ v4 (s.mag - r.mag) := hfn
      obtain ⟨a4, n4, cap4, f4, rfl, h1, h2⟩ := hfn.nat
      have hn4 : n4 ≤ 1099511627776 := by have := h2.len (by omega) HBD.out; omega
      have z0 := cell_stays hb4 z0
      have z1 := cell_stays hb4 z1
      have z2 := froz_stays hb4 z0' z2
      have z3 := froz_stays hb4 z1' z3
      have x0 := cell_stays hb4 x0
      have y0 := cell_stays hb4 y0
      have hmk := made_any s.neg (.slice a4 n4 cap4) n4 f4 w4 hn4 ⟨h1.read, h2.words⟩
      rw [natFrom_dv0, h2.val, ← HV.out] at hmk
      have HMK := Lib.hid hmk
      have HBW4 := Lib.hid (HB.out.trans (hb4.mono (HB.out.size)))
      have HSZ := Lib.hid hb4.size
      clear h1 h2 hfn hmk hb4 z0' z1'
      go_wp2_with fail
      refine HMK.out.mono ?_
      rintro e w5 ⟨v5, rfl, hz, hb5⟩
      have z0' := z0
      have z1' := z1
      have z0 := cell_stays hb5 z0
      have z1 := cell_stays hb5 z1
      have z2 := froz_stays hb5 z0' z2
      have z3 := froz_stays hb5 z1' z3
      have HBW5 := Lib.hid (HBW4.out.trans (hb5.mono HBW4.out.size))
      clear hb5 z0' z1'
      obtain ⟨aq, nq, cq, rfl, hst⟩ := FrZ.stored (b := w.heap.size + 1 + 1) (hz.mono (by have := HS6.out; have := HSZ.out; omega))
      have hbl : Below w.heap.size w (stored2 w5 (w.heap.size + 1 + 1) (.bool (decide (r.val + s.val < 0))) (.slice aq nq cq)) := HBW5.out.grown (stored2_gb _ _ _ _) HBW5.out.size (fun k hk => by injection hk with hk; omega)
      have HST := Lib.hid (hst.mono (show w.heap.size ≤ w.heap.size + 1 + 1 by omega))
      have HBL := Lib.hid hbl
      clear hz hst hbl
      go_wp2_with fail
      refine bodyPost_ret (v := .agg #[.bool (decide (r.val + s.val < 0)), .slice aq nq cq]) ?_ rfl ⟨_, rfl, HST.out, HBL.out⟩
      simp [results, Try.results58, go_sem, z0, z1]

end Go.Proofs.Ytdlpemmoobbgnaa
