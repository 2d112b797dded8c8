/- The walk of the law CharpolyLeast. 'CharpolyLeast', where what it reads is of bulk at most 1,048,576: for every matrix a and list q the law returns true and its arguments read as before. -/
import Derived.Test.YtejliecmdkmgiaaGU
import Derived.Test.YtejliecmdkmgiaaGT
import Derived.Test.YtejliecmdkmgiaaRows
import Derived.Test.YtejliecmdkmgiaaGH
import Derived.ProofKit
import Derived.OpenShut
import Derived.Carry
import Derived.JoinedCond
set_option linter.unusedVariables false
set_option linter.unusedSimpArgs false
namespace Go.Proofs.Ytejliecmdkmgiaa
open Go.RowKit Go.Shelf

theorem ab66 (a b : Nat) (h : a + b ≤ 66) : a * b ≤ 1089 := by
  have h1 : ∀ a, a < 67 → a * (66 - a) ≤ 1089 := by decide
  exact Nat.le_trans (Nat.mul_le_mul_left a (show b ≤ 66 - a by omega)) (h1 a (by omega))
theorem lea_room {n k S : Nat} (hn : n ≤ 64) (hk : k ≤ n) (hS : S ≤ 1048576) : 64 * (S + 1) + 1 + (n + 1 + 1 - (k + 1)) * ((k + 1) * (64 * (S + 1) + 1 + 1) + 1 + 1) ≤ 274877906944 := by
  obtain ⟨a, ha⟩ : ∃ a, a = n + 1 + 1 - (k + 1) := ⟨_, rfl⟩
  obtain ⟨C, hC⟩ : ∃ C, C = 64 * (S + 1) + 1 + 1 := ⟨_, rfl⟩
  have e : a * ((k + 1) * C + 1 + 1) = a * (k + 1) * C + a * 2 := by rw [show (k + 1) * C + 1 + 1 = (k + 1) * C + 2 from rfl, Nat.mul_add, Nat.mul_assoc]
  rw [← ha, ← hC, e]
  have h1 := Nat.mul_le_mul_right C (ab66 a (k + 1) (by omega))
  omega
theorem szE_least {n k : Nat} {A : Nat → Nat → Int} {μ : Nat → Int} (h : MinP n A k μ) : szE μ (k + 1) = k + 1 := szE_full (by rw [h.one]; decide)
theorem least_nil {n k : Nat} {A : Nat → Nat → Int} {μ : Nat → Int} (h : MinP n A k μ) : ∀ q, q < n * n → flat n (pmS n A μ (szE μ (k + 1))) q = 0 := fun q hq => by
  rw [szE_least h]
  obtain ⟨h1, h2, -⟩ := flat_lt hq
  exact h.kil _ _ h1 h2
theorem least_not {n k len : Nat} {A : Nat → Nat → Int} {μ Q : Nat → Int} (h : MinP n A k μ) (h0 : 0 < szE Q len) (hk : szE Q len ≤ k) : ¬ ∀ q, q < n * n → flat n (pmS n A Q (szE Q len)) q = 0 := fun hz => by
  have hkil : Kil n A (szE Q len) Q := fun i j hi hj => by
    have h1 := hz (i * n + j) (idx_lt hi hj rfl).1
    rwa [at_flat hj] at h1
  exact szE_top Q len h0 (h.ind.le hk Q hkil _ (by omega))

set_option maxHeartbeats 4000000 in
set_option maxRecDepth 100000 in
theorem Least_bad (r c : Int) (a : Option Addr) (n cap : Nat) (q : Value) (hn : n ≤ 17592186044416) (h0 : sqE r c n ≠ 0) (w : World) :
    Calls Try.prog 5 #[.agg #[.int .i64 r, .int .i64 c, .slice a n cap], q] w fun e w' => e = .returned (.bool true) ∧ Below w.heap.size w w' := by
  have hb := bl_alloc w (.cells #[.int .i64 r, .int .i64 c, .slice a n cap] 24)
  have hbx := MBox.new w r c (.slice a n cap)
  have HRF := Lib.hid (fun (u : World) => refused16_bad r c a n cap hn h0 u)
  have HB := Lib.hid hb
  have x0 := hbx.m0
  have x1 := hbx.m1
  have x2 := hbx.m2
  clear hb hbx h0
  go_enter Try.func5, Try.ntmps5
  go_upto_region 1 with fail
  generalize w.alloc (.cells #[.int .i64 r, .int .i64 c, .slice a n cap] 24) = W at *
  go_wp2_with fail
  (refine (HRF.out W).mono ?_)
  rintro e w1 ⟨rfl, hb1⟩
  replace HB := Lib.hid (below_via HB.out hb1)
  clear hb1 HRF x0 x1 x2
  go_wp2_with fail
  (refine (awake16_any w1).mono ?_)
  rintro e w2 ⟨rfl, hb2⟩
  replace HB := Lib.hid (below_via HB.out hb2)
  clear hb2
  go_wp2_with fail
  (refine (awake16_any w2).mono ?_)
  rintro e w3 ⟨rfl, hb3⟩
  replace HB := Lib.hid (below_via HB.out hb3)
  clear hb3
  go_wp2_with fail
  go_ret
  exact ⟨rfl, HB.out⟩

set_option maxHeartbeats 8000000 in
set_option maxRecDepth 100000 in
theorem Least_good (n S len P : Nat) (sl y : Value) (A Q : Nat → Int) (w : World) (hn : n ≤ 64) (hS : S ≤ 1048576) (hP : P ≤ 1048576) (hr : RdE w sl (n * n) A) (hA : ∀ q, q < n * n → ZB S (A q)) (hy : RdE w y len Q) (hQ : ∀ i, i < len → ZB P (Q i)) :
    Calls Try.prog 5 #[.agg #[.int .i64 n, .int .i64 n, sl], y] w fun e w' => e = .returned (.bool true) ∧ Below w.heap.size w w' := by
  have hK4 : n * n ≤ 4096 := Nat.mul_le_mul hn hn
  have hlen := hy.le_n
  obtain ⟨a, cap, rfl, hcap⟩ := hr.slice
  obtain ⟨ay, cy, rfl, hcy⟩ := hy.slice
  have hrf := fun (u : World) (hu : Below w.heap.size w u) => refused16_good n S _ A u hn (by omega) (hr.below hu) hA
  have hlp := fun (u : World) (hu : Below w.heap.size w u) => LeastPoly_good n S _ A u hn (by omega) (hr.below hu) hA
  have hch := fun (u : World) (hu : Below w.heap.size w u) => Char_good n S _ A u hn (by omega) (hr.below hu) hA
  have hat := fun (P len : Nat) (x : Value) (E : Nat → Int) (u : World) (hP : P ≤ 200000000000) (hu : Below w.heap.size w u) (hx : RdE u x len E) (hs : szE E len ≤ 257) (hE : ∀ i, i < len → ZB P (E i)) => At_good n S P len x _ E A u hn (by omega) hP hx hs hE (hr.below hu) hA
  have htq := fun (u : World) (hu : Below w.heap.size w u) => Trim_any _ len _ Q u (hy.below hu)
  have hcz := fun j hj => chE_zb hn hA j hj
  have hsl := szE_le Q len
  obtain ⟨N, hN⟩ : ∃ N, N = n * n := ⟨_, rfl⟩
  rw [← hN] at hK4
  have hb0 := bl_alloc w (.cells #[.int .i64 n, .int .i64 n, .slice a N cap] 24)
  have hbx := MBox.new w n n (.slice a N cap)
  simp only [← hN] at hrf hlp hch hat ⊢
  have wN : IntKind.i64.wrap ((n : Int) * (n : Int)) = (N : Int) := by rw [show (n : Int) * (n : Int) = (N : Int) by rw [hN, Int.natCast_mul]]; exact IntWalk.i64_in _ (by omega)
  have HRF := Lib.hid hrf
  have HLP := Lib.hid hlp
  have HCH := Lib.hid hch
  have HAT := Lib.hid hat
  have HTQ := Lib.hid htq
  have HCZ := Lib.hid hcz
  have HN := Lib.hid hN
  have HB := Lib.hid hb0
  have HM := Lib.hid hbx
  have HY := Lib.hid hy
  have HQ := Lib.hid hQ
  have x0 := hbx.m0
  have x1 := hbx.m1
  have x2 := hbx.m2
  clear hr hA hy hQ hrf hlp hch hat htq hcz hb0 hbx hN
  go_enter Try.func5, Try.ntmps5
  go_upto_region 1 with fail
  generalize w.alloc (.cells #[.int .i64 n, .int .i64 n, .slice a N cap] 24) = W at *
  go_wp2_with fail
  (refine (HRF.out W HB.out).mono ?_)
  rintro e w1 ⟨rfl, hb1⟩
  replace HB := Lib.hid (below_via HB.out hb1)
  replace HM := Lib.hid (HM.out.below hb1)
  clear hb1 HRF x0 x1 x2
  go_wp2_with fail
  (refine (awake16_any w1).mono ?_)
  rintro e w2 ⟨rfl, hb2⟩
  replace HB := Lib.hid (below_via HB.out hb2)
  replace HM := Lib.hid (HM.out.below hb2)
  clear hb2
  have x0 := HM.out.m0
  have x1 := HM.out.m1
  have x2 := HM.out.m2
  go_wp2_with fail
  (refine (HLP.out w2 HB.out).mono ?_)
  rintro e w3 ⟨lp, k, μ, rfl, hkn, hmin, hμz, hf3, hb3⟩
  have LP := Lib.hid (hf3.lee (Nat.le_refl _) (Nat.le_refl _) (by omega))
  have HMI := Lib.hid hmin
  have HMZ := Lib.hid hμz
  replace HB := Lib.hid (below_via HB.out hb3)
  replace HM := Lib.hid (HM.out.below hb3)
  clear hf3 hmin hμz hb3 HLP x0 x1 x2
  have x0 := HM.out.m0
  have x1 := HM.out.m1
  have x2 := HM.out.m2
  go_wp2_with fail
  (refine (HCH.out w3 HB.out).mono ?_)
  rintro e w4 ⟨lc, rfl, hf4, hb4⟩
  have LC := Lib.hid (show LeE _ _ _ (chE n A) from hf4.lee (Nat.le_refl _) (Nat.le_refl _) (by omega))
  replace LP := Lib.hid (LP.out.below hb4)
  replace HB := Lib.hid (below_via HB.out hb4)
  replace HM := Lib.hid (HM.out.below hb4)
  clear hf4 hb4 HCH x0 x1 x2
  have x0 := HM.out.m0
  have x1 := HM.out.m1
  have x2 := HM.out.m2
  have hPμ : (k + 1) * (64 * (S + 1) + 1 + 1) + 1 ≤ 4362080451 := by
    have := Nat.mul_le_mul (show k + 1 ≤ 65 by omega) (show 64 * (S + 1) + 1 + 1 ≤ 67108930 by omega)
    omega
  have hat1 := HAT.out ((k + 1) * (64 * (S + 1) + 1 + 1) + 1) (k + 1) _ μ w4 (by omega) HB.out LP.out.rd (by rw [szE_least HMI.out]; omega) (fun i hi => HMZ.out i (by omega))
  obtain ⟨G, hG⟩ : ∃ G, G = flat n (pmS n (mtx n A) μ (szE μ (k + 1))) := ⟨_, rfl⟩
  rw [← hG] at hat1
  have HA1 := Lib.hid hat1
  have HGZ := Lib.hid (show ∀ q, q < N → G q = 0 by intro q hq; rw [hG]; exact least_nil HMI.out q (by rw [← HN.out]; exact hq))
  clear hat1 hG hPμ
  go_wp2_with fail
  (refine HA1.out.mono ?_)
  rintro e w5 ⟨lm, rfl, hf5, hb5⟩
  have hmw : w.heap.size ≤ w5.heap.size := Nat.le_trans HB.out.size hb5.size
  have hb6 := bl_alloc w5 (.cells #[.int .i64 n, .int .i64 n, .slice (some ⟨lm, 0, none⟩) N N] 24)
  have HX := Lib.hid (MBox.new w5 n n (.slice (some ⟨lm, 0, none⟩) N N))
  have RG := Lib.hid ((hf5.rd (Nat.le_refl _) (by omega)).below hb6)
  have hb56 := below_via hb5 hb6
  replace LP := Lib.hid (LP.out.below hb56)
  replace LC := Lib.hid (LC.out.below hb56)
  replace HB := Lib.hid (below_via HB.out hb56)
  replace HM := Lib.hid (HM.out.below hb56)
  clear hf5 hb5 hb6 hb56 HA1 x0 x1 x2
  go_upto_region 7 with fail
  obtain ⟨mb, hmb⟩ : ∃ mb, mb = w5.heap.size := ⟨_, rfl⟩
  rw [← hmb] at HX hmw ⊢
  clear hmb
  generalize w5.alloc (.cells #[.int .i64 n, .int .i64 n, .slice (some ⟨lm, 0, none⟩) N N] 24) = w6 at *
  have hml : monL μ (k + 1) = true := by unfold monL; exact decide_eq_true ⟨by omega, HMI.out.one⟩
  have hmn := monic16_any _ (k + 1) μ w6 LP.out.rd
  rw [hml] at hmn
  have HMN := Lib.hid hmn
  clear hmn hml
  go_wp2_with fail
  (refine HMN.out.mono ?_)
  rintro e w7 ⟨rfl, hb7⟩
  replace LP := Lib.hid (LP.out.below hb7)
  replace LC := Lib.hid (LC.out.below hb7)
  replace HB := Lib.hid (below_via HB.out hb7)
  replace HM := Lib.hid (HM.out.below hb7)
  replace HX := Lib.hid (HX.out.below hb7)
  replace RG := Lib.hid (RG.out.below hb7)
  clear hb7 HMN
  have x0 := HM.out.m0
  have x1 := HM.out.m1
  have x2 := HM.out.m2
  have m0 := HX.out.m0
  have m1 := HX.out.m1
  have m2 := HX.out.m2
  have HNO := Lib.hid (nothing_yes n n N _ G w7 RG.out HGZ.out)
  go_wp2_with fail
  (refine HNO.out.mono ?_)
  rintro e w8 ⟨rfl, hb8⟩
  replace LP := Lib.hid (LP.out.below hb8)
  replace LC := Lib.hid (LC.out.below hb8)
  replace HB := Lib.hid (below_via HB.out hb8)
  replace HM := Lib.hid (HM.out.below hb8)
  replace HX := Lib.hid (HX.out.below hb8)
  clear hb8 HNO RG HGZ x0 x1 x2 m0 m1 m2
  have hdm := DivMonic_good _ _ (n + 1) (k + 1) (64 * (S + 1) + 1) ((k + 1) * (64 * (S + 1) + 1 + 1) + 1) (n + 1) (k + 1) (chE n A) μ w8 LC.out.rd LP.out.rd (chE_sz n A) (szE_least HMI.out) (by omega) HMI.out.one (by omega) HCZ.out (fun j hj => HMZ.out j (by omega)) (lea_room hn hkn hS)
  rw [show n + 1 + 1 - (k + 1) = n + 1 - k by omega, show chE n A = (fun j => flq n (mtx n A) (n - j)) from rfl, least_div HMI.out] at hdm
  have HDM := Lib.hid hdm
  clear hdm
  go_wp2_with fail
  (refine HDM.out.mono ?_)
  rintro e w9 ⟨v9, l9, c9, rfl, hb9⟩
  replace HB := Lib.hid (below_via HB.out hb9)
  replace HM := Lib.hid (HM.out.below hb9)
  replace HX := Lib.hid (HX.out.below hb9)
  clear hb9 HDM LC LP
  go_wp2_with fail
  (refine (HTQ.out w9 HB.out).mono ?_)
  rintro e w10 ⟨lt, rfl, hf10, hb10⟩
  replace HB := Lib.hid (below_via HB.out hb10)
  replace HM := Lib.hid (HM.out.below hb10)
  replace HX := Lib.hid (HX.out.below hb10)
  clear hf10 hb10 HTQ
  obtain ⟨s, hs⟩ : ∃ s, s = szE Q len := ⟨_, rfl⟩
  have HS := Lib.hid hs
  rw [← hs] at hsl ⊢
  clear hs
  by_cases h0 : s = 0
  · have h1 : ((s : Int) == 0) = true := by rw [h0]; rfl
    go_wp2_with fail
    go_ret
    exact ⟨rfl, HB.out⟩
  · have h1 : ((s : Int) == 0) = false := by rw [beq_eq_false_iff_ne]; omega
    by_cases hge : k + 1 ≤ s
    · have h2 : (k : Int) + 1 ≤ (s : Int) := by omega
      go_wp2_with fail
      go_ret
      exact ⟨rfl, HB.out⟩
    · have h2 : ¬ (k : Int) + 1 ≤ (s : Int) := by omega
      have x0 := HM.out.m0
      have x1 := HM.out.m1
      have x2 := HM.out.m2
      have hat2 := HAT.out P len _ Q w10 (by omega) HB.out (HY.out.below HB.out) (by rw [← HS.out]; omega) HQ.out
      obtain ⟨G2, hG2⟩ : ∃ G2, G2 = flat n (pmS n (mtx n A) Q (szE Q len)) := ⟨_, rfl⟩
      rw [← hG2] at hat2
      have HA2 := Lib.hid hat2
      have HGN := Lib.hid (show ¬ ∀ q, q < N → G2 q = 0 by
        rw [hG2, HN.out]
        exact least_not HMI.out (by rw [← HS.out]; omega) (by rw [← HS.out]; omega))
      clear hat2 hG2
      go_wp2_with fail
      (refine HA2.out.mono ?_)
      rintro e w11 ⟨l2, rfl, hf11, hb11⟩
      have hm := HX.out.below hb11
      have m0 := hm.m0
      have m1 := hm.m1
      have m2 := hm.m2
      have f0 := hm.f0
      have f1 := hm.f1
      have f2 := hm.f2
      have hl := hf11.own
      have hmbl := World.block_lt_of_cell? w10 _ HX.out.m0
      have hmb2 : mb < w10.heap.size := hmbl
      have hg := stored3_gb w11 mb (.int .i64 n) (.int .i64 n) (.slice (some ⟨l2, 0, none⟩) N N)
      have hp := (hf11.grown hg (by omega) (show mb ≤ l2 by omega)).rd (Nat.le_refl _) (by omega)
      have hms := hm.store (r' := n) (c' := n) (v' := .slice (some ⟨l2, 0, none⟩) N N)
      have hb12 := below_via HB.out hb11
      obtain ⟨wa, hwa⟩ : ∃ wa, wa = ((w11.setCell ⟨mb, 0, none⟩ (.int .i64 n)).setCell ⟨mb, 1, none⟩ (.int .i64 n)).setCell ⟨mb, 2, none⟩ (.slice (some ⟨l2, 0, none⟩) N N) := ⟨_, rfl⟩
      have HBA := Lib.hid (show Below w.heap.size w wa by rw [hwa]; exact hb12.grown hg hb12.size (fun j hj => by injection hj with hj; omega))
      have HMA := Lib.hid (show MBox wa mb n n (.slice (some ⟨l2, 0, none⟩) N N) by rw [hwa]; exact hms)
      have HNN := Lib.hid (nothing_no n n N (.slice (some ⟨l2, 0, none⟩) N N) G2 wa (by rw [hwa]; exact hp) HGN.out)
      clear hf11 hb11 hm hl hmbl hmb2 hg hp hms hb12 HA2 HGN x0 x1 x2
      go_upto_region 16 with fail
      rw [← hwa]
      clear hwa m0 m1 m2 f0 f1 f2
      have m0 := HMA.out.m0
      have m1 := HMA.out.m1
      have m2 := HMA.out.m2
      go_wp2_with fail
      (refine HNN.out.mono ?_)
      rintro e w12 ⟨rfl, hb12⟩
      replace HBA := Lib.hid (below_via HBA.out hb12)
      clear hb12 HNN m0 m1 m2
      go_wp2_with fail
      go_ret
      exact ⟨rfl, HBA.out⟩

theorem Least_law (r c : Int) (s y : Value) (n len : Nat) (x x' : Nat → Raw) (w : World) (hr : RdL w s n x) (hy : RdL w y len x') (hx : ∀ i, i < n → (x i).n ≤ 1048576) (hx' : ∀ i, i < len → (x' i).n ≤ 1048576) (hlen : len ≤ 1048576) :
    Calls Try.prog 5 #[.agg #[.int .i64 r, .int .i64 c, s], y] w fun e w' => e = .returned (.bool true) ∧ Below w.heap.size w w' := by
  obtain ⟨a, cap, rfl, hcap, hn, -⟩ := id hr
  by_cases h0 : sqE r c n = 0
  · rcases check_cases r c n with h | ⟨R, C, rfl, rfl, hR, hC, rfl⟩
    · unfold sqE at h0
      rw [if_neg (by rw [h]; decide)] at h0
      exact absurd h0 (by decide)
    · unfold sqE at h0
      rw [if_pos (checkE_ok hR hC rfl)] at h0
      by_cases e : (R : Int) = (C : Int)
      · obtain rfl : R = C := by omega
        have hK4 : R * R ≤ 4096 := Nat.mul_le_mul hR hR
        exact Least_good R 1048576 len 1048576 _ y _ _ w hR (by omega) (by omega) (hr.rde (by omega) (fun i hi => by have := hx i hi; omega)) (hr.zbs hx) (hy.rde (by omega) (fun i hi => by have := hx' i hi; omega)) (hy.zbs hx')
      · rw [if_neg e] at h0
        exact absurd h0 (by decide)
  · exact Least_bad r c a n cap y (by omega) h0 w
end Go.Proofs.Ytejliecmdkmgiaa

namespace Go.Proofs.Ytejliecmdkmgiaa.charpolyLeast
open Go.ChangeShapes Go.WideShapes Go.ChangeAt Go.RowKit

theorem own : ownKnob Try.prog.godebug = none := by kernel_rfl

set_option maxRecDepth 100000 in
theorem contract (H : Type) (enc : TypeId × Value → H) (W : World) (base : Nat) (args : Array Value) (ds gs : List (DataW H)) (before : List MemPlace)
    (hval : ∀ (j : Nat) t v, Try.f5.params[j]? = some t → args[j]? = some v → Value.okWide Try.prog W .any base t v)
    (hW : DataW.Whole enc Try.prog Try.f5.params.toList Rows.charpolyLeastSpec.vars false W args.toList ds gs before) (hk : Rows.uptoSmall H (ds ++ gs) = true) :
    Calls Try.prog 5 args W fun e W' => ∃ v, e = .returned v ∧ Rows.charpolyLeastSpec.post enc Try.prog Try.f5 false true false false W args v W' := by
  have hW' := hW
  have hlt : ∀ x ∈ before, x.block < W.heap.size := fun x hx => hW.lt x hx
  obtain ⟨p, q, hA0, hV, rfl, hfz, hnd⟩ := hW
  have hA : DataW.TrodAll enc Try.prog W 0 (fun _ => true) true Try.f5.params.toList args.toList ds p := hA0
  rw [Try.params5] at hA hval
  obtain ⟨v0, vs0, d0, ds0, p0, q0, hargs, rfl, rfl, h0, r0⟩ := trodAll_cons hA
  obtain ⟨v1, vs1, d1, ds1, p1, q1, rfl, rfl, rfl, h1, r1⟩ := trodAll_cons r0
  obtain ⟨rfl, rfl, rfl⟩ := trodAll_nil r1
  obtain rfl : args = #[v0, v1] := by cases args; simp_all
  obtain ⟨rfl, rfl⟩ := trodVars_none hV
  have h0k := h0
  have h1k := h1
  clear hA0
  simp only [List.append_nil] at hW' hk hlt
  have hbk : Rows.uptoBulkAll [d0, d1] ≤ 1048576 := of_decide_eq_true hk
  simp only [Rows.uptoBulkAll] at hbk
  obtain ⟨R0, C0, s0, n0, x0, rfl, hr0, hn0, hx0, -, -⟩ := open_mat (B := 1048576) (hval 0 24 v0 rfl rfl) h0 (by omega) (by omega)
  obtain ⟨a1, l1, c1, rfl⟩ := okWide_slice Try.underlying22 (hval 1 22 v1 rfl rfl)
  obtain ⟨fuel1, h1⟩ := h1
  have h1 : DataW.trod enc Try.prog W 0 (fun _ => true) true fuel1 22 [.slice a1 l1 c1] = some (d1, p1) := h1
  obtain ⟨n1, x1, hr1, hn1, hx1⟩ := open_list (B := 1048576) h1 (by dsimp only; omega) (by omega)
  refine (Least_law R0 C0 s0 _ n0 n1 x0 x1 W hr0 hr1 hx0 hx1 (by omega)).mono fun e W' ⟨he, hg⟩ => ?_
  subst he
  refine ⟨_, rfl, post_of_below (pa := (p0 ++ (p1 ++ []))) (pv := []) hW' (fun _ _ _ => (trodAll_cons_mk (shut_bool Try.underlying4 _) trodAll_mk0)) (fun sp hsp => (trodAll_cons_mk (WideElems.Trod_stays (P := Try.prog) (by kernel_rfl) (by kernel_rfl) (of_decide_eq_true (by kernel_rfl)) h0k (fun x hx => hg.same (hlt x (by simp [hx]))) (fun x hx => hsp x (by simp [hx]))) (trodAll_cons_mk (WideElems.Trod_stays (P := Try.prog) (by kernel_rfl) (by kernel_rfl) (of_decide_eq_true (by kernel_rfl)) h1k (fun x hx => hg.same (hlt x (by simp [hx]))) (fun x hx => hsp x (by simp [hx]))) trodAll_mk0))) (fun _ _ => rfl) (by simp)
    hg (ok_one (by kernel_rfl) rfl (okWide_bool_mk Try.underlying4 _))⟩

set_option maxRecDepth 100000 in
theorem lifted (os : Os) (started : os.Started) (H : Type) (enc : TypeId × Value → H) (F : Stop.Interp) :
    ReturnsInHanded {} Try.checked os 5 .any ((Rows.OpenSpec.upto Rows.charpolyLeastSpec).pre6 enc Try.prog Try.f5 Rows.charpolyLeastUptoRow.domain false) (((Rows.OpenSpec.upto Rows.charpolyLeastSpec).at F).post enc Try.prog Try.f5 false true false false) := by
  refine returnsInHanded_of_cond (C := Try.checked) (s := Rows.OpenSpec.upto Rows.charpolyLeastSpec) (k := Rows.uptoSmall) rfl own started (by kernel_rfl) Try.func5
    (OpenSpec.witness (enc := enc) (C := Try.checked) (s := Rows.OpenSpec.upto Rows.charpolyLeastSpec) (k := Rows.uptoSmall) rfl false ⟨#[], #[.agg #[.int .i64 0, .int .i64 0, .slice none 0 0], .slice none 0 0], []⟩ 8 (by kernel_rfl) (by kernel_rfl) (by kernel_rfl)
      (x := ([.agg [.lit (.int .i64 0), .lit (.int .i64 0), .nil], .nil], [], [])) (by kernel_rfl) rfl (by kernel_rfl)) ?_
  intro W base args ds gs before hval hW _ hk _
  exact contract H enc W base args ds gs before hval hW hk

/-- the statement -/
theorem proved : Rows.CharpolyLeastUptoSaid :=
  OpenClaim.holds_of_cond 5 Try.f5 rfl rfl rfl rfl rfl rfl rfl ⟨rfl, rfl, rfl, rfl, rfl⟩ rfl rfl rfl rfl rfl (by kernel_rfl) Try.func5 (by kernel_rfl)
    (of_decide_eq_true (by kernel_rfl)) (by unfold Func.isWrapper; first | (rw [if_pos (by decide +kernel)]; kernel_rfl) | (rw [if_neg (by decide +kernel)]; exact ⟨rfl, rfl⟩))
    (fun os started H enc _ F => lifted os started H enc F)
#print axioms proved
end Go.Proofs.Ytejliecmdkmgiaa.charpolyLeast
