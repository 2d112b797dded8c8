/- Plain: what stands behind ModpSame: an invertible matrix on the left leaves the echelon form; the kernel's rows times it lie in the other's kernel. The walk of the law ModpSame. 'ModpSame', where what it reads is of bulk at most 1,048,576: for every a, u and p the law returns true and its arguments read as before. -/
import Derived.Test.YtdlpemmoobbgnaaGJ
import Derived.Test.YtdlpemmoobbgnaaGF
import Derived.Test.YtdlpemmoobbgnaaRows
import Derived.ProofKit
import Derived.OpenShut
import Derived.Carry
import Derived.JoinedCond
set_option linter.unusedVariables false
set_option linter.unusedSimpArgs false
namespace Go.Proofs.Ytdlpemmoobbgnaa
open laF

theorem ph_dotZ {q : Nat} [NeZero q] (f g : Nat → Int) : ∀ n, (ph (dotZ f g n) : Fin q) = sm n (fun k => ph (f k) * ph (g k))
  | 0 => ph_zero
  | n + 1 => by
    show ph (f n * g n + dotZ f g n) = sm n _ + _
    rw [ph_add, ph_mul, ph_dotZ f g n]; grind

theorem sm_assoc {q : Nat} [NeZero q] {m n : Nat} (a b : Nat → Fin q) (U : Nat → Nat → Fin q) : sm m (fun i => sm n (fun t => a t * U t i) * b i) = sm n (fun t => a t * sm m (fun i => U t i * b i)) := by
  rw [sm_congr (g := fun i => sm n (fun t => a t * (U t i * b i))) (fun i _ => by rw [← sm_mul_r]; exact sm_congr fun t _ => by grind), sm_comm]
  exact sm_congr fun t _ => sm_mul _ _ _

theorem prime_nat {p : Int} (hp : primeB p = true) : ∃ q : Nat, p = q ∧ isPB q = true ∧ NeZero q := by
  obtain ⟨h0, h1⟩ := primeB_bd hp
  obtain ⟨q, rfl⟩ := Int.eq_ofNat_of_zero_le (show 0 ≤ p by omega)
  refine ⟨q, rfl, ?_, ⟨by omega⟩⟩
  unfold primeB at hp
  simp only [Bool.and_eq_true, decide_eq_true_eq] at hp
  have := hp.2
  rwa [Int.toNat_natCast] at this

section
variable {R C : Nat} {xa xu xua : Nat → Raw}

theorem ph_ua {q : Nat} [NeZero q] (hq : 1 ≤ q) (hua : ∀ t, t < R * C → (xua t).val = mulF (fun t => (xu t).val) (fun t => (xa t).val) R C t) {i j : Nat} (hi : i < R) (hj : j < C) :
    (ph (xua (i * C + j)).val : Fin q) = sm R (fun k => phG q (resG q R xu) i k * phG q (resG q C xa) k j) := by
  rw [hua _ (prod_lt hi hj), ← mulF_at hj, ph_dotZ]
  exact sm_congr fun k _ => by rw [phG_resG hq, phG_resG hq]

theorem same_ech {p : Int} (hp : primeB p = true) (hua : ∀ t, t < R * C → (xua t).val = mulF (fun t => (xu t).val) (fun t => (xa t).val) R C t) (hd : detM p R xu ≠ 0) :
    ∀ t, t < R * C → (redS p R C (resG p C xa) C).G (t / C) (t % C) = (redS p R C (resG p C xua) C).G (t / C) (t % C) := by
  obtain ⟨q, rfl, hq, hz⟩ := prime_nat hp
  have h2 := isPB_ge q hq
  have hr : ¬ (redS q R R (resG q R xu) R).P.length < R := fun h => hd (by unfold detM; rw [if_pos h])
  have hs : SpanEq R C (phG q (resG q C xa)) (phG q (resG q C xua)) :=
    (inv_span (full_inv hq (resG_res q (by omega) R R R xu) hr)).trans (SpanEq.rows fun i j hi hj => by
      rw [phG_resG (by omega) C xua, ph_ua (by omega) hua hi hj])
  intro t ht
  obtain ⟨g1, g2⟩ := mul_idx (K := C) ht
  exact (redS_eq hq (resG_res q (by omega) R C C xa) (resG_res q (by omega) R C C xua) hs).2 _ _ g1 g2

theorem same_ker {p : Int} (hp : primeB p = true) (hua : ∀ t, t < R * C → (xua t).val = mulF (fun t => (xu t).val) (fun t => (xa t).val) R C t) :
    ∀ t, t < (R - kerR p R C xua) * C → mulF (mulF (fun t => (kerS p R C xua).G (t / R) (t % R)) (fun t => (xu t).val) R R) (fun t => (xa t).val) R C t % p = 0 := by
  obtain ⟨q, rfl, hq, hz⟩ := prime_nat hp
  have h2 := isPB_ge q hq
  intro t ht
  obtain ⟨g1, g2⟩ := mul_idx (K := C) ht
  refine ph_zero_iff.1 ?_
  show (ph (dotZ _ _ R) : Fin q) = 0
  rw [ph_dotZ]
  have h3 := kerS_zero hq (x := xua) g1 g2
  rw [sm_congr (g := fun t' => ph ((kerS q R C xua).G (t / C) t') * sm R (fun k => phG q (resG q R xu) t' k * phG q (resG q C xa) k (t % C))) (fun t' ht' => by rw [ph_ua (by omega) hua ht' g2]), ← sm_assoc] at h3
  refine Eq.trans (sm_congr fun i hi => ?_) h3
  rw [← mulF_at hi, ph_dotZ, phG_resG (by omega)]
  refine congrArg (fun z => z * (ph (xa (i * C + t % C)).val : Fin q)) (sm_congr fun k hk => ?_)
  obtain ⟨e1, e2⟩ := div_mod_lt (j := t / C) hk
  rw [e1, e2, phG_resG (by omega)]
end
end Go.Proofs.Ytdlpemmoobbgnaa

namespace Go.Proofs.Ytdlpemmoobbgnaa
open Go.RowKit

set_option maxHeartbeats 4000000 in
set_option maxRecDepth 100000 in
theorem Same_law (ra ca ru cu : Int) (p : Int) (hp : 0 ≤ p) (sa su : Value) (na nu : Nat) (xa xu : Nat → Raw) (w : World) (ha : RdL w sa na xa) (hu : RdL w su nu xu) (hsa : ∀ i, i < na → (xa i).n ≤ 1048576) (hsu : ∀ i, i < nu → (xu i).n ≤ 1048576) :
    Calls Try.prog 5 #[.agg #[.int .i64 ra, .int .i64 ca, sa], .agg #[.int .i64 ru, .int .i64 cu, su], .int .u64 p] w fun e w' => e = .returned (.bool true) ∧ Below w.heap.size w w' := by
  obtain ⟨a, cap, rfl, hn⟩ := ha.slice
  obtain ⟨b, cap', rfl, hn'⟩ := hu.slice
  have hsA := fun W => sound_any ra ca a na cap hn W
  have hsU := fun W => sound_any ru cu b nu cap' hn' W
  have hpr := fun W => prime_any p hp W
  obtain ⟨W0, hW0, hsix, hb0, hs0⟩ := pair_boxes w (.int .i64 ra) (.int .i64 ca) (.slice a na cap) (.int .i64 ru) (.int .i64 cu) (.slice b nu cap') 34
  have HA := Lib.hid ha
  have HU := Lib.hid hu
  have HSA := Lib.hid hsa
  have HSU := Lib.hid hsu
  have H6 := Lib.hid hsix
  have HB0 := Lib.hid hb0
  have HS0 := Lib.hid hs0
  rw [hW0] at HB0 H6 HS0
  clear ha hu hsa hsu hb0 hs0 hsix hW0 W0
  by_cases hgood : soundB ra ca na = true ∧ soundB ru cu nu = true ∧ primeB p = true ∧ ru = cu ∧ cu = ra
  · obtain ⟨g1, g2, g3, rfl, rfl⟩ := hgood
    obtain ⟨R, C, rfl, rfl, hR, hC, hN, p0, p1, -, -⟩ := openE_ok (r := ru) (c := ca) (n := na) (p := p) (fit := true) (by unfold openE; rw [if_pos g1, if_pos rfl, if_pos g3])
    have hN' : nu = R * R := by have := (soundB_yes g2).2.2; exact_mod_cast this
    rw [g1] at hsA
    rw [g2] at hsU
    rw [g3] at hpr
    subst hN; subst hN'
    have HSDA := Lib.hid hsA
    have HSDU := Lib.hid hsU
    have HPR := Lib.hid hpr
    have HP := Lib.hid g3
    clear g1 g2 g3 hsA hsU hpr
    by_cases hd : detM p R xu = 0
    · have hdet := fun W (h : RdL W (.slice b (R * R) cap') (R * R) xu) => Det_rd R p hR HP.out (.slice b (R * R) cap') xu W h
      rw [hd] at hdet
      have HDET := Lib.hid hdet
      clear hdet hd
      go_enter Try.func5, Try.ntmps5
      go_wp2_with (first
        | (go_at_call 11; refine (wakes_any _).mono ?_; rintro e w1 ⟨rfl, hb1⟩; have HB1 := Lib.hid (HB0.out.trans (hb1.mono HB0.out.size)); obtain ⟨x0, x1, x2, y0, y1, y2⟩ := six_stay hb1 H6.out; clear hb1)
        | (go_at_call_of 15 (Value.agg #[.int .i64 R, .int .i64 C, .slice a (R * C) cap]); refine (HSDA.out _).mono ?_; rintro e w2 ⟨rfl, hb2⟩; have HB2 := Lib.hid (HB1.out.trans (hb2.mono HB1.out.size)); replace x0 := cell_stays hb2 x0; replace x1 := cell_stays hb2 x1; replace x2 := cell_stays hb2 x2; replace y0 := cell_stays hb2 y0; replace y1 := cell_stays hb2 y1; replace y2 := cell_stays hb2 y2; clear hb2)
        | (go_at_call 15; refine (HSDU.out _).mono ?_; rintro e w3 ⟨rfl, hb3⟩; have HB3 := Lib.hid (HB2.out.trans (hb3.mono HB2.out.size)); replace x0 := cell_stays hb3 x0; replace x1 := cell_stays hb3 x1; replace x2 := cell_stays hb3 x2; replace y0 := cell_stays hb3 y0; replace y1 := cell_stays hb3 y1; replace y2 := cell_stays hb3 y2; clear hb3)
        | (go_at_call 14; refine (HPR.out _).mono ?_; rintro e w4 ⟨rfl, rfl⟩)
        | (go_at_call 18; refine (HDET.out _ (HU.out.below HB3.out)).mono ?_; rintro e w5 ⟨rfl, hb5⟩; have HB5 := Lib.hid (HB3.out.trans (hb5.mono HB3.out.size))))
      go_ret
      exact ⟨rfl, HB5.out⟩
    · have hdet := fun W (h : RdL W (.slice b (R * R) cap') (R * R) xu) => Det_rd R p hR HP.out (.slice b (R * R) cap') xu W h
      have HECH := fun (xua : Nat → Raw) hua => Lib.hid (same_ech (R := R) (C := C) (xa := xa) (xu := xu) (xua := xua) HP.out hua hd)
      have hd0 : (detM p R xu == 0) = false := beq_eq_false_iff_ne.2 hd
      generalize detM p R xu = d at hdet hd0
      have HDET := Lib.hid hdet
      clear hdet hd
      have HH0 := Lib.hid (show Has _ [(_, _), (_, _), (_, _), (_, _), (_, _), (_, _)] from ⟨H6.out.1, H6.out.2.1, H6.out.2.2.1, H6.out.2.2.2.1, H6.out.2.2.2.2.1, H6.out.2.2.2.2.2, trivial⟩)
      have HS0' : w.heap.size ≤ ((w.alloc (.cells #[.int .i64 R, .int .i64 C, .slice a (R * C) cap] 34)).alloc (.cells #[.int .i64 R, .int .i64 R, .slice b (R * R) cap'] 34)).heap.size := HB0.out.size
      have G0 := Lib.hid (And.intro HB0.out HS0')
      clear HS0'
      go_enter Try.func5, Try.ntmps5
      go_wp2_with fail
      -- wakes
      refine (wakes_any _).mono ?_
      rintro e w1 ⟨rfl, hb1⟩
      have G1 := Lib.hid (stage G0.out.1 G0.out.2 hb1)
      have H1 := Lib.hid (HH0.out.below hb1)
      obtain ⟨x0, x1, x2, y0, y1, y2, -⟩ := H1.out
      dsimp only at x0 x1 x2 y0 y1 y2
      clear hb1
      go_wp2_with fail
      -- sound, twice
      refine (HSDA.out _).mono ?_
      rintro e w2 ⟨rfl, hb2⟩
      have G2 := Lib.hid (stage G1.out.1 G1.out.2 hb2)
      have H2 := Lib.hid (H1.out.below hb2)
      clear x0 x1 x2 y0 y1 y2 hb2
      obtain ⟨x0, x1, x2, y0, y1, y2, -⟩ := H2.out
      dsimp only at x0 x1 x2 y0 y1 y2
      go_wp2_with fail
      refine (HSDU.out _).mono ?_
      rintro e w3 ⟨rfl, hb3⟩
      have G3 := Lib.hid (stage G2.out.1 G2.out.2 hb3)
      have H3 := Lib.hid (H2.out.below hb3)
      clear x0 x1 x2 y0 y1 y2 hb3
      obtain ⟨x0, x1, x2, y0, y1, y2, -⟩ := H3.out
      dsimp only at x0 x1 x2 y0 y1 y2
      go_wp2_with (go_at_call 14; refine (HPR.out _).mono ?_; rintro e w4 ⟨rfl, rfl⟩)
      -- Det
      refine (HDET.out _ (HU.out.below G3.out.1)).mono ?_
      rintro e w5 ⟨rfl, hb5⟩
      have G5 := Lib.hid (stage G3.out.1 G3.out.2 hb5)
      have H5 := Lib.hid (H3.out.below hb5)
      clear x0 x1 x2 y0 y1 y2 hb5
      obtain ⟨x0, x1, x2, y0, y1, y2, -⟩ := H5.out
      dsimp only at x0 x1 x2 y0 y1 y2
      go_wp2_with fail
      -- the product
      refine (Mul_rd R R C hR hR hC _ _ _ _ 1048576 1048576 (by omega) _ ((HU.out.below G5.out.1).rdn HSU.out) ((HA.out.below G5.out.1).rdn HSA.out)).mono ?_
      rintro e w6 ⟨l6, rfl, ⟨xua, hrd6, hxua⟩, hb6⟩
      have G6 := Lib.hid (stage3 G5.out hb6 (.int .i64 R) (.int .i64 C) (.slice (some ⟨l6, 0, none⟩) (R * C) (R * C)) 34)
      have H6 := Lib.hid ((H5.out.below hb6).box (.int .i64 R) (.int .i64 C) (.slice (some ⟨l6, 0, none⟩) (R * C) (R * C)) 34)
      have R6 := Lib.hid (hrd6.below (box_mat w6 (.int .i64 R) (.int .i64 C) (.slice (some ⟨l6, 0, none⟩) (R * C) (R * C)) 34).1)
      have HXUA := Lib.hid hxua
      have HEQ := HECH xua (fun t ht => (hxua t ht).2)
      have HKZ := Lib.hid (same_ker (R := R) (C := C) (xa := xa) (xu := xu) (xua := xua) HP.out (fun t ht => (hxua t ht).2))
      clear x0 x1 x2 y0 y1 y2 hb6 hrd6 hxua HECH
      obtain ⟨m0, m1, m2, x0, x1, x2, y0, y1, y2, -⟩ := H6.out
      dsimp only at m0 m1 m2 x0 x1 x2 y0 y1 y2
      go_wp2_with fail
      -- the echelon form of a
      refine (Echelon_rd R C p hR hC HP.out _ xa _ (HA.out.below G6.out.1)).mono ?_
      rintro e w7 ⟨l7, rfl, hrd7, hb7⟩
      have G7 := Lib.hid (stage3 G6.out hb7 (.int .i64 R) (.int .i64 C) (.slice (some ⟨l7, 0, none⟩) (R * C) (R * C)) 34)
      have H7 := Lib.hid ((H6.out.below hb7).box (.int .i64 R) (.int .i64 C) (.slice (some ⟨l7, 0, none⟩) (R * C) (R * C)) 34)
      have B7 := hb7.trans ((box_mat w7 (.int .i64 R) (.int .i64 C) (.slice (some ⟨l7, 0, none⟩) (R * C) (R * C)) 34).1.mono hb7.size)
      have R7 := Lib.hid (hrd7.below (box_mat w7 (.int .i64 R) (.int .i64 C) (.slice (some ⟨l7, 0, none⟩) (R * C) (R * C)) 34).1)
      have R6' := Lib.hid (R6.out.below B7)
      clear x0 x1 x2 y0 y1 y2 m0 m1 m2 hb7 hrd7 B7 R6
      obtain ⟨e0, e1, e2, m0, m1, m2, x0, x1, x2, y0, y1, y2, -⟩ := H7.out
      dsimp only at e0 e1 e2 m0 m1 m2 x0 x1 x2 y0 y1 y2
      go_wp2_with fail
      -- the echelon form of the product
      refine (Echelon_rd R C p hR hC HP.out _ xua _ R6'.out).mono ?_
      rintro e w8 ⟨l8, rfl, hrd8, hb8⟩
      have G8 := Lib.hid (stage3 G7.out hb8 (.int .i64 R) (.int .i64 C) (.slice (some ⟨l8, 0, none⟩) (R * C) (R * C)) 34)
      have H8 := Lib.hid ((H7.out.below hb8).box (.int .i64 R) (.int .i64 C) (.slice (some ⟨l8, 0, none⟩) (R * C) (R * C)) 34)
      have B8 := hb8.trans ((box_mat w8 (.int .i64 R) (.int .i64 C) (.slice (some ⟨l8, 0, none⟩) (R * C) (R * C)) 34).1.mono hb8.size)
      have R8 := Lib.hid (hrd8.below (box_mat w8 (.int .i64 R) (.int .i64 C) (.slice (some ⟨l8, 0, none⟩) (R * C) (R * C)) 34).1)
      have R6 := Lib.hid (R6'.out.below B8)
      have R7' := Lib.hid (R7.out.below B8)
      clear x0 x1 x2 y0 y1 y2 m0 m1 m2 e0 e1 e2 hb8 hrd8 B8 R6' R7
      obtain ⟨f0, f1, f2, e0, e1, e2, m0, m1, m2, x0, x1, x2, y0, y1, y2, -⟩ := H8.out
      dsimp only at f0 f1 f2 e0 e1 e2 m0 m1 m2 x0 x1 x2 y0 y1 y2
      go_wp2_with fail
      -- the kernel of the product
      have hker := Kernel_rd R C p hR hC HP.out _ xua _ R6.out
      obtain ⟨Q, hQ⟩ : ∃ Q, Q = R - kerR p R C xua := ⟨_, rfl⟩
      have HKZ' : Hid (∀ t, t < Q * C → mulF (mulF (fun t => (kerS p R C xua).G (t / R) (t % R)) (fun t => (xu t).val) R R) (fun t => (xa t).val) R C t % p = 0) := by rw [hQ]; exact HKZ.out
      have HKB : Hid (∀ t, t < Q * R → 0 ≤ (kerS p R C xua).G (t / R) (t % R) ∧ (kerS p R C xua).G (t / R) (t % R) < 2147483648) := by
        intro t ht
        rw [hQ] at ht
        obtain ⟨g1, g2⟩ := mul_idx (K := R) ht
        have := kerS_res p p0 R C xua _ _ g1 g2
        omega
      rw [← hQ] at hker
      have hQR : Q ≤ R := by omega
      clear hQ HKZ
      refine hker.mono ?_
      clear hker
      rintro e w9 ⟨l9, rfl, hrd9, hb9⟩
      have G9 := Lib.hid (stage3 G8.out hb9 (.int .i64 Q) (.int .i64 R) (.slice (some ⟨l9, 0, none⟩) (Q * R) (Q * R)) 34)
      have H9 := Lib.hid ((H8.out.below hb9).box (.int .i64 Q) (.int .i64 R) (.slice (some ⟨l9, 0, none⟩) (Q * R) (Q * R)) 34)
      have B9 := hb9.trans ((box_mat w9 (.int .i64 Q) (.int .i64 R) (.slice (some ⟨l9, 0, none⟩) (Q * R) (Q * R)) 34).1.mono hb9.size)
      have R9 := Lib.hid (hrd9.below (box_mat w9 (.int .i64 Q) (.int .i64 R) (.slice (some ⟨l9, 0, none⟩) (Q * R) (Q * R)) 34).1)
      have R7 := Lib.hid (R7'.out.below B9)
      have R8' := Lib.hid (R8.out.below B9)
      clear x0 x1 x2 y0 y1 y2 m0 m1 m2 e0 e1 e2 f0 f1 f2 hb9 hrd9 B9 R6 R7' R8
      obtain ⟨k0, k1, k2, f0, f1, f2, e0, e1, e2, m0, m1, m2, x0, x1, x2, y0, y1, y2, -⟩ := H9.out
      dsimp only at k0 k1 k2 f0 f1 f2 e0 e1 e2 m0 m1 m2 x0 x1 x2 y0 y1 y2
      go_wp2_with fail
      -- is the kernel sound?
      have hQR2 : Q * R ≤ 4096 := Nat.mul_le_mul (Nat.le_trans hQR hR) hR
      have hRC2 : R * C ≤ 4096 := Nat.mul_le_mul hR hC
      have hsd := fun W => sound_any Q R (some ⟨l9, 0, none⟩) (Q * R) (Q * R) (by omega) W
      rw [show soundB Q R (Q * R) = true by unfold soundB sideB; simp; omega] at hsd
      refine (hsd _).mono ?_
      rintro e wa ⟨rfl, hba⟩
      have Ga := Lib.hid (stage G9.out.1 G9.out.2 hba)
      have Ha := Lib.hid (H9.out.below hba)
      have Ra7 := Lib.hid (R7.out.below hba)
      have Ra8 := Lib.hid (R8'.out.below hba)
      have Ra9 := Lib.hid (R9.out.below hba)
      clear hsd x0 x1 x2 y0 y1 y2 m0 m1 m2 e0 e1 e2 f0 f1 f2 k0 k1 k2 hba R7 R8' R9
      obtain ⟨k0, k1, k2, f0, f1, f2, e0, e1, e2, m0, m1, m2, x0, x1, x2, y0, y1, y2, -⟩ := Ha.out
      dsimp only at k0 k1 k2 f0 f1 f2 e0 e1 e2 m0 m1 m2 x0 x1 x2 y0 y1 y2
      go_wp2_with fail
      -- the echelon forms are alike
      refine (alikeMats_yes _ _ R C (R * C) _ _ _ Ra7.out Ra8.out (fun i hi => by simp only [HEQ.out i hi]; exact RawEq.refl _)).mono ?_
      rintro e wb ⟨rfl, hbb⟩
      have Gb := Lib.hid (stage Ga.out.1 Ga.out.2 hbb)
      have Hb := Lib.hid (Ha.out.below hbb)
      have Rb9 := Lib.hid (Ra9.out.below hbb)
      clear x0 x1 x2 y0 y1 y2 m0 m1 m2 e0 e1 e2 f0 f1 f2 k0 k1 k2 hbb Ra7 Ra8 Ra9
      obtain ⟨k0, k1, k2, f0, f1, f2, e0, e1, e2, m0, m1, m2, x0, x1, x2, y0, y1, y2, -⟩ := Hb.out
      dsimp only at k0 k1 k2 f0 f1 f2 e0 e1 e2 m0 m1 m2 x0 x1 x2 y0 y1 y2
      clear f0 f1 f2 e0 e1 e2 m0 m1 m2
      go_wp2_with fail
      -- the kernel times u
      refine (Mul_rd Q R R (Nat.le_trans hQR hR) hR hR _ _ _ _ 1 1048576 (by omega) _ (Rb9.out.smalls HKB.out) ((HU.out.below Gb.out.1).rdn HSU.out)).mono ?_
      rintro e wc ⟨lc, rfl, hrdc, hbc⟩
      have Gc := Lib.hid (stage3 Gb.out hbc (.int .i64 Q) (.int .i64 R) (.slice (some ⟨lc, 0, none⟩) (Q * R) (Q * R)) 34)
      have Hc := Lib.hid ((Hb.out.below hbc).box (.int .i64 Q) (.int .i64 R) (.slice (some ⟨lc, 0, none⟩) (Q * R) (Q * R)) 34)
      have Rc := Lib.hid (hrdc.below (box_mat wc (.int .i64 Q) (.int .i64 R) (.slice (some ⟨lc, 0, none⟩) (Q * R) (Q * R)) 34).1)
      clear x0 x1 x2 y0 y1 y2 k0 k1 k2 hbc hrdc
      obtain ⟨k0, k1, k2, -, -, -, -, -, -, -, -, -, -, -, -, x0, x1, x2, -⟩ := Hc.out
      dsimp only at k0 k1 k2 x0 x1 x2
      go_wp2_with fail
      -- and that times a
      refine (Mul_rd Q R C (Nat.le_trans hQR hR) hR hC _ _ _ _ (1 + 1048576 + 1) 1048576 (by omega) _ Rc.out ((HA.out.below Gc.out.1).rdn HSA.out)).mono ?_
      rintro e wd ⟨ld, rfl, ⟨xz, hrdd, hxz⟩, hbd⟩
      have hQC : Q * C ≤ 4096 := Nat.mul_le_mul (Nat.le_trans hQR hR) hC
      have Gd := Lib.hid (stage3 Gc.out hbd (.int .i64 Q) (.int .i64 C) (.slice (some ⟨ld, 0, none⟩) (Q * C) (Q * C)) 34)
      have hd3 := box_mat wd (.int .i64 Q) (.int .i64 C) (.slice (some ⟨ld, 0, none⟩) (Q * C) (Q * C)) 34
      have hzy := zero_yes _ (Q * C) xz p (by omega) (by omega) _ (hrdd.below hd3.1) (fun t ht => ⟨by have := (hxz t ht).1; omega, by rw [(hxz t ht).2]; exact HKZ'.out t ht⟩)
      have HZY := Lib.hid hzy
      obtain ⟨-, -, -, d2⟩ := hd3
      clear x0 x1 x2 k0 k1 k2 hbd hrdd hxz hzy
      go_wp2_with fail
      refine HZY.out.mono ?_
      rintro e we ⟨rfl, hbe⟩
      have Ge := Lib.hid (stage Gd.out.1 Gd.out.2 hbe)
      clear hbe
      go_wp2_with fail
      go_ret
      exact ⟨rfl, Ge.out.1⟩
  · have hbad : soundB ra ca na = false ∨ (soundB ra ca na = true ∧ soundB ru cu nu = false) ∨ (soundB ra ca na = true ∧ soundB ru cu nu = true ∧ primeB p = false) ∨ (soundB ra ca na = true ∧ soundB ru cu nu = true ∧ primeB p = true ∧ (ru != cu) = true) ∨ (soundB ra ca na = true ∧ soundB ru cu nu = true ∧ primeB p = true ∧ (ru != cu) = false ∧ (cu != ra) = true) := by
      cases h1 : soundB ra ca na
      · exact Or.inl rfl
      cases h2 : soundB ru cu nu
      · exact Or.inr (Or.inl ⟨rfl, rfl⟩)
      cases h3 : primeB p
      · exact Or.inr (Or.inr (Or.inl ⟨rfl, rfl, rfl⟩))
      cases h4 : (ru != cu)
      · refine Or.inr (Or.inr (Or.inr (Or.inr ⟨rfl, rfl, rfl, rfl, ?_⟩)))
        rw [bne_iff_ne]
        intro h5
        exact hgood ⟨h1, h2, h3, by simpa using h4, h5⟩
      · exact Or.inr (Or.inr (Or.inr (Or.inl ⟨rfl, rfl, rfl, rfl⟩)))
    clear hgood
    generalize soundB ra ca na = sdA at *
    generalize soundB ru cu nu = sdU at *
    generalize primeB p = pr at *
    have HSDA := Lib.hid hsA
    have HSDU := Lib.hid hsU
    have HPR := Lib.hid hpr
    clear hsA hsU hpr
    rcases hbad with rfl | ⟨rfl, rfl⟩ | ⟨rfl, rfl, rfl⟩ | ⟨rfl, rfl, rfl, h4⟩ | ⟨rfl, rfl, rfl, h4, h5⟩
    all_goals
      go_enter Try.func5, Try.ntmps5
      go_wp2_with (first
        | (go_at_call 11; refine (wakes_any _).mono ?_; rintro e w1 ⟨rfl, hb1⟩; have HB1 := Lib.hid (HB0.out.trans (hb1.mono HB0.out.size)); obtain ⟨x0, x1, x2, y0, y1, y2⟩ := six_stay hb1 H6.out; clear hb1; have HF := HB1)
        | (go_at_call_of 15 (Value.agg #[.int .i64 ra, .int .i64 ca, .slice a na cap]); refine (HSDA.out _).mono ?_; rintro e w2 ⟨rfl, hb2⟩; have HB2 := Lib.hid (HB1.out.trans (hb2.mono HB1.out.size)); replace x0 := cell_stays hb2 x0; replace x1 := cell_stays hb2 x1; replace x2 := cell_stays hb2 x2; replace y0 := cell_stays hb2 y0; replace y1 := cell_stays hb2 y1; replace y2 := cell_stays hb2 y2; clear hb2; replace HF := HB2)
        | (go_at_call 15; refine (HSDU.out _).mono ?_; rintro e w3 ⟨rfl, hb3⟩; have HB3 := Lib.hid (HB2.out.trans (hb3.mono HB2.out.size)); replace x0 := cell_stays hb3 x0; replace x1 := cell_stays hb3 x1; replace x2 := cell_stays hb3 x2; replace y0 := cell_stays hb3 y0; replace y1 := cell_stays hb3 y1; replace y2 := cell_stays hb3 y2; clear hb3; replace HF := HB3)
        | (go_at_call 14; refine (HPR.out _).mono ?_; rintro e w4 ⟨rfl, rfl⟩))
      go_ret
      exact ⟨rfl, HF.out⟩
end Go.Proofs.Ytdlpemmoobbgnaa

namespace Go.Proofs.Ytdlpemmoobbgnaa.modpSame
open Go.ChangeShapes Go.WideShapes Go.ChangeAt Go.RowKit

theorem own : ownKnob Try.prog.godebug = none := by kernel_rfl

set_option maxRecDepth 100000 in
theorem contract (H : Type) (enc : TypeId × Value → H) (W : World) (base : Nat) (args : Array Value) (ds gs : List (DataW H)) (before : List MemPlace)
    (hval : ∀ (j : Nat) t v, Try.f5.params[j]? = some t → args[j]? = some v → Value.okWide Try.prog W .any base t v)
    (hW : DataW.Whole enc Try.prog Try.f5.params.toList Rows.modpSameSpec.vars false W args.toList ds gs before) (hk : Rows.uptoSmall H (ds ++ gs) = true) :
    Calls Try.prog 5 args W fun e W' => ∃ v, e = .returned v ∧ Rows.modpSameSpec.post enc Try.prog Try.f5 false true false false W args v W' := by
  have hW' := hW
  have hlt : ∀ x ∈ before, x.block < W.heap.size := fun x hx => hW.lt x hx
  obtain ⟨p, q, hA0, hV, rfl, hfz, hnd⟩ := hW
  have hA : DataW.TrodAll enc Try.prog W 0 (fun _ => true) true Try.f5.params.toList args.toList ds p := hA0
  rw [Try.params5] at hA hval
  obtain ⟨v0, vs0, d0, ds0, p0, q0, hargs, rfl, rfl, h0, r0⟩ := trodAll_cons hA
  obtain ⟨v1, vs1, d1, ds1, p1, q1, rfl, rfl, rfl, h1, r1⟩ := trodAll_cons r0
  obtain ⟨v2, vs2, d2, ds2, p2, q2, rfl, rfl, rfl, h2, r2⟩ := trodAll_cons r1
  obtain ⟨rfl, rfl, rfl⟩ := trodAll_nil r2
  obtain rfl : args = #[v0, v1, v2] := by cases args; simp_all
  obtain ⟨rfl, rfl⟩ := trodVars_none hV
  have h0k := h0
  have h1k := h1
  obtain ⟨P, rfl, rfl, rfl, w2⟩ := open_int Try.underlying22 (hval 2 22 v2 rfl rfl) h2
  clear hA0
  simp only [List.append_nil] at hW' hk hlt
  have hbk : Rows.uptoBulkAll [d0, d1, DataW.lit (.int .u64 P)] ≤ 1048576 := of_decide_eq_true hk
  simp only [Rows.uptoBulkAll] at hbk
  obtain ⟨R, C, s, n, x, rfl, hr, hn, hx, -, -⟩ := open_mat (B := 1048576) (hval 0 34 v0 rfl rfl) h0 (by omega) (by omega)
  obtain ⟨R', C', s', n', x', rfl, hr', hn', hx', -, -⟩ := open_mat (B := 1048576) (hval 1 34 v1 rfl rfl) h1 (by omega) (by omega)
  refine (Same_law R C R' C' P (bounds_u64 w2).1 s s' n n' x x' W hr hr' hx hx').mono fun e W' ⟨he, hg⟩ => ?_
  subst he
  refine ⟨_, rfl, post_of_below (pa := p0 ++ (p1 ++ ([] ++ []))) (pv := []) hW' (fun _ _ _ => (trodAll_cons_mk (shut_bool Try.underlying4 _) trodAll_mk0)) (fun sp hsp => (trodAll_cons_mk (WideElems.Trod_stays (P := Try.prog) (by kernel_rfl) (by kernel_rfl) (of_decide_eq_true (by kernel_rfl)) h0k (fun x hx => hg.same (hlt x (by simp [hx]))) (fun x hx => hsp x (by simp [hx]))) (trodAll_cons_mk (WideElems.Trod_stays (P := Try.prog) (by kernel_rfl) (by kernel_rfl) (of_decide_eq_true (by kernel_rfl)) h1k (fun x hx => hg.same (hlt x (by simp [hx]))) (fun x hx => hsp x (by simp [hx]))) (trodAll_cons_mk (shut_int Try.underlying22 w2) trodAll_mk0)))) (fun _ _ => rfl) (by simp)
    hg (ok_one (by kernel_rfl) rfl (okWide_bool_mk Try.underlying4 _))⟩

set_option maxRecDepth 100000 in
theorem lifted (os : Os) (started : os.Started) (H : Type) (enc : TypeId × Value → H) (F : Stop.Interp) :
    ReturnsInHanded {} Try.checked os 5 .any ((Rows.OpenSpec.upto Rows.modpSameSpec).pre6 enc Try.prog Try.f5 Rows.modpSameUptoRow.domain false) (((Rows.OpenSpec.upto Rows.modpSameSpec).at F).post enc Try.prog Try.f5 false true false false) := by
  refine returnsInHanded_of_cond (C := Try.checked) (s := Rows.OpenSpec.upto Rows.modpSameSpec) (k := Rows.uptoSmall) rfl own started (by kernel_rfl) Try.func5
    (OpenSpec.witness (enc := enc) (C := Try.checked) (s := Rows.OpenSpec.upto Rows.modpSameSpec) (k := Rows.uptoSmall) rfl false ⟨#[], #[.agg #[.int .i64 0, .int .i64 0, .slice none 0 0], .agg #[.int .i64 0, .int .i64 0, .slice none 0 0], .int .u64 0], []⟩ 8 (by kernel_rfl) (by kernel_rfl) (by kernel_rfl)
      (x := ([.agg [.lit (.int .i64 0), .lit (.int .i64 0), .nil], .agg [.lit (.int .i64 0), .lit (.int .i64 0), .nil], .lit (.int .u64 0)], [], [])) (by kernel_rfl) rfl (by kernel_rfl)) ?_
  intro W base args ds gs before hval hW _ hk _
  exact contract H enc W base args ds gs before hval hW hk

/-- the statement -/
theorem proved : Rows.ModpSameUptoSaid :=
  OpenClaim.holds_of_cond 5 Try.f5 rfl rfl rfl rfl rfl rfl rfl ⟨rfl, rfl, rfl, rfl, rfl⟩ rfl rfl rfl rfl rfl (by kernel_rfl) Try.func5 (by kernel_rfl)
    (of_decide_eq_true (by kernel_rfl)) (by unfold Func.isWrapper; first | (rw [if_pos (by decide +kernel)]; kernel_rfl) | (rw [if_neg (by decide +kernel)]; exact ⟨rfl, rfl⟩))
    (fun os started H enc _ F => lifted os started H enc F)
#print axioms proved
end Go.Proofs.Ytdlpemmoobbgnaa.modpSame
