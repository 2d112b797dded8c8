/- The walk of the law CharpolyDets. trellisref01.SameMat where it answers yes; the walk of trellislaw16.cayley. Plain: sums and products of polynomials at a matrix; x at a matrix. The walk of the law CharpolyAts. -/
import Derived.Test.YtejliecmdkmgiaaGV
import Derived.Test.YtejliecmdkmgiaaGU
import Derived.Test.YtejliecmdkmgiaaGT
import Derived.Test.YtejliecmdkmgiaaGR
set_option linter.unusedVariables false
set_option linter.unusedSimpArgs false
namespace Go.Proofs.Ytejliecmdkmgiaa
open Go.RowKit Go.Shelf

/-- an integer of the call's own in a box that may be written over, its words not in the box -/
structure JBox (w : World) (b : Nat) (z : Int) (a : Option Addr) (n c : Nat) : Prop where
  c0 : w.cell? ⟨b, 0, none⟩ = some (.bool (decide (z < 0)))
  c1 : w.cell? ⟨b, 1, none⟩ = some (.slice a n c)
  f0 : w.frozen? ⟨b, 0, none⟩ = false
  f1 : w.frozen? ⟨b, 1, none⟩ = false
  fr : FrZ w 0 (.agg #[.bool (decide (z < 0)), .slice a n c]) z
  sep : (Value.slice a n c).ownBlock ≠ some b
section
variable {w w' u : World} {b base n c : Nat} {z z' : Int} {a : Option Addr}
theorem JBox.below (h : JBox w b z a n c) (hb : Below w.heap.size w w') : JBox w' b z a n c :=
  ⟨cell_stays hb h.c0, cell_stays hb h.c1, froz_stays hb h.c0 h.f0, froz_stays hb h.c1 h.f1, h.fr.below hb, h.sep⟩
theorem FrZ.sep {w w' : World} {base d : Nat} {s : Bool} {m : Value} {z : Int} (h : FrZ w base (.agg #[.bool s, m]) z) (hg : w.grownBy w' (some d)) (hd : m.ownBlock ≠ some d) : FrZ w' base (.agg #[.bool s, m]) z := by
  obtain ⟨m', n, f, e, h1, h2⟩ := h
  simp only [Value.agg.injEq, Array.mk.injEq, List.cons.injEq, and_true] at e
  obtain ⟨e1, rfl⟩ := e
  refine ⟨m, n, f, by rw [e1], h1.grown hg (Or.inr hd), h2⟩
theorem JBox.put (h : JBox w b z a n c) {a' : Option Addr} {n' c' : Nat} (hf : FrZ w base (.agg #[.bool (decide (z' < 0)), .slice a' n' c']) z') (hs : (Value.slice a' n' c').ownBlock ≠ some b) :
    JBox ((w.setCell ⟨b, 0, none⟩ (.bool (decide (z' < 0)))).setCell ⟨b, 1, none⟩ (.slice a' n' c')) b z' a' n' c' := by
  have ne : (⟨b, 0, none⟩ : Addr) ≠ ⟨b, 1, none⟩ := fun e => by injection e with _ e _; omega
  refine ⟨?_, ?_, ?_, ?_, (hf.mono (Nat.zero_le _)).sep (gb_two w b 0 1 (.bool (decide (z' < 0))) (.slice a' n' c')) hs, hs⟩
  · rw [World.cell?_setCell_other _ _ _ _ (fun e => ne e.symm)]
    exact World.cell?_setCell_same _ _ _ h.c0
  · refine World.cell?_setCell_same _ _ _ (u := .slice a n c) ?_
    rw [World.cell?_setCell_other _ _ _ _ ne]; exact h.c1
  · rw [World.frozen?_setCell, World.frozen?_setCell]; exact h.f0
  · rw [World.frozen?_setCell, World.frozen?_setCell]; exact h.f1
theorem JBox.new (hf : FrZ w base (.agg #[.bool (decide (z < 0)), .slice a n c]) z) : JBox (w.alloc (.cells #[.bool (decide (z < 0)), .slice a n c] 49)) w.heap.size z a n c := by
  obtain ⟨k0, k1, k2, k3⟩ := two_cells w (.bool (decide (z < 0))) (.slice a n c) 49
  refine ⟨k0, k1, k2, k3, (hf.mono (Nat.zero_le _)).below (bl_alloc _ _), fun e => ?_⟩
  obtain ⟨a', n', c', e2, ho⟩ := hf.agg
  simp only [Value.agg.injEq, Array.mk.injEq, List.cons.injEq, and_true, true_and] at e2
  rw [e2] at e
  have := (ho _ e).2
  omega
/-- where a new number's words lie -/
theorem FrZ.own_ge {s : Bool} {m : Value} (h : FrZ w base (.agg #[.bool s, m]) z) {k : Nat} (e : m.ownBlock = some k) : base ≤ k := by
  obtain ⟨a', n', c', e2, ho⟩ := h.agg
  simp only [Value.agg.injEq, Array.mk.injEq, List.cons.injEq, and_true] at e2
  rw [e2.2] at e
  exact (ho _ e).1
end

end Go.Proofs.Ytejliecmdkmgiaa

namespace Go.Proofs.Ytejliecmdkmgiaa
open Go.RowKit Go.Shelf

/-- the next one is not reached -/
theorem anyL_skip {P : Program} {Q : Exit → Act → World → Prop} {md : Region.Mode} {ops : Array Oper} {S : World → Prop} {f i : Nat} {oi : Oper} {fuel : Nat} {listed : Array Bool} {a : Act} {w : World} (hi : ops[i]? = some oi)
    (hs : Region.noSelect ops = true) (hfr : Region.free md ops listed i = true) (hr : (Region.ready md ops listed).contains i = true) (hf : decide (i < f) = true)
    (hQ : ∀ c (a : Act) (d : Option Tmp) (v : Value) w, Q (.panic c) (a.put d v) w → Q (.panic c) a w) (hw : Region.wanted oi (yielded ops a.tmps) = false) (hS : S w)
    (h : wpAnyL P md ops Q S f fuel (listed.setIfInBounds i true) (a.put oi.dst undef) w) : wpAnyL P md ops Q S f (fuel + 1) listed a w :=
  anyL_pure (v := undef) hi hs hfr hr hf (fun c a w => hQ c a _ _ w) (Or.inr ⟨hw, rfl⟩) hS h

set_option maxHeartbeats 2000000 in
set_option maxRecDepth 100000 in
theorem SameMat_yes (r c : Int) (x y : Value) (n : Nat) (E : Nat → Int) (w : World) (hx : LeE w x n E) (hy : LeE w y n E) :
    Calls Try.prog 42 #[.agg #[.int .i64 r, .int .i64 c, x], .agg #[.int .i64 r, .int .i64 c, y]] w fun e w' => e = .returned (.bool true) ∧ Below w.heap.size w w' := by
  obtain ⟨a, cap, rfl, -⟩ := hx.slice
  obtain ⟨a', cap', rfl, -⟩ := hy.slice
  have hb := two_mats w (.int .i64 r) (.int .i64 c) (.slice a n cap) (.int .i64 r) (.int .i64 c) (.slice a' n cap')
  obtain ⟨h1, h2, -⟩ := two_mbox w r c r c (.slice a n cap) (.slice a' n cap')
  have HS := Lib.hid (SameRow_yes _ _ n E _ (hx.below hb) (hy.below hb))
  have HB := Lib.hid hb
  have x0 := h1.m0
  have x1 := h1.m1
  have x2 := h1.m2
  have y0 := h2.m0
  have y1 := h2.m1
  have y2 := h2.m2
  clear hx hy hb h1 h2
  go_enter Try.func42, Try.ntmps42
  go_upto_region 1 with fail
  generalize (w.alloc (.cells #[.int .i64 r, .int .i64 c, .slice a n cap] 24)).alloc (.cells #[.int .i64 r, .int .i64 c, .slice a' n cap'] 24) = W at *
  go_wp2_with fail
  (refine HS.out.mono ?_)
  rintro e w3 ⟨rfl, hb3⟩
  have HB3 := Lib.hid (below_via HB.out hb3)
  clear hb3 HS
  go_wp2_with fail
  go_ret
  exact ⟨rfl, HB3.out⟩

theorem cay_nil {n : Nat} (A : Nat → Int) : ∀ q, q < n * n → flat n (pmS n (mtx n A) (chE n A) (szE (chE n A) (n + 1))) q = 0 := fun q hq => by
  rw [chE_sz]
  obtain ⟨h1, h2, -⟩ := flat_lt hq
  exact ch_kil n (mtx n A) _ _ h1 h2
theorem cay_low (n : Nat) (A : Nat → Int) : chE n A 0 = (-1) ^ n * laZ.dt n (fun i j => A (i * n + j)) := by
  unfold chE
  rw [Nat.sub_zero]
  exact flq_det n (mtx n A)
theorem cay_tr (n : Nat) (A : Nat → Int) (hn : 0 < n) : chE n A (n - 1) = - trS n A n := by
  unfold chE
  rw [show n - (n - 1) = 0 + 1 by omega]
  have h := flq_tr n (mtx n A) 0
  rw [show laZ.sm (0 + 1) (fun l => flq n (mtx n A) l * trc n (pw n (mtx n A) (0 + 1 - l))) = 0 + 1 * trc n (pw n (mtx n A) (0 + 1)) from rfl] at h
  have h2 : trc n (pw n (mtx n A) (0 + 1)) = trS n A n := laZ.sm_congr fun i hi => by
    show laZ.mm n laZ.idm (mtx n A) i i = _
    exact laZ.mm_id (n := n) i i hi
  rw [h2] at h
  omega
theorem neg_even {n : Nat} (h : n % 2 = 0) : ((-1) ^ n : Int) = 1 := by
  obtain ⟨m, rfl⟩ : ∃ m, n = 2 * m := ⟨n / 2, by omega⟩
  rw [Int.pow_mul]
  exact one_powZ m
theorem neg_odd {n : Nat} (h : n % 2 = 1) : ((-1) ^ n : Int) = -1 := by
  obtain ⟨m, rfl⟩ : ∃ m, n = 2 * m + 1 := ⟨n / 2, by omega⟩
  rw [Int.pow_succ, neg_even (by omega)]; rfl

set_option maxHeartbeats 4000000 in
set_option maxRecDepth 100000 in
theorem cayley_yes (n S : Nat) (sl : Value) (A : Nat → Int) (w : World) (hn : n ≤ 64) (hS : S ≤ 1048576) (hr : RdE w sl (n * n) A) (hA : ∀ q, q < n * n → ZB S (A q)) :
    Calls Try.prog 43 #[.agg #[.int .i64 n, .int .i64 n, sl]] w fun e w' => e = .returned (.bool true) ∧ Below w.heap.size w w' := by
  have hmix : Try.prog.follows .mixedOrders = true := by kernel_rfl
  have hK4 : n * n ≤ 4096 := Nat.mul_le_mul hn hn
  obtain ⟨a, cap, rfl, hcap⟩ := hr.slice
  have hch := fun (u : World) (hu : Below w.heap.size w u) => Char_good n S _ A u hn (by omega) (hr.below hu) hA
  have hcz := fun j hj => chE_zb hn hA j hj
  have hat := fun (x : Value) (u : World) (hu : Below w.heap.size w u) (hx : RdE u x (n + 1) (chE n A)) => At_good n S (64 * (S + 1) + 1) (n + 1) x _ (chE n A) A u hn (by omega) (by omega) hx (by rw [chE_sz]; omega) hcz (hr.below hu) hA
  have hdt := fun (u : World) (hu : Below w.heap.size w u) => Det_good n S _ A u hn (by omega) (hr.below hu) hA
  have htr := fun (u : World) (hu : Below w.heap.size w u) => Trace_good n S _ A u hn (by omega) (hr.below hu) hA
  have htz := trS_zb hn hA (Nat.le_refl n)
  have hdz : ZB (64 * (S + 1) + 1) (laZ.dt n (fun i j => A (i * n + j))) := (dtZ_zb n (fun i j => A (i * n + j)) (by omega) (fun i j hi hj => hA _ (idx_lt hi hj rfl).1)).mono (Nat.succ_le_succ (Nat.mul_le_mul_right _ hn))
  have hlo := cay_low n A
  have htp := cay_tr n A
  have hnl := cay_nil (n := n) A
  obtain ⟨G, hG⟩ : ∃ G, G = flat n (pmS n (mtx n A) (chE n A) (szE (chE n A) (n + 1))) := ⟨_, rfl⟩
  simp only [← hG] at hat hnl
  obtain ⟨δ, hδ⟩ : ∃ δ, δ = laZ.dt n (fun i j => A (i * n + j)) := ⟨_, rfl⟩
  obtain ⟨τ, hτ⟩ : ∃ τ, τ = trS n A n := ⟨_, rfl⟩
  rw [← hδ] at hdz hlo
  simp only [← hδ] at hdt
  rw [← hτ] at htz htp
  simp only [← hτ] at htr
  obtain ⟨N, hN⟩ : ∃ N, N = n * n := ⟨_, rfl⟩
  have wN : IntKind.i64.wrap ((n : Int) * (n : Int)) = (N : Int) := by rw [show (n : Int) * (n : Int) = (N : Int) by rw [hN, Int.natCast_mul]]; exact IntWalk.i64_in _ (by omega)
  have hba := bl_alloc w (.cells #[.int .i64 n, .int .i64 n, .slice a N cap] 24)
  have hbx := MBox.new w n n (.slice a N cap)
  rw [← hN] at hK4 hnl
  simp only [← hN] at hch hat hdt htr ⊢
  have HCH := Lib.hid hch
  have HCZ := Lib.hid hcz
  have HAT := Lib.hid hat
  have HDT := Lib.hid hdt
  have HTR := Lib.hid htr
  have HTZ := Lib.hid htz
  have HDZ := Lib.hid hdz
  have HLO := Lib.hid hlo
  have HTP := Lib.hid htp
  have HNL := Lib.hid hnl
  have HB := Lib.hid hba
  have HM := Lib.hid hbx
  have x0 := hbx.m0
  have x1 := hbx.m1
  have x2 := hbx.m2
  have wn : IntKind.i64.wrap ((n : Int) + 1) = (n : Int) + 1 := IntWalk.i64_in _ (by omega)
  have hn1 : (0 : Int) < (n : Int) + 1 := by omega
  clear hr hA hch hcz hat hdt htr htz hdz hlo htp hnl hG hδ hτ hba hbx hN
  go_enter Try.func43, Try.ntmps43
  go_upto_region 1 with fail
  generalize w.alloc (.cells #[.int .i64 n, .int .i64 n, .slice a N cap] 24) = W at *
  have HC := Lib.hid (HCH.out W HB.out)
  go_wp2_with fail
  (refine HC.out.mono ?_)
  rintro e w1 ⟨lp, rfl, hf1, hb1⟩
  have LP := Lib.hid (show LeE _ _ _ (chE n A) from hf1.lee (Nat.le_refl _) (Nat.le_refl _) (by omega))
  replace HB := Lib.hid (below_via HB.out hb1)
  replace HM := Lib.hid (HM.out.below hb1)
  clear hf1 hb1 HC HCH x0 x1 x2
  have hmn := monic16_any _ (n + 1) (chE n A) w1 LP.out.rd
  rw [show monL (chE n A) (n + 1) = true by unfold monL; exact decide_eq_true ⟨by omega, chE_top n A⟩] at hmn
  have HMN := Lib.hid hmn
  clear hmn
  go_wp2_with fail
  (refine HMN.out.mono ?_)
  rintro e w2 ⟨rfl, hb2⟩
  replace HB := Lib.hid (below_via HB.out hb2)
  replace HM := Lib.hid (HM.out.below hb2)
  replace LP := Lib.hid (LP.out.below hb2)
  clear hb2 HMN
  have x0 := HM.out.m0
  have x1 := HM.out.m1
  have x2 := HM.out.m2
  have HA1 := Lib.hid (HAT.out _ w2 HB.out LP.out.rd)
  go_wp2_with fail
  (refine HA1.out.mono ?_)
  rintro e w3 ⟨lm, rfl, hf3, hb3⟩
  have hba := bl_alloc w3 (.cells #[.int .i64 n, .int .i64 n, .slice (some ⟨lm, 0, none⟩) N N] 24)
  have hb4 := below_via hb3 hba
  have HX := Lib.hid (MBox.new w3 n n (.slice (some ⟨lm, 0, none⟩) N N))
  have RG := Lib.hid ((hf3.rd (Nat.le_refl _) (by omega)).below hba)
  replace HB := Lib.hid (below_via HB.out hb4)
  replace HM := Lib.hid (HM.out.below hb4)
  replace LP := Lib.hid (LP.out.below hb4)
  clear hf3 hb3 hba hb4 HA1 HAT x0 x1 x2
  go_upto_region 6 with fail
  obtain ⟨mb, hmb⟩ : ∃ mb, mb = w3.heap.size := ⟨_, rfl⟩
  rw [← hmb] at HX ⊢
  clear hmb
  generalize w3.alloc (.cells #[.int .i64 n, .int .i64 n, .slice (some ⟨lm, 0, none⟩) N N] 24) = w4 at *
  have m0 := HX.out.m0
  have m1 := HX.out.m1
  have m2 := HX.out.m2
  have HNO := Lib.hid (nothing_yes n n N _ G w4 RG.out HNL.out)
  go_wp2_with fail
  (refine HNO.out.mono ?_)
  rintro e w5 ⟨rfl, hb5⟩
  replace HB := Lib.hid (below_via HB.out hb5)
  replace HM := Lib.hid (HM.out.below hb5)
  replace LP := Lib.hid (LP.out.below hb5)
  clear hb5 HNO HNL RG HX m0 m1 m2
  have x0 := HM.out.m0
  have x1 := HM.out.m1
  have x2 := HM.out.m2
  have HD1 := Lib.hid (HDT.out w5 HB.out)
  go_wp2_with fail
  (refine HD1.out.mono ?_)
  rintro e w6 ⟨v, rfl, hf6, hb6⟩
  obtain ⟨a6, n6, p6, rfl, -⟩ := hf6.agg
  have hba := bl_alloc w6 (.cells #[.bool (decide (δ < 0)), .slice a6 n6 p6] 49)
  have HJ := Lib.hid (JBox.new hf6)
  replace HB := Lib.hid (below_via HB.out hb6)
  replace HM := Lib.hid (HM.out.below hb6)
  replace LP := Lib.hid (LP.out.below hb6)
  have HBL := Lib.hid hba
  clear hf6 hb6 hba HD1 HDT x0 x1 x2
  go_upto_region 9 with fail
  obtain ⟨db, hdb⟩ : ∃ db, db = w6.heap.size := ⟨_, rfl⟩
  rw [← hdb] at HJ ⊢
  have HDB := Lib.hid (show w6.heap.size ≤ db by omega)
  clear hdb
  generalize w6.alloc (.cells #[.bool (decide (δ < 0)), .slice a6 n6 p6] 49) = w7 at *
  by_cases hpar : n % 2 = 1
  · have hpos : 0 < n := by omega
    have hrem : ((n : Int).tmod 2) = 1 := by rw [show (n : Int).tmod 2 = ((n % 2 : Nat) : Int) from rfl, hpar]; rfl
    have w1 : IntKind.i64.wrap (1 : Int) = 1 := IntWalk.i64_in _ (by omega)
    have d0 := HJ.out.c0
    have d1 := HJ.out.c1
    have f0 := HJ.out.f0
    have f1 := HJ.out.f1
    have HNG := Lib.hid (zNeg_any _ δ w7 (HJ.out.fr.rd HDZ.out (by omega)))
    obtain ⟨z, hz⟩ : ∃ z, z = -δ := ⟨_, rfl⟩
    rw [← hz] at HNG
    have HZV := Lib.hid (show z = chE n A 0 by rw [HLO.out, neg_odd hpar, hz]; omega)
    have HZZ := Lib.hid (show ZB (64 * (S + 1) + 1) z by rw [hz]; exact HDZ.out.neg)
    have HDW := Lib.hid (World.block_lt_of_cell? w7 _ HJ.out.c0)
    clear hz hpar
    go_wp2_with fail
    (refine HNG.out.mono ?_)
    rintro e w8 ⟨v, rfl, hf8, hb8⟩
    obtain ⟨az, nz, pz, rfl, -⟩ := hf8.agg
    have hj8 := HJ.out.below hb8
    have d0 := hj8.c0
    have d1 := hj8.c1
    have f0 := hj8.f0
    have f1 := hj8.f1
    have hpt := hj8.put hf8 (fun e => by have h1 := hf8.own_ge e; have h2 : db < w7.heap.size := HDW.out; omega)
    have hbe := HBL.out.trans (hb8.mono HBL.out.size)
    replace HBL := Lib.hid (hbe.grown (gb_two w8 db 0 1 (.bool (decide (z < 0))) (.slice az nz pz)) hbe.size (fun x hx => by injection hx with hx; have := HDB.out; omega))
    replace HJ := Lib.hid hpt
    clear hf8 hb8 hj8 hpt hbe HNG
    go_upto_region 11 with fail
    generalize (w8.setCell ⟨db, 0, none⟩ (.bool (decide (z < 0)))).setCell ⟨db, 1, none⟩ (.slice az nz pz) = wq at *
    clear d0 d1 f0 f1
    have hma := HM.out.below HBL.out
    have x0 := hma.m0
    have x1 := hma.m1
    have x2 := hma.m2
    have HT1 := Lib.hid (HTR.out wq (HB.out.trans (HBL.out.mono HB.out.size)))
    clear hma
    go_wp2_with fail
    (refine HT1.out.mono ?_)
    rintro e w9 ⟨v, rfl, hf9, hb9⟩
    have hz9 := hf9.rd HTZ.out (by omega)
    obtain ⟨a9, n9, p9, rfl, -⟩ := hf9.agg
    have hba := bl_alloc w9 (.cells #[.bool (decide (τ < 0)), .slice a9 n9 p9] 49)
    obtain ⟨y0, y1, -, -⟩ := two_cells w9 (.bool (decide (τ < 0))) (.slice a9 n9 p9) 49
    have hb10 := below_via hb9 hba
    have RT := Lib.hid (hz9.below hba)
    replace HJ := Lib.hid (HJ.out.below hb10)
    replace HBL := Lib.hid (HBL.out.trans (hb10.mono HBL.out.size))
    clear hf9 hb9 hz9 hba hb10 HT1 HTR x0 x1 x2
    go_upto_region 12 with fail
    obtain ⟨tb, htb⟩ : ∃ tb, tb = w9.heap.size := ⟨_, rfl⟩
    rw [← htb] at y0 y1 ⊢
    clear htb
    generalize w9.alloc (.cells #[.bool (decide (τ < 0)), .slice a9 n9 p9] 49) = wt at *
    have d0 := HJ.out.c0
    have d1 := HJ.out.c1
    obtain ⟨b0, o0, s0, m0, hpe, e0, e1, e2⟩ := (LP.out.below HBL.out).get (show 0 < n + 1 by omega)
    injection hpe with hpe
    injection hpe with hpb hpo
    subst hpb
    obtain rfl : o0 = 0 := hpo.symm
    obtain ⟨a4, n4, p4, rfl⟩ := e2.agg
    replace e0 : wt.cell? ⟨lp, 0, none⟩ = some (.bool s0) := e0
    replace e1 : wt.cell? ⟨lp, 1, none⟩ = some (.slice a4 n4 p4) := e1
    have hcm := zCmp_eq _ _ z wt.drew (by rw [HZV.out]; exact e2.1.below (bl_drew _)) ((HJ.out.fr.rd HZZ.out (by omega)).below (bl_drew _))
    have HCM := Lib.hid hcm
    clear hcm e2
    obtain ⟨k, hk⟩ : ∃ k, k = n - 1 := ⟨_, rfl⟩
    have wk : IntKind.i64.wrap ((n : Int) - 1) = (k : Int) := by rw [show (n : Int) - 1 = (k : Int) by omega]; exact IntWalk.i64_in _ (by omega)
    have hkn : (k : Int) < (n : Int) + 1 := by omega
    have hn0 : ((n : Int) == 0) = false := by rw [beq_eq_false_iff_ne]; omega
    obtain ⟨b1, o1, s1, m1, hpe, q0, q1, q2⟩ := (LP.out.below HBL.out).get (show k < n + 1 by omega)
    injection hpe with hpe
    injection hpe with hpb hpo
    subst hpb
    obtain rfl : o1 = 0 := hpo.symm
    rw [Nat.zero_add] at q0 q1
    obtain ⟨a5, n5, p5, rfl⟩ := q2.agg
    have HQ := Lib.hid (show RdZ wt (.agg #[.bool s1, .slice a5 n5 p5]) (-τ) by rw [← HTP.out hpos, ← hk]; exact q2.1)
    clear q2 hk
    refine region_early (fun u => u.cell? ⟨lp, 0, none⟩ = some (.bool s0) ∧ u.cell? ⟨lp, 1, none⟩ = some (.slice a4 n4 p4) ∧ u.cell? ⟨db, 0, none⟩ = some (.bool (decide (z < 0))) ∧ u.cell? ⟨db, 1, none⟩ = some (.slice az nz pz) ∧ u.cell? ⟨lp, k * 2, none⟩ = some (.bool s1) ∧ u.cell? ⟨lp, k * 2 + 1, none⟩ = some (.slice a5 n5 p5) ∧ u.cell? ⟨tb, 0, none⟩ = some (.bool (decide (τ < 0))) ∧ u.cell? ⟨tb, 1, none⟩ = some (.slice a9 n9 p9)) 21 [0, 1, 2, 3] 18 hmix (by kernel_rfl) rfl (by kernel_rfl) (fun _ _ d _ _ h => by cases d <;> exact h) ⟨e0, e1, d0, d1, q0, q1, y0, y1⟩ ?_
    iterate 4 (refine early_take rfl (by rfl) ?_; apply Exists.intro; refine ⟨fun u hu => ?_, ?_⟩; (obtain ⟨u_1, u_2, u_3, u_4, u_5, u_6, u_7, u_8⟩ := hu; go_simp; rfl); simp only [Act.put, List.getElem_toArray, List.getElem_cons_zero, List.getElem_cons_succ, List.setIfInBounds_toArray, List.set_cons_zero, List.set_cons_succ])
    refine early_done ?_
    simp only [marked]
    refine anyL_one (i := 4) (by kernel_rfl) rfl (by rfl) fun J hJ => ?_
    go_simp
    refine HCM.out.mono ?_
    rintro e wu ⟨rfl, hbu⟩
    replace hbu := below_via (bl_drew wt) hbu
    have hS : (wu.cell? ⟨lp, 0, none⟩ = some (.bool s0) ∧ wu.cell? ⟨lp, 1, none⟩ = some (.slice a4 n4 p4) ∧ wu.cell? ⟨db, 0, none⟩ = some (.bool (decide (z < 0))) ∧ wu.cell? ⟨db, 1, none⟩ = some (.slice az nz pz) ∧ wu.cell? ⟨lp, k * 2, none⟩ = some (.bool s1) ∧ wu.cell? ⟨lp, k * 2 + 1, none⟩ = some (.slice a5 n5 p5) ∧ wu.cell? ⟨tb, 0, none⟩ = some (.bool (decide (τ < 0))) ∧ wu.cell? ⟨tb, 1, none⟩ = some (.slice a9 n9 p9)) := ⟨cell_stays hbu e0, cell_stays hbu e1, cell_stays hbu d0, cell_stays hbu d1, cell_stays hbu q0, cell_stays hbu q1, cell_stays hbu y0, cell_stays hbu y1⟩
    refine hJ _ _ (fun _ => hS) ?_
    replace HBL := Lib.hid (HBL.out.trans (hbu.mono HBL.out.size))
    replace HQ := Lib.hid (HQ.out.below hbu)
    replace RT := Lib.hid (RT.out.below hbu)
    clear hJ J hbu HCM HJ e0 e1 d0 d1 q0 q1 y0 y1
    refine anyL_yield (i := 5) rfl (by kernel_rfl) (by kernel_rfl) (by kernel_rfl) (by kernel_rfl) (fun _ _ d _ _ h => by cases d <;> exact h) (by rfl) hS ?_
    apply Exists.intro
    refine ⟨fun u => ?_, ?_⟩
    · go_simp
      rfl
    simp only [Act.put, List.getElem_toArray, List.getElem_cons_zero, List.getElem_cons_succ, List.setIfInBounds_toArray, List.set_cons_zero, List.set_cons_succ]
    refine anyL_yield (i := 6) rfl (by kernel_rfl) (by kernel_rfl) (by kernel_rfl) (by kernel_rfl) (fun _ _ d _ _ h => by cases d <;> exact h) (by rfl) hS ?_
    apply Exists.intro
    refine ⟨fun u => ?_, ?_⟩
    · go_simp
      rfl
    simp only [Act.put, List.getElem_toArray, List.getElem_cons_zero, List.getElem_cons_succ, List.setIfInBounds_toArray, List.set_cons_zero, List.set_cons_succ]
    refine anyL_yield (i := 7) rfl (by kernel_rfl) (by kernel_rfl) (by kernel_rfl) (by kernel_rfl) (fun _ _ d _ _ h => by cases d <;> exact h) (by rfl) hS ?_
    apply Exists.intro
    refine ⟨fun u => ?_, ?_⟩
    · go_simp
      rfl
    simp only [Act.put, List.getElem_toArray, List.getElem_cons_zero, List.getElem_cons_succ, List.setIfInBounds_toArray, List.set_cons_zero, List.set_cons_succ]
    refine anyL_yield (i := 8) rfl (by kernel_rfl) (by kernel_rfl) (by kernel_rfl) (by kernel_rfl) (fun _ _ d _ _ h => by cases d <;> exact h) (by rfl) hS ?_
    apply Exists.intro
    refine ⟨fun u => ?_, ?_⟩
    · go_simp
      rfl
    simp only [Act.put, List.getElem_toArray, List.getElem_cons_zero, List.getElem_cons_succ, List.setIfInBounds_toArray, List.set_cons_zero, List.set_cons_succ]
    refine anyL_yield (i := 9) rfl (by kernel_rfl) (by kernel_rfl) (by kernel_rfl) (by kernel_rfl) (fun _ _ d _ _ h => by cases d <;> exact h) (by rfl) hS ?_
    apply Exists.intro
    refine ⟨fun u => ?_, ?_⟩
    · go_simp
      rfl
    simp only [Act.put, List.getElem_toArray, List.getElem_cons_zero, List.getElem_cons_succ, List.setIfInBounds_toArray, List.set_cons_zero, List.set_cons_succ]
    refine anyL_yield (i := 10) rfl (by kernel_rfl) (by kernel_rfl) (by kernel_rfl) (by kernel_rfl) (fun _ _ d _ _ h => by cases d <;> exact h) (by rfl) hS ?_
    apply Exists.intro
    refine ⟨fun u => ?_, ?_⟩
    · go_simp
      rfl
    simp only [Act.put, List.getElem_toArray, List.getElem_cons_zero, List.getElem_cons_succ, List.setIfInBounds_toArray, List.set_cons_zero, List.set_cons_succ]
    refine anyL_yield (i := 11) rfl (by kernel_rfl) (by kernel_rfl) (by kernel_rfl) (by kernel_rfl) (fun _ _ d _ _ h => by cases d <;> exact h) (by rfl) hS ?_
    apply Exists.intro
    refine ⟨fun u => ?_, ?_⟩
    · go_simp
      rfl
    simp only [Act.put, List.getElem_toArray, List.getElem_cons_zero, List.getElem_cons_succ, List.setIfInBounds_toArray, List.set_cons_zero, List.set_cons_succ]
    refine anyL_yield (i := 12) rfl (by kernel_rfl) (by kernel_rfl) (by kernel_rfl) (by kernel_rfl) (fun _ _ d _ _ h => by cases d <;> exact h) (by rfl) hS ?_
    apply Exists.intro
    refine ⟨fun u => ?_, ?_⟩
    · go_simp
      rfl
    simp only [Act.put, List.getElem_toArray, List.getElem_cons_zero, List.getElem_cons_succ, List.setIfInBounds_toArray, List.set_cons_zero, List.set_cons_succ]
    refine anyL_yield (i := 13) rfl (by kernel_rfl) (by kernel_rfl) (by kernel_rfl) (by kernel_rfl) (fun _ _ d _ _ h => by cases d <;> exact h) (by rfl) hS ?_
    apply Exists.intro
    refine ⟨fun u => ?_, ?_⟩
    · go_simp
      rfl
    simp only [Act.put, List.getElem_toArray, List.getElem_cons_zero, List.getElem_cons_succ, List.setIfInBounds_toArray, List.set_cons_zero, List.set_cons_succ]
    refine anyL_read (i := 14) rfl (by kernel_rfl) (by kernel_rfl) (by kernel_rfl) (by kernel_rfl) (fun _ _ d _ _ h => by cases d <;> exact h) (by rfl) hS ?_
    apply Exists.intro
    refine ⟨fun u hu => ?_, ?_⟩
    · obtain ⟨u_1, u_2, u_3, u_4, u_5, u_6, u_7, u_8⟩ := hu
      go_simp
      rfl
    simp only [Act.put, List.getElem_toArray, List.getElem_cons_zero, List.getElem_cons_succ, List.setIfInBounds_toArray, List.set_cons_zero, List.set_cons_succ]
    refine anyL_read (i := 15) rfl (by kernel_rfl) (by kernel_rfl) (by kernel_rfl) (by kernel_rfl) (fun _ _ d _ _ h => by cases d <;> exact h) (by rfl) hS ?_
    apply Exists.intro
    refine ⟨fun u hu => ?_, ?_⟩
    · obtain ⟨u_1, u_2, u_3, u_4, u_5, u_6, u_7, u_8⟩ := hu
      go_simp
      rfl
    simp only [Act.put, List.getElem_toArray, List.getElem_cons_zero, List.getElem_cons_succ, List.setIfInBounds_toArray, List.set_cons_zero, List.set_cons_succ]
    have hng := zNeg_any _ τ wu RT.out
    have HNG := Lib.hid hng
    clear hng
    refine anyL_one (i := 16) (by kernel_rfl) rfl (by rfl) fun J hJ => ?_
    go_simp
    refine HNG.out.mono ?_
    rintro e wv ⟨v, rfl, hfv, hbv⟩
    have hzv := hfv.rd HTZ.out.neg (by omega)
    have HCM := Lib.hid (zCmp_eq _ _ (-τ) wv (HQ.out.below hbv) hzv)
    obtain ⟨g1, g2, g3, g4, g5, g6, g7, g8⟩ := hS
    have hS : (wv.cell? ⟨lp, 0, none⟩ = some (.bool s0) ∧ wv.cell? ⟨lp, 1, none⟩ = some (.slice a4 n4 p4) ∧ wv.cell? ⟨db, 0, none⟩ = some (.bool (decide (z < 0))) ∧ wv.cell? ⟨db, 1, none⟩ = some (.slice az nz pz) ∧ wv.cell? ⟨lp, k * 2, none⟩ = some (.bool s1) ∧ wv.cell? ⟨lp, k * 2 + 1, none⟩ = some (.slice a5 n5 p5) ∧ wv.cell? ⟨tb, 0, none⟩ = some (.bool (decide (τ < 0))) ∧ wv.cell? ⟨tb, 1, none⟩ = some (.slice a9 n9 p9)) := ⟨cell_stays hbv g1, cell_stays hbv g2, cell_stays hbv g3, cell_stays hbv g4, cell_stays hbv g5, cell_stays hbv g6, cell_stays hbv g7, cell_stays hbv g8⟩
    refine hJ _ _ (fun _ => hS) ?_
    replace HBL := Lib.hid (HBL.out.trans (hbv.mono HBL.out.size))
    clear hJ J hfv hbv hzv HNG HQ RT g1 g2 g3 g4 g5 g6 g7 g8
    refine anyL_one (i := 17) (by kernel_rfl) rfl (by rfl) fun J hJ => ?_
    go_simp
    refine HCM.out.mono ?_
    rintro e wx ⟨rfl, hbx⟩
    obtain ⟨g1, g2, g3, g4, g5, g6, g7, g8⟩ := hS
    have hS : (wx.cell? ⟨lp, 0, none⟩ = some (.bool s0) ∧ wx.cell? ⟨lp, 1, none⟩ = some (.slice a4 n4 p4) ∧ wx.cell? ⟨db, 0, none⟩ = some (.bool (decide (z < 0))) ∧ wx.cell? ⟨db, 1, none⟩ = some (.slice az nz pz) ∧ wx.cell? ⟨lp, k * 2, none⟩ = some (.bool s1) ∧ wx.cell? ⟨lp, k * 2 + 1, none⟩ = some (.slice a5 n5 p5) ∧ wx.cell? ⟨tb, 0, none⟩ = some (.bool (decide (τ < 0))) ∧ wx.cell? ⟨tb, 1, none⟩ = some (.slice a9 n9 p9)) := ⟨cell_stays hbx g1, cell_stays hbx g2, cell_stays hbx g3, cell_stays hbx g4, cell_stays hbx g5, cell_stays hbx g6, cell_stays hbx g7, cell_stays hbx g8⟩
    refine hJ _ _ (fun _ => hS) ?_
    replace HBL := Lib.hid (HBL.out.trans (hbx.mono HBL.out.size))
    clear hJ J hbx HCM g1 g2 g3 g4 g5 g6 g7 g8
    refine anyL_yield (i := 18) rfl (by kernel_rfl) (by kernel_rfl) (by kernel_rfl) (by kernel_rfl) (fun _ _ d _ _ h => by cases d <;> exact h) (by rfl) hS ?_
    apply Exists.intro
    refine ⟨fun u => ?_, ?_⟩
    · go_simp
      rfl
    simp only [Act.put, List.getElem_toArray, List.getElem_cons_zero, List.getElem_cons_succ, List.setIfInBounds_toArray, List.set_cons_zero, List.set_cons_succ]
    refine anyL_yield (i := 19) rfl (by kernel_rfl) (by kernel_rfl) (by kernel_rfl) (by kernel_rfl) (fun _ _ d _ _ h => by cases d <;> exact h) (by rfl) hS ?_
    apply Exists.intro
    refine ⟨fun u => ?_, ?_⟩
    · go_simp
      rfl
    simp only [Act.put, List.getElem_toArray, List.getElem_cons_zero, List.getElem_cons_succ, List.setIfInBounds_toArray, List.set_cons_zero, List.set_cons_succ]
    refine anyL_yield (i := 20) rfl (by kernel_rfl) (by kernel_rfl) (by kernel_rfl) (by kernel_rfl) (fun _ _ d _ _ h => by cases d <;> exact h) (by rfl) hS ?_
    apply Exists.intro
    refine ⟨fun u => ?_, ?_⟩
    · go_simp
      rfl
    simp only [Act.put, List.getElem_toArray, List.getElem_cons_zero, List.getElem_cons_succ, List.setIfInBounds_toArray, List.set_cons_zero, List.set_cons_succ]
    refine anyL_one (i := 21) (by kernel_rfl) rfl (by rfl) fun J hJ => ?_
    go_simp
    refine hJ _ _ (fun e => absurd e (by decide)) ?_
    clear hJ J
    refine anyL_done (by kernel_rfl) ?_ _
    clear hS
    go_wp2_with fail
    go_ret
    exact ⟨rfl, HB.out.trans (HBL.out.mono HB.out.size)⟩
  · have hrem : ((n : Int).tmod 2) = 0 := by rw [show (n : Int).tmod 2 = ((n % 2 : Nat) : Int) from rfl, show n % 2 = 0 by omega]; rfl
    have w1 : IntKind.i64.wrap (0 : Int) = 0 := IntWalk.i64_in _ (by omega)
    obtain ⟨z, hz⟩ : ∃ z, z = δ := ⟨_, rfl⟩
    obtain ⟨az, nz, pz, hJz⟩ : ∃ az nz pz, JBox w7 db z az nz pz := ⟨_, _, _, hz ▸ HJ.out⟩
    have HZV := Lib.hid (show z = chE n A 0 by rw [HLO.out, neg_even (show n % 2 = 0 by omega), hz]; omega)
    have HZZ := Lib.hid (show ZB (64 * (S + 1) + 1) z by rw [hz]; exact HDZ.out)
    replace HJ := Lib.hid hJz
    clear hz hJz hpar
    have hma := HM.out.below HBL.out
    have x0 := hma.m0
    have x1 := hma.m1
    have x2 := hma.m2
    have HT1 := Lib.hid (HTR.out w7 (HB.out.trans (HBL.out.mono HB.out.size)))
    clear hma
    go_wp2_with fail
    (refine HT1.out.mono ?_)
    rintro e w9 ⟨v, rfl, hf9, hb9⟩
    have hz9 := hf9.rd HTZ.out (by omega)
    obtain ⟨a9, n9, p9, rfl, -⟩ := hf9.agg
    have hba := bl_alloc w9 (.cells #[.bool (decide (τ < 0)), .slice a9 n9 p9] 49)
    obtain ⟨y0, y1, -, -⟩ := two_cells w9 (.bool (decide (τ < 0))) (.slice a9 n9 p9) 49
    have hb10 := below_via hb9 hba
    have RT := Lib.hid (hz9.below hba)
    replace HJ := Lib.hid (HJ.out.below hb10)
    replace HBL := Lib.hid (HBL.out.trans (hb10.mono HBL.out.size))
    clear hf9 hb9 hz9 hba hb10 HT1 HTR x0 x1 x2
    go_upto_region 12 with fail
    obtain ⟨tb, htb⟩ : ∃ tb, tb = w9.heap.size := ⟨_, rfl⟩
    rw [← htb] at y0 y1 ⊢
    clear htb
    generalize w9.alloc (.cells #[.bool (decide (τ < 0)), .slice a9 n9 p9] 49) = wt at *
    have d0 := HJ.out.c0
    have d1 := HJ.out.c1
    obtain ⟨b0, o0, s0, m0, hpe, e0, e1, e2⟩ := (LP.out.below HBL.out).get (show 0 < n + 1 by omega)
    injection hpe with hpe
    injection hpe with hpb hpo
    subst hpb
    obtain rfl : o0 = 0 := hpo.symm
    obtain ⟨a4, n4, p4, rfl⟩ := e2.agg
    replace e0 : wt.cell? ⟨lp, 0, none⟩ = some (.bool s0) := e0
    replace e1 : wt.cell? ⟨lp, 1, none⟩ = some (.slice a4 n4 p4) := e1
    have hcm := zCmp_eq _ _ z wt.drew (by rw [HZV.out]; exact e2.1.below (bl_drew _)) ((HJ.out.fr.rd HZZ.out (by omega)).below (bl_drew _))
    have HCM := Lib.hid hcm
    clear hcm e2
    by_cases hpos : 0 < n
    · skip
      obtain ⟨k, hk⟩ : ∃ k, k = n - 1 := ⟨_, rfl⟩
      have wk : IntKind.i64.wrap ((n : Int) - 1) = (k : Int) := by rw [show (n : Int) - 1 = (k : Int) by omega]; exact IntWalk.i64_in _ (by omega)
      have hkn : (k : Int) < (n : Int) + 1 := by omega
      have hn0 : ((n : Int) == 0) = false := by rw [beq_eq_false_iff_ne]; omega
      obtain ⟨b1, o1, s1, m1, hpe, q0, q1, q2⟩ := (LP.out.below HBL.out).get (show k < n + 1 by omega)
      injection hpe with hpe
      injection hpe with hpb hpo
      subst hpb
      obtain rfl : o1 = 0 := hpo.symm
      rw [Nat.zero_add] at q0 q1
      obtain ⟨a5, n5, p5, rfl⟩ := q2.agg
      have HQ := Lib.hid (show RdZ wt (.agg #[.bool s1, .slice a5 n5 p5]) (-τ) by rw [← HTP.out hpos, ← hk]; exact q2.1)
      clear q2 hk
      refine region_early (fun u => u.cell? ⟨lp, 0, none⟩ = some (.bool s0) ∧ u.cell? ⟨lp, 1, none⟩ = some (.slice a4 n4 p4) ∧ u.cell? ⟨db, 0, none⟩ = some (.bool (decide (z < 0))) ∧ u.cell? ⟨db, 1, none⟩ = some (.slice az nz pz) ∧ u.cell? ⟨lp, k * 2, none⟩ = some (.bool s1) ∧ u.cell? ⟨lp, k * 2 + 1, none⟩ = some (.slice a5 n5 p5) ∧ u.cell? ⟨tb, 0, none⟩ = some (.bool (decide (τ < 0))) ∧ u.cell? ⟨tb, 1, none⟩ = some (.slice a9 n9 p9)) 21 [0, 1, 2, 3] 18 hmix (by kernel_rfl) rfl (by kernel_rfl) (fun _ _ d _ _ h => by cases d <;> exact h) ⟨e0, e1, d0, d1, q0, q1, y0, y1⟩ ?_
      iterate 4 (refine early_take rfl (by rfl) ?_; apply Exists.intro; refine ⟨fun u hu => ?_, ?_⟩; (obtain ⟨u_1, u_2, u_3, u_4, u_5, u_6, u_7, u_8⟩ := hu; go_simp; rfl); simp only [Act.put, List.getElem_toArray, List.getElem_cons_zero, List.getElem_cons_succ, List.setIfInBounds_toArray, List.set_cons_zero, List.set_cons_succ])
      refine early_done ?_
      simp only [marked]
      refine anyL_one (i := 4) (by kernel_rfl) rfl (by rfl) fun J hJ => ?_
      go_simp
      refine HCM.out.mono ?_
      rintro e wu ⟨rfl, hbu⟩
      replace hbu := below_via (bl_drew wt) hbu
      have hS : (wu.cell? ⟨lp, 0, none⟩ = some (.bool s0) ∧ wu.cell? ⟨lp, 1, none⟩ = some (.slice a4 n4 p4) ∧ wu.cell? ⟨db, 0, none⟩ = some (.bool (decide (z < 0))) ∧ wu.cell? ⟨db, 1, none⟩ = some (.slice az nz pz) ∧ wu.cell? ⟨lp, k * 2, none⟩ = some (.bool s1) ∧ wu.cell? ⟨lp, k * 2 + 1, none⟩ = some (.slice a5 n5 p5) ∧ wu.cell? ⟨tb, 0, none⟩ = some (.bool (decide (τ < 0))) ∧ wu.cell? ⟨tb, 1, none⟩ = some (.slice a9 n9 p9)) := ⟨cell_stays hbu e0, cell_stays hbu e1, cell_stays hbu d0, cell_stays hbu d1, cell_stays hbu q0, cell_stays hbu q1, cell_stays hbu y0, cell_stays hbu y1⟩
      refine hJ _ _ (fun _ => hS) ?_
      replace HBL := Lib.hid (HBL.out.trans (hbu.mono HBL.out.size))
      replace HQ := Lib.hid (HQ.out.below hbu)
      replace RT := Lib.hid (RT.out.below hbu)
      clear hJ J hbu HCM HJ e0 e1 d0 d1 q0 q1 y0 y1
      refine anyL_yield (i := 5) rfl (by kernel_rfl) (by kernel_rfl) (by kernel_rfl) (by kernel_rfl) (fun _ _ d _ _ h => by cases d <;> exact h) (by rfl) hS ?_
      apply Exists.intro
      refine ⟨fun u => ?_, ?_⟩
      · go_simp
        rfl
      simp only [Act.put, List.getElem_toArray, List.getElem_cons_zero, List.getElem_cons_succ, List.setIfInBounds_toArray, List.set_cons_zero, List.set_cons_succ]
      refine anyL_yield (i := 6) rfl (by kernel_rfl) (by kernel_rfl) (by kernel_rfl) (by kernel_rfl) (fun _ _ d _ _ h => by cases d <;> exact h) (by rfl) hS ?_
      apply Exists.intro
      refine ⟨fun u => ?_, ?_⟩
      · go_simp
        rfl
      simp only [Act.put, List.getElem_toArray, List.getElem_cons_zero, List.getElem_cons_succ, List.setIfInBounds_toArray, List.set_cons_zero, List.set_cons_succ]
      refine anyL_yield (i := 7) rfl (by kernel_rfl) (by kernel_rfl) (by kernel_rfl) (by kernel_rfl) (fun _ _ d _ _ h => by cases d <;> exact h) (by rfl) hS ?_
      apply Exists.intro
      refine ⟨fun u => ?_, ?_⟩
      · go_simp
        rfl
      simp only [Act.put, List.getElem_toArray, List.getElem_cons_zero, List.getElem_cons_succ, List.setIfInBounds_toArray, List.set_cons_zero, List.set_cons_succ]
      refine anyL_yield (i := 8) rfl (by kernel_rfl) (by kernel_rfl) (by kernel_rfl) (by kernel_rfl) (fun _ _ d _ _ h => by cases d <;> exact h) (by rfl) hS ?_
      apply Exists.intro
      refine ⟨fun u => ?_, ?_⟩
      · go_simp
        rfl
      simp only [Act.put, List.getElem_toArray, List.getElem_cons_zero, List.getElem_cons_succ, List.setIfInBounds_toArray, List.set_cons_zero, List.set_cons_succ]
      refine anyL_yield (i := 9) rfl (by kernel_rfl) (by kernel_rfl) (by kernel_rfl) (by kernel_rfl) (fun _ _ d _ _ h => by cases d <;> exact h) (by rfl) hS ?_
      apply Exists.intro
      refine ⟨fun u => ?_, ?_⟩
      · go_simp
        rfl
      simp only [Act.put, List.getElem_toArray, List.getElem_cons_zero, List.getElem_cons_succ, List.setIfInBounds_toArray, List.set_cons_zero, List.set_cons_succ]
      refine anyL_yield (i := 10) rfl (by kernel_rfl) (by kernel_rfl) (by kernel_rfl) (by kernel_rfl) (fun _ _ d _ _ h => by cases d <;> exact h) (by rfl) hS ?_
      apply Exists.intro
      refine ⟨fun u => ?_, ?_⟩
      · go_simp
        rfl
      simp only [Act.put, List.getElem_toArray, List.getElem_cons_zero, List.getElem_cons_succ, List.setIfInBounds_toArray, List.set_cons_zero, List.set_cons_succ]
      refine anyL_yield (i := 11) rfl (by kernel_rfl) (by kernel_rfl) (by kernel_rfl) (by kernel_rfl) (fun _ _ d _ _ h => by cases d <;> exact h) (by rfl) hS ?_
      apply Exists.intro
      refine ⟨fun u => ?_, ?_⟩
      · go_simp
        rfl
      simp only [Act.put, List.getElem_toArray, List.getElem_cons_zero, List.getElem_cons_succ, List.setIfInBounds_toArray, List.set_cons_zero, List.set_cons_succ]
      refine anyL_yield (i := 12) rfl (by kernel_rfl) (by kernel_rfl) (by kernel_rfl) (by kernel_rfl) (fun _ _ d _ _ h => by cases d <;> exact h) (by rfl) hS ?_
      apply Exists.intro
      refine ⟨fun u => ?_, ?_⟩
      · go_simp
        rfl
      simp only [Act.put, List.getElem_toArray, List.getElem_cons_zero, List.getElem_cons_succ, List.setIfInBounds_toArray, List.set_cons_zero, List.set_cons_succ]
      refine anyL_yield (i := 13) rfl (by kernel_rfl) (by kernel_rfl) (by kernel_rfl) (by kernel_rfl) (fun _ _ d _ _ h => by cases d <;> exact h) (by rfl) hS ?_
      apply Exists.intro
      refine ⟨fun u => ?_, ?_⟩
      · go_simp
        rfl
      simp only [Act.put, List.getElem_toArray, List.getElem_cons_zero, List.getElem_cons_succ, List.setIfInBounds_toArray, List.set_cons_zero, List.set_cons_succ]
      refine anyL_read (i := 14) rfl (by kernel_rfl) (by kernel_rfl) (by kernel_rfl) (by kernel_rfl) (fun _ _ d _ _ h => by cases d <;> exact h) (by rfl) hS ?_
      apply Exists.intro
      refine ⟨fun u hu => ?_, ?_⟩
      · obtain ⟨u_1, u_2, u_3, u_4, u_5, u_6, u_7, u_8⟩ := hu
        go_simp
        rfl
      simp only [Act.put, List.getElem_toArray, List.getElem_cons_zero, List.getElem_cons_succ, List.setIfInBounds_toArray, List.set_cons_zero, List.set_cons_succ]
      refine anyL_read (i := 15) rfl (by kernel_rfl) (by kernel_rfl) (by kernel_rfl) (by kernel_rfl) (fun _ _ d _ _ h => by cases d <;> exact h) (by rfl) hS ?_
      apply Exists.intro
      refine ⟨fun u hu => ?_, ?_⟩
      · obtain ⟨u_1, u_2, u_3, u_4, u_5, u_6, u_7, u_8⟩ := hu
        go_simp
        rfl
      simp only [Act.put, List.getElem_toArray, List.getElem_cons_zero, List.getElem_cons_succ, List.setIfInBounds_toArray, List.set_cons_zero, List.set_cons_succ]
      have hng := zNeg_any _ τ wu RT.out
      have HNG := Lib.hid hng
      clear hng
      refine anyL_one (i := 16) (by kernel_rfl) rfl (by rfl) fun J hJ => ?_
      go_simp
      refine HNG.out.mono ?_
      rintro e wv ⟨v, rfl, hfv, hbv⟩
      have hzv := hfv.rd HTZ.out.neg (by omega)
      have HCM := Lib.hid (zCmp_eq _ _ (-τ) wv (HQ.out.below hbv) hzv)
      obtain ⟨g1, g2, g3, g4, g5, g6, g7, g8⟩ := hS
      have hS : (wv.cell? ⟨lp, 0, none⟩ = some (.bool s0) ∧ wv.cell? ⟨lp, 1, none⟩ = some (.slice a4 n4 p4) ∧ wv.cell? ⟨db, 0, none⟩ = some (.bool (decide (z < 0))) ∧ wv.cell? ⟨db, 1, none⟩ = some (.slice az nz pz) ∧ wv.cell? ⟨lp, k * 2, none⟩ = some (.bool s1) ∧ wv.cell? ⟨lp, k * 2 + 1, none⟩ = some (.slice a5 n5 p5) ∧ wv.cell? ⟨tb, 0, none⟩ = some (.bool (decide (τ < 0))) ∧ wv.cell? ⟨tb, 1, none⟩ = some (.slice a9 n9 p9)) := ⟨cell_stays hbv g1, cell_stays hbv g2, cell_stays hbv g3, cell_stays hbv g4, cell_stays hbv g5, cell_stays hbv g6, cell_stays hbv g7, cell_stays hbv g8⟩
      refine hJ _ _ (fun _ => hS) ?_
      replace HBL := Lib.hid (HBL.out.trans (hbv.mono HBL.out.size))
      clear hJ J hfv hbv hzv HNG HQ RT g1 g2 g3 g4 g5 g6 g7 g8
      refine anyL_one (i := 17) (by kernel_rfl) rfl (by rfl) fun J hJ => ?_
      go_simp
      refine HCM.out.mono ?_
      rintro e wx ⟨rfl, hbx⟩
      obtain ⟨g1, g2, g3, g4, g5, g6, g7, g8⟩ := hS
      have hS : (wx.cell? ⟨lp, 0, none⟩ = some (.bool s0) ∧ wx.cell? ⟨lp, 1, none⟩ = some (.slice a4 n4 p4) ∧ wx.cell? ⟨db, 0, none⟩ = some (.bool (decide (z < 0))) ∧ wx.cell? ⟨db, 1, none⟩ = some (.slice az nz pz) ∧ wx.cell? ⟨lp, k * 2, none⟩ = some (.bool s1) ∧ wx.cell? ⟨lp, k * 2 + 1, none⟩ = some (.slice a5 n5 p5) ∧ wx.cell? ⟨tb, 0, none⟩ = some (.bool (decide (τ < 0))) ∧ wx.cell? ⟨tb, 1, none⟩ = some (.slice a9 n9 p9)) := ⟨cell_stays hbx g1, cell_stays hbx g2, cell_stays hbx g3, cell_stays hbx g4, cell_stays hbx g5, cell_stays hbx g6, cell_stays hbx g7, cell_stays hbx g8⟩
      refine hJ _ _ (fun _ => hS) ?_
      replace HBL := Lib.hid (HBL.out.trans (hbx.mono HBL.out.size))
      clear hJ J hbx HCM g1 g2 g3 g4 g5 g6 g7 g8
      refine anyL_yield (i := 18) rfl (by kernel_rfl) (by kernel_rfl) (by kernel_rfl) (by kernel_rfl) (fun _ _ d _ _ h => by cases d <;> exact h) (by rfl) hS ?_
      apply Exists.intro
      refine ⟨fun u => ?_, ?_⟩
      · go_simp
        rfl
      simp only [Act.put, List.getElem_toArray, List.getElem_cons_zero, List.getElem_cons_succ, List.setIfInBounds_toArray, List.set_cons_zero, List.set_cons_succ]
      refine anyL_yield (i := 19) rfl (by kernel_rfl) (by kernel_rfl) (by kernel_rfl) (by kernel_rfl) (fun _ _ d _ _ h => by cases d <;> exact h) (by rfl) hS ?_
      apply Exists.intro
      refine ⟨fun u => ?_, ?_⟩
      · go_simp
        rfl
      simp only [Act.put, List.getElem_toArray, List.getElem_cons_zero, List.getElem_cons_succ, List.setIfInBounds_toArray, List.set_cons_zero, List.set_cons_succ]
      refine anyL_yield (i := 20) rfl (by kernel_rfl) (by kernel_rfl) (by kernel_rfl) (by kernel_rfl) (fun _ _ d _ _ h => by cases d <;> exact h) (by rfl) hS ?_
      apply Exists.intro
      refine ⟨fun u => ?_, ?_⟩
      · go_simp
        rfl
      simp only [Act.put, List.getElem_toArray, List.getElem_cons_zero, List.getElem_cons_succ, List.setIfInBounds_toArray, List.set_cons_zero, List.set_cons_succ]
      refine anyL_one (i := 21) (by kernel_rfl) rfl (by rfl) fun J hJ => ?_
      go_simp
      refine hJ _ _ (fun e => absurd e (by decide)) ?_
      clear hJ J
      refine anyL_done (by kernel_rfl) ?_ _
      clear hS
      go_wp2_with fail
      go_ret
      exact ⟨rfl, HB.out.trans (HBL.out.mono HB.out.size)⟩
    · skip
      obtain rfl : n = 0 := by omega
      refine region_early (fun u => u.cell? ⟨lp, 0, none⟩ = some (.bool s0) ∧ u.cell? ⟨lp, 1, none⟩ = some (.slice a4 n4 p4) ∧ u.cell? ⟨db, 0, none⟩ = some (.bool (decide (z < 0))) ∧ u.cell? ⟨db, 1, none⟩ = some (.slice az nz pz)) 21 [0, 1, 2, 3] 18 hmix (by kernel_rfl) rfl (by kernel_rfl) (fun _ _ d _ _ h => by cases d <;> exact h) ⟨e0, e1, d0, d1⟩ ?_
      iterate 4 (refine early_take rfl (by rfl) ?_; apply Exists.intro; refine ⟨fun u hu => ?_, ?_⟩; (obtain ⟨u_1, u_2, u_3, u_4⟩ := hu; go_simp; rfl); simp only [Act.put, List.getElem_toArray, List.getElem_cons_zero, List.getElem_cons_succ, List.setIfInBounds_toArray, List.set_cons_zero, List.set_cons_succ])
      refine early_done ?_
      simp only [marked]
      refine anyL_one (i := 4) (by kernel_rfl) rfl (by rfl) fun J hJ => ?_
      go_simp
      refine HCM.out.mono ?_
      rintro e wu ⟨rfl, hbu⟩
      replace hbu := below_via (bl_drew wt) hbu
      have hS : (wu.cell? ⟨lp, 0, none⟩ = some (.bool s0) ∧ wu.cell? ⟨lp, 1, none⟩ = some (.slice a4 n4 p4) ∧ wu.cell? ⟨db, 0, none⟩ = some (.bool (decide (z < 0))) ∧ wu.cell? ⟨db, 1, none⟩ = some (.slice az nz pz)) := ⟨cell_stays hbu e0, cell_stays hbu e1, cell_stays hbu d0, cell_stays hbu d1⟩
      refine hJ _ _ (fun _ => hS) ?_
      replace HBL := Lib.hid (HBL.out.trans (hbu.mono HBL.out.size))
      clear hJ J hbu HCM HJ e0 e1 d0 d1
      refine anyL_yield (i := 5) rfl (by kernel_rfl) (by kernel_rfl) (by kernel_rfl) (by kernel_rfl) (fun _ _ d _ _ h => by cases d <;> exact h) (by rfl) hS ?_
      apply Exists.intro
      refine ⟨fun u => ?_, ?_⟩
      · go_simp
        rfl
      simp only [Act.put, List.getElem_toArray, List.getElem_cons_zero, List.getElem_cons_succ, List.setIfInBounds_toArray, List.set_cons_zero, List.set_cons_succ]
      refine anyL_yield (i := 6) rfl (by kernel_rfl) (by kernel_rfl) (by kernel_rfl) (by kernel_rfl) (fun _ _ d _ _ h => by cases d <;> exact h) (by rfl) hS ?_
      apply Exists.intro
      refine ⟨fun u => ?_, ?_⟩
      · go_simp
        rfl
      simp only [Act.put, List.getElem_toArray, List.getElem_cons_zero, List.getElem_cons_succ, List.setIfInBounds_toArray, List.set_cons_zero, List.set_cons_succ]
      refine anyL_yield (i := 7) rfl (by kernel_rfl) (by kernel_rfl) (by kernel_rfl) (by kernel_rfl) (fun _ _ d _ _ h => by cases d <;> exact h) (by rfl) hS ?_
      apply Exists.intro
      refine ⟨fun u => ?_, ?_⟩
      · go_simp
        rfl
      simp only [Act.put, List.getElem_toArray, List.getElem_cons_zero, List.getElem_cons_succ, List.setIfInBounds_toArray, List.set_cons_zero, List.set_cons_succ]
      refine anyL_yield (i := 8) rfl (by kernel_rfl) (by kernel_rfl) (by kernel_rfl) (by kernel_rfl) (fun _ _ d _ _ h => by cases d <;> exact h) (by rfl) hS ?_
      apply Exists.intro
      refine ⟨fun u => ?_, ?_⟩
      · go_simp
        rfl
      simp only [Act.put, List.getElem_toArray, List.getElem_cons_zero, List.getElem_cons_succ, List.setIfInBounds_toArray, List.set_cons_zero, List.set_cons_succ]
      refine anyL_yield (i := 9) rfl (by kernel_rfl) (by kernel_rfl) (by kernel_rfl) (by kernel_rfl) (fun _ _ d _ _ h => by cases d <;> exact h) (by rfl) hS ?_
      apply Exists.intro
      refine ⟨fun u => ?_, ?_⟩
      · go_simp
        rfl
      simp only [Act.put, List.getElem_toArray, List.getElem_cons_zero, List.getElem_cons_succ, List.setIfInBounds_toArray, List.set_cons_zero, List.set_cons_succ]
      refine anyL_skip (i := 10) rfl (by kernel_rfl) (by kernel_rfl) (by kernel_rfl) (by kernel_rfl) (fun _ _ d _ _ h => by cases d <;> exact h) (by rfl) hS ?_
      simp only [Act.put, List.getElem_toArray, List.getElem_cons_zero, List.getElem_cons_succ, List.setIfInBounds_toArray, List.set_cons_zero, List.set_cons_succ]
      refine anyL_skip (i := 11) rfl (by kernel_rfl) (by kernel_rfl) (by kernel_rfl) (by kernel_rfl) (fun _ _ d _ _ h => by cases d <;> exact h) (by rfl) hS ?_
      simp only [Act.put, List.getElem_toArray, List.getElem_cons_zero, List.getElem_cons_succ, List.setIfInBounds_toArray, List.set_cons_zero, List.set_cons_succ]
      refine anyL_skip (i := 12) rfl (by kernel_rfl) (by kernel_rfl) (by kernel_rfl) (by kernel_rfl) (fun _ _ d _ _ h => by cases d <;> exact h) (by rfl) hS ?_
      simp only [Act.put, List.getElem_toArray, List.getElem_cons_zero, List.getElem_cons_succ, List.setIfInBounds_toArray, List.set_cons_zero, List.set_cons_succ]
      refine anyL_skip (i := 13) rfl (by kernel_rfl) (by kernel_rfl) (by kernel_rfl) (by kernel_rfl) (fun _ _ d _ _ h => by cases d <;> exact h) (by rfl) hS ?_
      simp only [Act.put, List.getElem_toArray, List.getElem_cons_zero, List.getElem_cons_succ, List.setIfInBounds_toArray, List.set_cons_zero, List.set_cons_succ]
      refine anyL_skip (i := 14) rfl (by kernel_rfl) (by kernel_rfl) (by kernel_rfl) (by kernel_rfl) (fun _ _ d _ _ h => by cases d <;> exact h) (by rfl) hS ?_
      simp only [Act.put, List.getElem_toArray, List.getElem_cons_zero, List.getElem_cons_succ, List.setIfInBounds_toArray, List.set_cons_zero, List.set_cons_succ]
      refine anyL_skip (i := 15) rfl (by kernel_rfl) (by kernel_rfl) (by kernel_rfl) (by kernel_rfl) (fun _ _ d _ _ h => by cases d <;> exact h) (by rfl) hS ?_
      simp only [Act.put, List.getElem_toArray, List.getElem_cons_zero, List.getElem_cons_succ, List.setIfInBounds_toArray, List.set_cons_zero, List.set_cons_succ]
      refine anyL_skip (i := 16) rfl (by kernel_rfl) (by kernel_rfl) (by kernel_rfl) (by kernel_rfl) (fun _ _ d _ _ h => by cases d <;> exact h) (by rfl) hS ?_
      simp only [Act.put, List.getElem_toArray, List.getElem_cons_zero, List.getElem_cons_succ, List.setIfInBounds_toArray, List.set_cons_zero, List.set_cons_succ]
      refine anyL_skip (i := 17) rfl (by kernel_rfl) (by kernel_rfl) (by kernel_rfl) (by kernel_rfl) (fun _ _ d _ _ h => by cases d <;> exact h) (by rfl) hS ?_
      simp only [Act.put, List.getElem_toArray, List.getElem_cons_zero, List.getElem_cons_succ, List.setIfInBounds_toArray, List.set_cons_zero, List.set_cons_succ]
      refine anyL_skip (i := 18) rfl (by kernel_rfl) (by kernel_rfl) (by kernel_rfl) (by kernel_rfl) (fun _ _ d _ _ h => by cases d <;> exact h) (by rfl) hS ?_
      simp only [Act.put, List.getElem_toArray, List.getElem_cons_zero, List.getElem_cons_succ, List.setIfInBounds_toArray, List.set_cons_zero, List.set_cons_succ]

      refine anyL_yield (i := 19) rfl (by kernel_rfl) (by kernel_rfl) (by kernel_rfl) (by kernel_rfl) (fun _ _ d _ _ h => by cases d <;> exact h) (by rfl) hS ?_
      apply Exists.intro
      refine ⟨fun u => ?_, ?_⟩
      · go_simp
        rfl
      simp only [Act.put, List.getElem_toArray, List.getElem_cons_zero, List.getElem_cons_succ, List.setIfInBounds_toArray, List.set_cons_zero, List.set_cons_succ]
      refine anyL_yield (i := 20) rfl (by kernel_rfl) (by kernel_rfl) (by kernel_rfl) (by kernel_rfl) (fun _ _ d _ _ h => by cases d <;> exact h) (by rfl) hS ?_
      apply Exists.intro
      refine ⟨fun u => ?_, ?_⟩
      · go_simp
        rfl
      simp only [Act.put, List.getElem_toArray, List.getElem_cons_zero, List.getElem_cons_succ, List.setIfInBounds_toArray, List.set_cons_zero, List.set_cons_succ]
      refine anyL_one (i := 21) (by kernel_rfl) rfl (by rfl) fun J hJ => ?_
      go_simp
      refine hJ _ _ (fun e => absurd e (by decide)) ?_
      clear hJ J
      refine anyL_done (by kernel_rfl) ?_ _
      clear hS
      go_wp2_with fail
      go_ret
      exact ⟨rfl, HB.out.trans (HBL.out.mono HB.out.size)⟩
end Go.Proofs.Ytejliecmdkmgiaa

namespace Go.Proofs.Ytejliecmdkmgiaa
open laZ

theorem szE_mono (E : Nat → Int) : ∀ n, szE E (szE E n) = szE E n
  | 0 => rfl
  | n + 1 => by
    by_cases e : E n = 0
    · have h1 : szE E (n + 1) = szE E n := by show (if E n = 0 then _ else _) = _; rw [if_pos e]
      rw [h1]; exact szE_mono E n
    · rw [szE_full e, szE_full e]
theorem pad_zero {E : Nat → Int} {a j : Nat} (h : szE E a ≤ j) : padE E a j = 0 := by
  unfold padE
  split
  · rename_i h2; exact szE_zero E a j h h2
  · rfl
theorem pmS_pad {n : Nat} (A : Nat → Nat → Int) (E : Nat → Int) (a : Nat) {M : Nat} (hM : szE E a ≤ M) (i j : Nat) : pmS n A E (szE E a) i j = pmS n A (padE E a) M i j := by
  rw [pmS_to (c := padE E a) (s := szE E a) (fun k hk => pad_zero hk) hM]
  exact pmS_congr (fun k hk => (padE_lt (Nat.lt_of_lt_of_le hk (szE_le E a))).symm) i j
theorem pmS_zb {n S P : Nat} {A : Nat → Nat → Int} {E : Nat → Int} (hn : n ≤ 64) (hA : ∀ i j, i < n → j < n → ZB S (A i j)) {s : Nat} (hs : s ≤ 257) (hE : ∀ i, i < s → ZB P (E i)) : ∀ q, q < n * n → ZB (P + 257 * (S + 2)) (flat n (pmS n A E s) q) := flat_zb fun i j hi hj => by
  rw [← hor_all n A E s hi hj]
  exact (hor_zb hn hA s hE s (Nat.le_refl _) i j hi hj).mono (Nat.add_le_add_left (Nat.mul_le_mul_right _ hs) _)
/-- sums -/
theorem at_add {n : Nat} (A : Nat → Nat → Int) (E F : Nat → Int) (a b q : Nat) : flat n (pmS n A (addP E F a b) (szE (addP E F a b) (szE (addP E F a b) (max a b)))) q = flat n (pmS n A E (szE E a)) q + flat n (pmS n A F (szE F b)) q := by
  rw [szE_mono]
  have h1 := szE_le E a
  have h2 := szE_le F b
  show pmS n A (addP E F a b) (szE (addP E F a b) (max a b)) (q / n) (q % n) = pmS n A E (szE E a) (q / n) (q % n) + pmS n A F (szE F b) (q / n) (q % n)
  rw [pmS_pad A E a (show szE E a ≤ max a b by omega), pmS_pad A F b (show szE F b ≤ max a b by omega), ← pmS_add, pmS_pad A (addP E F a b) (max a b) (szE_le _ _)]
  exact pmS_congr (fun k hk => padE_lt hk) _ _
/-- the size of a product -/
theorem cv_sz {E F : Nat → Int} {a b : Nat} (h1 : 0 < szE E a) (h2 : 0 < szE F b) : szE (cv (padE E a) (padE F b)) (szE E a + szE F b - 1) = szE E a + szE F b - 1 := by
  obtain ⟨k, hk⟩ : ∃ k, szE E a + szE F b - 1 = k + 1 := ⟨szE E a + szE F b - 2, by omega⟩
  have l1 := szE_le E a
  have l2 := szE_le F b
  rw [hk]
  refine szE_full ?_
  have e : cv (padE E a) (padE F b) k = E (szE E a - 1) * F (szE F b - 1) := by
    unfold cv
    rw [sm_one (k := szE E a - 1) _ (by omega) (fun i hi hne => by
      by_cases h : szE E a ≤ i
      · show padE E a i * _ = 0; rw [pad_zero h]; exact Int.zero_mul _
      · show _ * padE F b (k - i) = 0; rw [pad_zero (E := F) (a := b) (by omega)]; exact Int.mul_zero _)]
    show padE E a (szE E a - 1) * padE F b (k - (szE E a - 1)) = _
    rw [padE_lt (by omega), show k - (szE E a - 1) = szE F b - 1 by omega, padE_lt (by omega)]
  rw [e]
  exact Int.mul_ne_zero (szE_top E a h1) (szE_top F b h2)
/-- the length that the product's list has -/
def mulL (E F : Nat → Int) (a b : Nat) : Nat := if szE E a = 0 ∨ szE F b = 0 then 0 else szE E a + szE F b - 1
theorem mulL_sz (E F : Nat → Int) (a b : Nat) : szE (cv (padE E a) (padE F b)) (mulL E F a b) = mulL E F a b := by
  unfold mulL
  split
  · rfl
  · exact cv_sz (by omega) (by omega)
/-- products -/
theorem at_mul {n : Nat} (A : Nat → Nat → Int) (E F : Nat → Int) (a b : Nat) {q : Nat} (hq : q < n * n) : flat n (pmS n A (cv (padE E a) (padE F b)) (szE (cv (padE E a) (padE F b)) (mulL E F a b))) q = mulE (flat n (pmS n A E (szE E a))) (flat n (pmS n A F (szE F b))) n n q := by
  obtain ⟨h1, h2, -⟩ := flat_lt hq
  rw [mul_flat hq]
  show pmS n A (cv (padE E a) (padE F b)) (szE _ (mulL E F a b)) (q / n) (q % n) = mm n (mtx n (flat n (pmS n A E (szE E a)))) (pmS n A F (szE F b)) (q / n) (q % n)
  have e1 := pmS_mul A (c' := padE F b) (b := szE F b) (fun k hk => pad_zero hk) (szE E a) (padE E a) (fun k hk => pad_zero hk) (q / n) (q % n) h1 h2
  rw [mm_congr (A' := pmS n A (padE E a) (szE E a)) (B' := pmS n A (padE F b) (szE F b)) (fun l hl => by
    show mtx n (flat n (pmS n A E (szE E a))) (q / n) l = _
    rw [show mtx n (flat n (pmS n A E (szE E a))) (q / n) l = pmS n A E (szE E a) (q / n) l from at_flat hl _]
    exact pmS_pad A E a (Nat.le_refl _) _ _) (fun l hl => pmS_pad A F b (Nat.le_refl _) _ _), ← e1, mulL_sz]
  unfold mulL
  split
  · rename_i h0
    rw [show pmS n A (cv (padE E a) (padE F b)) 0 (q / n) (q % n) = 0 from rfl]
    refine (sm_zero fun k _ => ?_).symm
    show cv (padE E a) (padE F b) k * _ = 0
    rcases h0 with h0 | h0
    · rw [cv_zero_l (fun j => pad_zero (by omega))]; exact Int.zero_mul _
    · rw [cv_comm, cv_zero_l (fun j => pad_zero (by omega))]; exact Int.zero_mul _
  · rename_i h0
    exact (pmS_to (s := szE E a + szE F b - 1) (fun k hk => cv_top (fun i hi => pad_zero hi) (fun i hi => pad_zero hi) (by omega)) (by omega) _ _).symm
/-- x itself -/
def xE (i : Nat) : Int := if i = 1 then 1 else 0
theorem at_x {n : Nat} (A : Nat → Int) {q : Nat} (hq : q < n * n) : flat n (pmS n (mtx n A) xE (szE xE 2)) q = A q := by
  obtain ⟨h1, h2, h3⟩ := flat_lt hq
  have hs : szE xE 2 = 2 := szE_full (by unfold xE; decide)
  rw [hs]
  show 0 + xE 0 * pw n (mtx n A) 0 (q / n) (q % n) + xE 1 * mm n idm (mtx n A) (q / n) (q % n) = A q
  rw [mm_id (n := n) (q / n) (q % n) h1, show xE 0 = 0 from rfl, show xE 1 = 1 from rfl, Int.zero_mul, Int.one_mul]
  show 0 + 0 + A (q / n * n + q % n) = A q
  rw [h3]; omega
end Go.Proofs.Ytejliecmdkmgiaa

namespace Go.Proofs.Ytejliecmdkmgiaa
open Go.RowKit Go.Shelf

/-- a matrix in least form in a box -/
structure MatV (w : World) (q n N : Nat) (v : Value) (G : Nat → Int) : Prop where
  m : MBox w q n n v
  e : LeE w v N G
theorem MatV.below {w w' : World} {q n N : Nat} {v : Value} {G : Nat → Int} (h : MatV w q n N v G) (hb : Below w.heap.size w w') : MatV w' q n N v G := ⟨h.m.below hb, h.e.below hb⟩
theorem MatV.new {w : World} {base n N l : Nat} {G : Nat → Int} (hf : FrE w base (fun b => b ≤ l) l N G) (hN : N ≤ 1048576) : MatV (w.alloc (.cells #[.int .i64 n, .int .i64 n, .slice (some ⟨l, 0, none⟩) N N] 24)) w.heap.size n N (.slice (some ⟨l, 0, none⟩) N N) G :=
  ⟨MBox.new w n n _, (hf.lee (Nat.le_refl _) (Nat.le_refl _) hN).below (bl_alloc _ _)⟩
theorem rde_two (w : World) (b : Nat) (h : RdZ w (.agg #[.bool false, .slice (some ⟨b, 0, none⟩) 1 1]) 1) :
    RdE (w.alloc (.cells #[.bool false, .slice none 0 0, .bool false, .slice (some ⟨b, 0, none⟩) 1 1] 49)) (.slice (some ⟨w.heap.size, 0, none⟩) 2 2) 2 xE := by
  have hn := heap_alloc_new w (.cells #[.bool false, .slice none 0 0, .bool false, .slice (some ⟨b, 0, none⟩) 1 1] 49)
  have hb := bl_alloc w (.cells #[.bool false, .slice none 0 0, .bool false, .slice (some ⟨b, 0, none⟩) 1 1] 49)
  refine ⟨_, 2, rfl, Nat.le_refl _, by omega, fun _ => ⟨w.heap.size, 0, rfl, fun i hi => ?_⟩⟩
  match i, hi with
  | 0, _ => exact ⟨false, .slice none 0 0, by rw [cell_of_row _ _ _ _ _ _ hn]; rfl, by rw [cell_of_row _ _ _ _ _ _ hn]; rfl, rd_zero _⟩
  | 1, _ => exact ⟨false, .slice (some ⟨b, 0, none⟩) 1 1, by rw [cell_of_row _ _ _ _ _ _ hn]; rfl, by rw [cell_of_row _ _ _ _ _ _ hn]; rfl, h.below hb⟩

set_option maxHeartbeats 8000000 in
set_option maxRecDepth 100000 in
theorem Ats_many (n S P la lb : Nat) (xp xq sl : Value) (A E F : Nat → Int) (w : World) (hn : n ≤ 64) (hS : S ≤ 1048576) (hP : P ≤ 1048576) (hr : RdE w sl (n * n) A) (hA : ∀ q, q < n * n → ZB S (A q)) (hp : RdE w xp la E) (hq : RdE w xq lb F) (hE : ∀ i, i < la → ZB P (E i)) (hF : ∀ i, i < lb → ZB P (F i)) (hla : la + lb ≤ 1048576)
    (hsz : 257 < szE E la ∨ 257 < szE F lb) :
    Calls Try.prog 7 #[xp, xq, .agg #[.int .i64 n, .int .i64 n, sl]] w fun e w' => e = .returned (.bool true) ∧ Below w.heap.size w w' := by
  have hmix : Try.prog.follows .mixedOrders = true := by kernel_rfl
  have hK4 : n * n ≤ 4096 := Nat.mul_le_mul hn hn
  have hsa := szE_le E la
  have hsb := szE_le F lb
  obtain ⟨a, cap, rfl, hcap⟩ := hr.slice
  obtain ⟨ap, cp, rfl, -⟩ := hp.slice
  obtain ⟨aq, cq, rfl, -⟩ := hq.slice
  have hrf := fun (u : World) (hu : Below w.heap.size w u) => refused16_good n S _ A u hn (by omega) (hr.below hu) hA
  have hcy := fun (u : World) (hu : Below w.heap.size w u) => cayley_yes n S _ A u hn hS (hr.below hu) hA
  have hle := fun (u : World) (hu : Below w.heap.size w u) => mLeast_good n n _ A u hn hn (hr.below hu)
  have hatx := fun (u : World) (x : Value) (hu : Below w.heap.size w u) (hx : RdE u x 2 xE) => (At_good n S 1 2 x _ xE A u hn (by omega) (by omega) hx (Nat.le_trans (szE_le _ 2) (by omega)) (fun i _ => by unfold xE; split; exact zb_ones; exact zb_nil 1) (hr.below hu) hA)
  have htp := fun (u : World) (hu : Below w.heap.size w u) => Trim_any _ la _ E u (hp.below hu)
  have htq := fun (u : World) (hu : Below w.heap.size w u) => Trim_any _ lb _ F u (hq.below hu)
  have hap : ∀ (u : World), Below w.heap.size w u → MatC 28 #[.slice ap la cp, .agg #[.int .i64 n, .int .i64 n, .slice a (n * n) cap]] (if 257 < szE E la then 5 else 0) u := fun u hu => by
    by_cases h : 257 < szE E la
    · rw [if_pos h]
      exact (At_large n la _ E a (n * n) cap u hn rfl (hp.below hu) h).mono fun e w' ⟨he, hb⟩ => ⟨_, _, _, _, _, he, fun _ => rfl, hb⟩
    · rw [if_neg h]
      exact (At_good n S P la _ _ E A u hn (by omega) (by omega) (hp.below hu) (by omega) hE (hr.below hu) hA).mono fun e w' ⟨lb, he, _, hb⟩ => ⟨_, _, _, _, _, he, fun e => absurd rfl e, hb⟩
  have haq : ∀ (u : World), Below w.heap.size w u → MatC 28 #[.slice aq lb cq, .agg #[.int .i64 n, .int .i64 n, .slice a (n * n) cap]] (if 257 < szE F lb then 5 else 0) u := fun u hu => by
    by_cases h : 257 < szE F lb
    · rw [if_pos h]
      exact (At_large n lb _ F a (n * n) cap u hn rfl (hq.below hu) h).mono fun e w' ⟨he, hb⟩ => ⟨_, _, _, _, _, he, fun _ => rfl, hb⟩
    · rw [if_neg h]
      exact (At_good n S P lb _ _ F A u hn (by omega) (by omega) (hq.below hu) (by omega) hF (hr.below hu) hA).mono fun e w' ⟨lb, he, _, hb⟩ => ⟨_, _, _, _, _, he, fun e => absurd rfl e, hb⟩
  obtain ⟨N, hN⟩ : ∃ N, N = n * n := ⟨_, rfl⟩
  have hax : ∀ q, q < N → flat n (pmS n (mtx n A) xE (szE xE 2)) q = A q := fun q hq => at_x A (by rw [← hN]; exact hq)
  obtain ⟨sp, hsp⟩ : ∃ sp, sp = szE E la := ⟨_, rfl⟩
  obtain ⟨sq, hsq⟩ : ∃ sq, sq = szE F lb := ⟨_, rfl⟩
  rw [← hN] at hK4
  rw [← hsp] at hsa hsz
  rw [← hsq] at hsb hsz
  simp only [← hN] at hrf hcy hle hatx hap haq ⊢
  simp only [← hsp] at htp hap
  simp only [← hsq] at htq haq
  have hba := bl_alloc w (.cells #[.int .i64 n, .int .i64 n, .slice a N cap] 24)
  have hbx := MBox.new w n n (.slice a N cap)
  obtain ⟨GX, hGX⟩ : ∃ GX, GX = flat n (pmS n (mtx n A) xE (szE xE 2)) := ⟨_, rfl⟩
  simp only [← hGX] at hatx hax
  have HRF := Lib.hid hrf
  have HCY := Lib.hid hcy
  have HLE := Lib.hid hle
  have HATX := Lib.hid hatx
  have HTP := Lib.hid htp
  have HTQ := Lib.hid htq
  have HAX := Lib.hid hax
  have HB := Lib.hid hba
  have HM := Lib.hid hbx
  obtain ⟨X1, hX1⟩ : ∃ X1 : Int, X1 = (if 257 < sp then 5 else 0) := ⟨_, rfl⟩
  obtain ⟨X2, hX2⟩ : ∃ X2 : Int, X2 = (if 257 < sq then 5 else 0) := ⟨_, rfl⟩
  simp only [← hX1] at hap
  simp only [← hX2] at haq
  have HAP := Lib.hid hap
  have HAQ := Lib.hid haq
  have HX1 := Lib.hid hX1
  have HX2 := Lib.hid hX2
  have v2 : IntKind.i64.wrap ((sq : Int) - 1) = (sq : Int) - 1 := IntWalk.i64_in _ (by omega)
  clear hap haq hX1 hX2
  have x0 := hbx.m0
  have x1 := hbx.m1
  have x2 := hbx.m2
  have v1 : IntKind.i64.wrap ((sp : Int) - 1) = (sp : Int) - 1 := IntWalk.i64_in _ (by omega)
  clear hr hA hp hq hE hF hrf hcy hle hatx htp htq hax hba hbx hN hsp hsq hGX
  go_enter Try.func7, Try.ntmps7
  go_upto_region 1 with fail
  generalize w.alloc (.cells #[.int .i64 n, .int .i64 n, .slice a N cap] 24) = W at *
  go_wp2_with fail
  (refine (HRF.out W HB.out).mono ?_)
  rintro e w1 ⟨rfl, hbo⟩
  replace HM := Lib.hid (HM.out.below hbo)
  replace HB := Lib.hid (below_via HB.out hbo)
  clear hbo HRF x0 x1 x2
  go_wp2_with fail
  (refine (awake16_any w1).mono ?_)
  rintro e w2 ⟨rfl, hbo⟩
  replace HM := Lib.hid (HM.out.below hbo)
  replace HB := Lib.hid (below_via HB.out hbo)
  clear hbo
  go_upto_region 4 with fail
  go_cut [9, 10] (fun v8 v9 wx => ∃ q l9 : Nat, v8 = .pointer (some ⟨q, 0, none⟩) ∧ v9 = .int .i64 0 ∧ MatV wx q n N (.slice (some ⟨l9, 0, none⟩) N N) GX ∧ Below w2.heap.size w2 wx)
  case first =>
    have x0 := HM.out.m0
    have x1 := HM.out.m1
    have x2 := HM.out.m2
    have hSK : ∀ u, Below w2.heap.size w2 u → (u.cell? ⟨w.heap.size, 0, none⟩ = some (.int .i64 n) ∧ u.cell? ⟨w.heap.size, 1, none⟩ = some (.int .i64 n) ∧ u.cell? ⟨w.heap.size, 2, none⟩ = some (.slice a N cap)) := fun u hu => ⟨cell_stays hu x0, cell_stays hu x1, cell_stays hu x2⟩
    have HSK := Lib.hid hSK
    clear hSK
    refine region_early (fun u => u.cell? ⟨w.heap.size, 0, none⟩ = some (.int .i64 n) ∧ u.cell? ⟨w.heap.size, 1, none⟩ = some (.int .i64 n) ∧ u.cell? ⟨w.heap.size, 2, none⟩ = some (.slice a N cap)) 9 [0, 3] 9 hmix (by kernel_rfl) rfl (by kernel_rfl) (fun _ _ d _ _ h => by cases d <;> exact h) ⟨x0, x1, x2⟩ ?_
    iterate 2 (refine early_take rfl (by rfl) ?_; apply Exists.intro; refine ⟨fun u hu => ?_, ?_⟩; (obtain ⟨u_1, u_2, u_3⟩ := hu; go_simp; rfl); simp only [Act.put, List.getElem_toArray, List.getElem_cons_zero, List.getElem_cons_succ, List.setIfInBounds_toArray, List.set_cons_zero, List.set_cons_succ])
    refine early_done ?_
    simp only [marked]
    clear x0 x1 x2
    have HBW := Lib.hid (bl_drew w2)
    refine anyL_two (i := 1) (j := 8) (by kernel_rfl) rfl (by rfl) rfl (by rfl) (fun J hJ => ?_) (fun J hJ => ?_)
    · go_simp
      refine (of16_any 1 w2.drew).mono ?_
      rintro e ub ⟨b0, rfl, hc0, -, -, hbo⟩
      replace HBW := Lib.hid (below_via HBW.out hbo)
      have HC0 := Lib.hid hc0
      refine hJ _ _ (fun _ => HSK.out _ HBW.out) ?_
      clear hJ J hbo hc0
      refine anyL_two (i := 2) (j := 8) (by kernel_rfl) rfl (by rfl) rfl (by rfl) (fun J hJ => ?_) (fun J hJ => ?_)
      · go_simp
        have hbo := bl_alloc ub (.cells #[.bool false, .slice none 0 0, .bool false, .slice (some ⟨b0, 0, none⟩) 1 1] 49)
        have HLI := Lib.hid (rde_two ub b0 (rdz_word ub b0 1 (by omega) (by omega) HC0.out))
        replace HBW := Lib.hid (below_via HBW.out hbo)
        obtain ⟨lb0, hlb0⟩ : ∃ lb0, lb0 = ub.heap.size := ⟨_, rfl⟩
        rw [← hlb0] at HLI ⊢
        clear hlb0
        generalize hww : ub.alloc (.cells #[.bool false, .slice none 0 0, .bool false, .slice (some ⟨b0, 0, none⟩) 1 1] 49) = ubc at *
        clear hww
        refine hJ _ _ (fun _ => HSK.out _ HBW.out) ?_
        clear hJ J hbo HC0
        refine anyL_two (i := 4) (j := 8) (by kernel_rfl) rfl (by rfl) rfl (by rfl) (fun J hJ => ?_) (fun J hJ => ?_)
        · go_simp
          refine (HATX.out ubc _ (HB.out.trans (HBW.out.mono HB.out.size)) HLI.out).mono ?_
          rintro e ubce ⟨l9, rfl, hf, hbo⟩
          have HF := Lib.hid hf
          replace HBW := Lib.hid (below_via HBW.out hbo)
          refine hJ _ _ (fun _ => HSK.out _ HBW.out) ?_
          clear hJ J hbo hf HLI
          refine anyL_yield (i := 5) rfl (by kernel_rfl) (by kernel_rfl) (by kernel_rfl) (by kernel_rfl) (fun _ _ d _ _ h => by cases d <;> exact h) (by rfl) (HSK.out _ HBW.out) ?_
          apply Exists.intro
          refine ⟨fun u => ?_, ?_⟩
          · go_simp
            rfl
          simp only [Act.put, List.getElem_toArray, List.getElem_cons_zero, List.getElem_cons_succ, List.setIfInBounds_toArray, List.set_cons_zero, List.set_cons_succ]
          refine anyL_yield (i := 6) rfl (by kernel_rfl) (by kernel_rfl) (by kernel_rfl) (by kernel_rfl) (fun _ _ d _ _ h => by cases d <;> exact h) (by rfl) (HSK.out _ HBW.out) ?_
          apply Exists.intro
          refine ⟨fun u => ?_, ?_⟩
          · go_simp
            rfl
          simp only [Act.put, List.getElem_toArray, List.getElem_cons_zero, List.getElem_cons_succ, List.setIfInBounds_toArray, List.set_cons_zero, List.set_cons_succ]
          refine anyL_yield (i := 7) rfl (by kernel_rfl) (by kernel_rfl) (by kernel_rfl) (by kernel_rfl) (fun _ _ d _ _ h => by cases d <;> exact h) (by rfl) (HSK.out _ HBW.out) ?_
          apply Exists.intro
          refine ⟨fun u => ?_, ?_⟩
          · go_simp
            rfl
          simp only [Act.put, List.getElem_toArray, List.getElem_cons_zero, List.getElem_cons_succ, List.setIfInBounds_toArray, List.set_cons_zero, List.set_cons_succ]
          refine anyL_one (i := 8) (by kernel_rfl) rfl (by rfl) fun J hJ => ?_
          go_simp
          have hbo : Below ubce.heap.size ubce (ubce.alloc (.cells #[.int .i64 0, .int .i64 0, .slice none 0 0] 24)) := bl_alloc ubce (.cells #[.int .i64 0, .int .i64 0, .slice none 0 0] 24)
          have HQ := Lib.hid (show MBox (ubce.alloc (.cells #[.int .i64 0, .int .i64 0, .slice none 0 0] 24)) ubce.heap.size 0 0 (.slice none 0 0) from MBox.new ubce 0 0 (.slice none 0 0))
          have hqs : w2.heap.size ≤ ubce.heap.size := HBW.out.size
          replace HBW := Lib.hid (below_via HBW.out hbo)
          have hl9 := HF.out.lt
          have HNE := Lib.hid (show l9 ≠ ubce.heap.size by omega)
          have HP := Lib.hid ((HF.out.turnD (D' := fun b => b ≤ l9 ∨ b = ubce.heap.size) (fun b hb hn hd => hd.elim hn (fun e => by omega))).below hbo)
          clear hl9 HF
          obtain ⟨q, hq⟩ : ∃ q, q = ubce.heap.size := ⟨_, rfl⟩
          have HQW := Lib.hid (show w2.heap.size ≤ q by omega)
          rw [← hq] at HQ HNE HP ⊢
          clear hq hqs
          generalize hww : ubce.alloc (.cells #[.int .i64 0, .int .i64 0, .slice none 0 0] 24) = ubcei at *
          clear hww
          refine hJ _ _ (fun _ => HSK.out _ HBW.out) ?_
          clear hJ J hbo
          have z0 := HQ.out.m0
          have z1 := HQ.out.m1
          have z2 := HQ.out.m2
          have y0 := HQ.out.f0
          have y1 := HQ.out.f1
          have y2 := HQ.out.f2
          refine anyL_one (i := 9) (by kernel_rfl) rfl (by rfl) fun J hJ => ?_
          go_simp
          refine hJ _ _ (fun e => absurd e (by decide)) ?_
          clear hJ J
          refine anyL_one (i := 10) (by kernel_rfl) rfl (by rfl) fun J hJ => ?_
          go_simp
          refine hJ _ _ (fun e => absurd e (by decide)) ?_
          clear hJ J
          refine anyL_done (by kernel_rfl) ?_ _
          go_wp2_with fail
          go_meet
          have hg := stored3_gb ubcei q (.int .i64 n) (.int .i64 n) (.slice (some ⟨l9, 0, none⟩) N N)
          exact ⟨q, l9, rfl, rfl, ⟨HQ.out.store (r' := n) (c' := n) (v' := .slice (some ⟨l9, 0, none⟩) N N), (HP.out.grown hg HNE.out (Or.inr rfl)).lee (Nat.le_refl _) (Nat.le_refl _) (by omega)⟩, HBW.out.grown hg HBW.out.size (fun k hk => by injection hk with hk; have := HQW.out; omega)⟩
        · go_simp
          have hbo : Below ubc.heap.size ubc (ubc.alloc (.cells #[.int .i64 0, .int .i64 0, .slice none 0 0] 24)) := bl_alloc ubc (.cells #[.int .i64 0, .int .i64 0, .slice none 0 0] 24)
          have HQ := Lib.hid (show MBox (ubc.alloc (.cells #[.int .i64 0, .int .i64 0, .slice none 0 0] 24)) ubc.heap.size 0 0 (.slice none 0 0) from MBox.new ubc 0 0 (.slice none 0 0))
          have hqs : w2.heap.size ≤ ubc.heap.size := HBW.out.size
          replace HBW := Lib.hid (below_via HBW.out hbo)
          replace HLI := Lib.hid (HLI.out.below hbo)
          obtain ⟨q, hq⟩ : ∃ q, q = ubc.heap.size := ⟨_, rfl⟩
          have HQW := Lib.hid (show w2.heap.size ≤ q by omega)
          rw [← hq] at HQ ⊢
          clear hq hqs
          generalize hww : ubc.alloc (.cells #[.int .i64 0, .int .i64 0, .slice none 0 0] 24) = ubci at *
          clear hww
          refine hJ _ _ (fun _ => HSK.out _ HBW.out) ?_
          clear hJ J hbo
          refine anyL_one (i := 4) (by kernel_rfl) rfl (by rfl) fun J hJ => ?_
          go_simp
          refine (HATX.out ubci _ (HB.out.trans (HBW.out.mono HB.out.size)) HLI.out).mono ?_
          rintro e ubcie ⟨l9, rfl, hf, hbo⟩
          have hqq := World.block_lt_of_cell? ubci _ HQ.out.m0
          have hqq : q < ubci.heap.size := hqq
          have hfo := hf.own
          have HNE := Lib.hid (show l9 ≠ q by omega)
          have HP := Lib.hid (hf.turnD (D' := fun b => b ≤ l9 ∨ b = q) (fun b hb hn hd => hd.elim hn (fun e => hn (by omega))))
          clear hqq hfo
          replace HBW := Lib.hid (below_via HBW.out hbo)
          replace HQ := Lib.hid (HQ.out.below hbo)
          refine hJ _ _ (fun _ => HSK.out _ HBW.out) ?_
          clear hJ J hbo hf HLI
          refine anyL_yield (i := 5) rfl (by kernel_rfl) (by kernel_rfl) (by kernel_rfl) (by kernel_rfl) (fun _ _ d _ _ h => by cases d <;> exact h) (by rfl) (HSK.out _ HBW.out) ?_
          apply Exists.intro
          refine ⟨fun u => ?_, ?_⟩
          · go_simp
            rfl
          simp only [Act.put, List.getElem_toArray, List.getElem_cons_zero, List.getElem_cons_succ, List.setIfInBounds_toArray, List.set_cons_zero, List.set_cons_succ]
          refine anyL_yield (i := 6) rfl (by kernel_rfl) (by kernel_rfl) (by kernel_rfl) (by kernel_rfl) (fun _ _ d _ _ h => by cases d <;> exact h) (by rfl) (HSK.out _ HBW.out) ?_
          apply Exists.intro
          refine ⟨fun u => ?_, ?_⟩
          · go_simp
            rfl
          simp only [Act.put, List.getElem_toArray, List.getElem_cons_zero, List.getElem_cons_succ, List.setIfInBounds_toArray, List.set_cons_zero, List.set_cons_succ]
          refine anyL_yield (i := 7) rfl (by kernel_rfl) (by kernel_rfl) (by kernel_rfl) (by kernel_rfl) (fun _ _ d _ _ h => by cases d <;> exact h) (by rfl) (HSK.out _ HBW.out) ?_
          apply Exists.intro
          refine ⟨fun u => ?_, ?_⟩
          · go_simp
            rfl
          simp only [Act.put, List.getElem_toArray, List.getElem_cons_zero, List.getElem_cons_succ, List.setIfInBounds_toArray, List.set_cons_zero, List.set_cons_succ]
          have z0 := HQ.out.m0
          have z1 := HQ.out.m1
          have z2 := HQ.out.m2
          have y0 := HQ.out.f0
          have y1 := HQ.out.f1
          have y2 := HQ.out.f2
          refine anyL_one (i := 9) (by kernel_rfl) rfl (by rfl) fun J hJ => ?_
          go_simp
          refine hJ _ _ (fun e => absurd e (by decide)) ?_
          clear hJ J
          refine anyL_one (i := 10) (by kernel_rfl) rfl (by rfl) fun J hJ => ?_
          go_simp
          refine hJ _ _ (fun e => absurd e (by decide)) ?_
          clear hJ J
          refine anyL_done (by kernel_rfl) ?_ _
          go_wp2_with fail
          go_meet
          have hg := stored3_gb ubcie q (.int .i64 n) (.int .i64 n) (.slice (some ⟨l9, 0, none⟩) N N)
          exact ⟨q, l9, rfl, rfl, ⟨HQ.out.store (r' := n) (c' := n) (v' := .slice (some ⟨l9, 0, none⟩) N N), (HP.out.grown hg HNE.out (Or.inr rfl)).lee (Nat.le_refl _) (Nat.le_refl _) (by omega)⟩, HBW.out.grown hg HBW.out.size (fun k hk => by injection hk with hk; have := HQW.out; omega)⟩
      · go_simp
        have hbo : Below ub.heap.size ub (ub.alloc (.cells #[.int .i64 0, .int .i64 0, .slice none 0 0] 24)) := bl_alloc ub (.cells #[.int .i64 0, .int .i64 0, .slice none 0 0] 24)
        have HQ := Lib.hid (show MBox (ub.alloc (.cells #[.int .i64 0, .int .i64 0, .slice none 0 0] 24)) ub.heap.size 0 0 (.slice none 0 0) from MBox.new ub 0 0 (.slice none 0 0))
        have hqs : w2.heap.size ≤ ub.heap.size := HBW.out.size
        replace HBW := Lib.hid (below_via HBW.out hbo)
        replace HC0 := Lib.hid (cell_stays hbo HC0.out)
        obtain ⟨q, hq⟩ : ∃ q, q = ub.heap.size := ⟨_, rfl⟩
        have HQW := Lib.hid (show w2.heap.size ≤ q by omega)
        rw [← hq] at HQ ⊢
        clear hq hqs
        generalize hww : ub.alloc (.cells #[.int .i64 0, .int .i64 0, .slice none 0 0] 24) = ubi at *
        clear hww
        refine hJ _ _ (fun _ => HSK.out _ HBW.out) ?_
        clear hJ J hbo
        refine anyL_one (i := 2) (by kernel_rfl) rfl (by rfl) fun J hJ => ?_
        go_simp
        have hbo := bl_alloc ubi (.cells #[.bool false, .slice none 0 0, .bool false, .slice (some ⟨b0, 0, none⟩) 1 1] 49)
        have HLI := Lib.hid (rde_two ubi b0 (rdz_word ubi b0 1 (by omega) (by omega) HC0.out))
        replace HBW := Lib.hid (below_via HBW.out hbo)
        replace HQ := Lib.hid (HQ.out.below hbo)
        obtain ⟨lb0, hlb0⟩ : ∃ lb0, lb0 = ubi.heap.size := ⟨_, rfl⟩
        rw [← hlb0] at HLI ⊢
        clear hlb0
        generalize hww : ubi.alloc (.cells #[.bool false, .slice none 0 0, .bool false, .slice (some ⟨b0, 0, none⟩) 1 1] 49) = ubic at *
        clear hww
        refine hJ _ _ (fun _ => HSK.out _ HBW.out) ?_
        clear hJ J hbo HC0
        refine anyL_one (i := 4) (by kernel_rfl) rfl (by rfl) fun J hJ => ?_
        go_simp
        refine (HATX.out ubic _ (HB.out.trans (HBW.out.mono HB.out.size)) HLI.out).mono ?_
        rintro e ubice ⟨l9, rfl, hf, hbo⟩
        have hqq := World.block_lt_of_cell? ubic _ HQ.out.m0
        have hqq : q < ubic.heap.size := hqq
        have hfo := hf.own
        have HNE := Lib.hid (show l9 ≠ q by omega)
        have HP := Lib.hid (hf.turnD (D' := fun b => b ≤ l9 ∨ b = q) (fun b hb hn hd => hd.elim hn (fun e => hn (by omega))))
        clear hqq hfo
        replace HBW := Lib.hid (below_via HBW.out hbo)
        replace HQ := Lib.hid (HQ.out.below hbo)
        refine hJ _ _ (fun _ => HSK.out _ HBW.out) ?_
        clear hJ J hbo hf HLI
        refine anyL_yield (i := 5) rfl (by kernel_rfl) (by kernel_rfl) (by kernel_rfl) (by kernel_rfl) (fun _ _ d _ _ h => by cases d <;> exact h) (by rfl) (HSK.out _ HBW.out) ?_
        apply Exists.intro
        refine ⟨fun u => ?_, ?_⟩
        · go_simp
          rfl
        simp only [Act.put, List.getElem_toArray, List.getElem_cons_zero, List.getElem_cons_succ, List.setIfInBounds_toArray, List.set_cons_zero, List.set_cons_succ]
        refine anyL_yield (i := 6) rfl (by kernel_rfl) (by kernel_rfl) (by kernel_rfl) (by kernel_rfl) (fun _ _ d _ _ h => by cases d <;> exact h) (by rfl) (HSK.out _ HBW.out) ?_
        apply Exists.intro
        refine ⟨fun u => ?_, ?_⟩
        · go_simp
          rfl
        simp only [Act.put, List.getElem_toArray, List.getElem_cons_zero, List.getElem_cons_succ, List.setIfInBounds_toArray, List.set_cons_zero, List.set_cons_succ]
        refine anyL_yield (i := 7) rfl (by kernel_rfl) (by kernel_rfl) (by kernel_rfl) (by kernel_rfl) (fun _ _ d _ _ h => by cases d <;> exact h) (by rfl) (HSK.out _ HBW.out) ?_
        apply Exists.intro
        refine ⟨fun u => ?_, ?_⟩
        · go_simp
          rfl
        simp only [Act.put, List.getElem_toArray, List.getElem_cons_zero, List.getElem_cons_succ, List.setIfInBounds_toArray, List.set_cons_zero, List.set_cons_succ]
        have z0 := HQ.out.m0
        have z1 := HQ.out.m1
        have z2 := HQ.out.m2
        have y0 := HQ.out.f0
        have y1 := HQ.out.f1
        have y2 := HQ.out.f2
        refine anyL_one (i := 9) (by kernel_rfl) rfl (by rfl) fun J hJ => ?_
        go_simp
        refine hJ _ _ (fun e => absurd e (by decide)) ?_
        clear hJ J
        refine anyL_one (i := 10) (by kernel_rfl) rfl (by rfl) fun J hJ => ?_
        go_simp
        refine hJ _ _ (fun e => absurd e (by decide)) ?_
        clear hJ J
        refine anyL_done (by kernel_rfl) ?_ _
        go_wp2_with fail
        go_meet
        have hg := stored3_gb ubice q (.int .i64 n) (.int .i64 n) (.slice (some ⟨l9, 0, none⟩) N N)
        exact ⟨q, l9, rfl, rfl, ⟨HQ.out.store (r' := n) (c' := n) (v' := .slice (some ⟨l9, 0, none⟩) N N), (HP.out.grown hg HNE.out (Or.inr rfl)).lee (Nat.le_refl _) (Nat.le_refl _) (by omega)⟩, HBW.out.grown hg HBW.out.size (fun k hk => by injection hk with hk; have := HQW.out; omega)⟩
    · go_simp
      have hbo : Below w2.drew.heap.size w2.drew ((w2.alloc (.cells #[.int .i64 0, .int .i64 0, .slice none 0 0] 24)).drew) := bl_alloc w2.drew (.cells #[.int .i64 0, .int .i64 0, .slice none 0 0] 24)
      have HQ := Lib.hid (show MBox ((w2.alloc (.cells #[.int .i64 0, .int .i64 0, .slice none 0 0] 24)).drew) w2.heap.size 0 0 (.slice none 0 0) from MBox.new w2.drew 0 0 (.slice none 0 0))
      have hqs : w2.heap.size ≤ w2.heap.size := HBW.out.size
      replace HBW := Lib.hid (below_via HBW.out hbo)
      obtain ⟨q, hq⟩ : ∃ q, q = w2.heap.size := ⟨_, rfl⟩
      have HQW := Lib.hid (show w2.heap.size ≤ q by omega)
      rw [← hq] at HQ ⊢
      clear hq hqs
      generalize hww : (w2.alloc (.cells #[.int .i64 0, .int .i64 0, .slice none 0 0] 24)).drew = ui at *
      clear hww
      refine hJ _ _ (fun _ => HSK.out _ HBW.out) ?_
      clear hJ J hbo
      refine anyL_one (i := 1) (by kernel_rfl) rfl (by rfl) fun J hJ => ?_
      go_simp
      refine (of16_any 1 ui).mono ?_
      rintro e uib ⟨b0, rfl, hc0, -, -, hbo⟩
      replace HBW := Lib.hid (below_via HBW.out hbo)
      replace HQ := Lib.hid (HQ.out.below hbo)
      have HC0 := Lib.hid hc0
      refine hJ _ _ (fun _ => HSK.out _ HBW.out) ?_
      clear hJ J hbo hc0
      refine anyL_one (i := 2) (by kernel_rfl) rfl (by rfl) fun J hJ => ?_
      go_simp
      have hbo := bl_alloc uib (.cells #[.bool false, .slice none 0 0, .bool false, .slice (some ⟨b0, 0, none⟩) 1 1] 49)
      have HLI := Lib.hid (rde_two uib b0 (rdz_word uib b0 1 (by omega) (by omega) HC0.out))
      replace HBW := Lib.hid (below_via HBW.out hbo)
      replace HQ := Lib.hid (HQ.out.below hbo)
      obtain ⟨lb0, hlb0⟩ : ∃ lb0, lb0 = uib.heap.size := ⟨_, rfl⟩
      rw [← hlb0] at HLI ⊢
      clear hlb0
      generalize hww : uib.alloc (.cells #[.bool false, .slice none 0 0, .bool false, .slice (some ⟨b0, 0, none⟩) 1 1] 49) = uibc at *
      clear hww
      refine hJ _ _ (fun _ => HSK.out _ HBW.out) ?_
      clear hJ J hbo HC0
      refine anyL_one (i := 4) (by kernel_rfl) rfl (by rfl) fun J hJ => ?_
      go_simp
      refine (HATX.out uibc _ (HB.out.trans (HBW.out.mono HB.out.size)) HLI.out).mono ?_
      rintro e uibce ⟨l9, rfl, hf, hbo⟩
      have hqq := World.block_lt_of_cell? uibc _ HQ.out.m0
      have hqq : q < uibc.heap.size := hqq
      have hfo := hf.own
      have HNE := Lib.hid (show l9 ≠ q by omega)
      have HP := Lib.hid (hf.turnD (D' := fun b => b ≤ l9 ∨ b = q) (fun b hb hn hd => hd.elim hn (fun e => hn (by omega))))
      clear hqq hfo
      replace HBW := Lib.hid (below_via HBW.out hbo)
      replace HQ := Lib.hid (HQ.out.below hbo)
      refine hJ _ _ (fun _ => HSK.out _ HBW.out) ?_
      clear hJ J hbo hf HLI
      refine anyL_yield (i := 5) rfl (by kernel_rfl) (by kernel_rfl) (by kernel_rfl) (by kernel_rfl) (fun _ _ d _ _ h => by cases d <;> exact h) (by rfl) (HSK.out _ HBW.out) ?_
      apply Exists.intro
      refine ⟨fun u => ?_, ?_⟩
      · go_simp
        rfl
      simp only [Act.put, List.getElem_toArray, List.getElem_cons_zero, List.getElem_cons_succ, List.setIfInBounds_toArray, List.set_cons_zero, List.set_cons_succ]
      refine anyL_yield (i := 6) rfl (by kernel_rfl) (by kernel_rfl) (by kernel_rfl) (by kernel_rfl) (fun _ _ d _ _ h => by cases d <;> exact h) (by rfl) (HSK.out _ HBW.out) ?_
      apply Exists.intro
      refine ⟨fun u => ?_, ?_⟩
      · go_simp
        rfl
      simp only [Act.put, List.getElem_toArray, List.getElem_cons_zero, List.getElem_cons_succ, List.setIfInBounds_toArray, List.set_cons_zero, List.set_cons_succ]
      refine anyL_yield (i := 7) rfl (by kernel_rfl) (by kernel_rfl) (by kernel_rfl) (by kernel_rfl) (fun _ _ d _ _ h => by cases d <;> exact h) (by rfl) (HSK.out _ HBW.out) ?_
      apply Exists.intro
      refine ⟨fun u => ?_, ?_⟩
      · go_simp
        rfl
      simp only [Act.put, List.getElem_toArray, List.getElem_cons_zero, List.getElem_cons_succ, List.setIfInBounds_toArray, List.set_cons_zero, List.set_cons_succ]
      have z0 := HQ.out.m0
      have z1 := HQ.out.m1
      have z2 := HQ.out.m2
      have y0 := HQ.out.f0
      have y1 := HQ.out.f1
      have y2 := HQ.out.f2
      refine anyL_one (i := 9) (by kernel_rfl) rfl (by rfl) fun J hJ => ?_
      go_simp
      refine hJ _ _ (fun e => absurd e (by decide)) ?_
      clear hJ J
      refine anyL_one (i := 10) (by kernel_rfl) rfl (by rfl) fun J hJ => ?_
      go_simp
      refine hJ _ _ (fun e => absurd e (by decide)) ?_
      clear hJ J
      refine anyL_done (by kernel_rfl) ?_ _
      go_wp2_with fail
      go_meet
      have hg := stored3_gb uibce q (.int .i64 n) (.int .i64 n) (.slice (some ⟨l9, 0, none⟩) N N)
      exact ⟨q, l9, rfl, rfl, ⟨HQ.out.store (r' := n) (c' := n) (v' := .slice (some ⟨l9, 0, none⟩) N N), (HP.out.grown hg HNE.out (Or.inr rfl)).lee (Nat.le_refl _) (Nat.le_refl _) (by omega)⟩, HBW.out.grown hg HBW.out.size (fun k hk => by injection hk with hk; have := HQW.out; omega)⟩
  case rest =>
  obtain ⟨q9, l9, rfl, rfl, hmv, hbo⟩ := hcut
  have HX9 := Lib.hid hmv
  replace HM := Lib.hid (HM.out.below hbo)
  replace HB := Lib.hid (below_via HB.out hbo)
  clear hbo hmv HATX
  have x0 := HM.out.m0
  have x1 := HM.out.m1
  have x2 := HM.out.m2
  go_wp2_with fail
  (refine (HLE.out _ HB.out).mono ?_)
  rintro e w3 ⟨l11, rfl, hf, hbo⟩
  clear x0 x1 x2
  have hmn := MatV.new (n := n) hf (by omega)
  have hbb := below_via hbo (bl_alloc w3 (.cells #[.int .i64 n, .int .i64 n, .slice (some ⟨l11, 0, none⟩) N N] 24))
  replace HM := Lib.hid (HM.out.below hbb)
  replace HX9 := Lib.hid (HX9.out.below hbb)
  replace HB := Lib.hid (below_via HB.out hbb)
  have HX11 := Lib.hid hmn
  clear hf hbo hmn hbb
  go_upto_region 6 with fail
  obtain ⟨q11, hqq⟩ : ∃ q, q = w3.heap.size := ⟨_, rfl⟩
  rw [← hqq] at HX11 ⊢
  clear hqq
  generalize w3.alloc (.cells #[.int .i64 n, .int .i64 n, .slice (some ⟨l11, 0, none⟩) N N] 24) = vw3 at *
  have a0 := HX9.out.m.m0
  have a1 := HX9.out.m.m1
  have a2 := HX9.out.m.m2
  have b0 := HX11.out.m.m0
  have b1 := HX11.out.m.m1
  have b2 := HX11.out.m.m2
  have HSM := Lib.hid (SameMat_yes n n _ _ N A vw3 (HX9.out.e.congr HAX.out) HX11.out.e)
  go_wp2_with fail
  (refine (HSM.out).mono ?_)
  rintro e w4 ⟨rfl, hbo⟩
  replace HM := Lib.hid (HM.out.below hbo)
  replace HB := Lib.hid (below_via HB.out hbo)
  clear hbo HSM HX9 HX11 HAX a0 a1 a2 b0 b1 b2
  have x0 := HM.out.m0
  have x1 := HM.out.m1
  have x2 := HM.out.m2
  go_wp2_with fail
  (refine (HCY.out w4 HB.out).mono ?_)
  rintro e w5 ⟨rfl, hbo⟩
  replace HM := Lib.hid (HM.out.below hbo)
  replace HB := Lib.hid (below_via HB.out hbo)
  clear hbo HCY x0 x1 x2
  have x0 := HM.out.m0
  have x1 := HM.out.m1
  have x2 := HM.out.m2
  go_wp2_with fail
  (refine (HAP.out w5 HB.out).mono ?_)
  rintro e w6 ⟨r1, c1, z1, m1, k1, rfl, -, hbo⟩
  clear x0 x1 x2
  have hbb := below_via hbo (bl_alloc w6 (.cells #[.int .i64 r1, .int .i64 c1, .slice z1 m1 k1] 24))
  replace HM := Lib.hid (HM.out.below hbb)
  replace HB := Lib.hid (below_via HB.out hbb)
  clear hbo hbb
  go_upto_region 9 with fail
  generalize w6.alloc (.cells #[.int .i64 r1, .int .i64 c1, .slice z1 m1 k1] 24) = vw6 at *
  clear HAP
  have x0 := HM.out.m0
  have x1 := HM.out.m1
  have x2 := HM.out.m2
  go_wp2_with fail
  (refine (HAQ.out vw6 HB.out).mono ?_)
  rintro e w7 ⟨r2, c2, z2, m2, k2, rfl, -, hbo⟩
  clear x0 x1 x2
  have hbb := below_via hbo (bl_alloc w7 (.cells #[.int .i64 r2, .int .i64 c2, .slice z2 m2 k2] 24))
  replace HM := Lib.hid (HM.out.below hbb)
  replace HB := Lib.hid (below_via HB.out hbb)
  clear hbo hbb
  go_upto_region 10 with fail
  generalize w7.alloc (.cells #[.int .i64 r2, .int .i64 c2, .slice z2 m2 k2] 24) = vw7 at *
  clear HAQ
  go_wp2_with fail
  (refine (HTP.out vw7 HB.out).mono ?_)
  rintro e w8 ⟨lt, rfl, hf, hbo⟩
  replace HM := Lib.hid (HM.out.below hbo)
  replace HB := Lib.hid (below_via HB.out hbo)
  have HDG := Lib.hid (degree_any (some ⟨lt, 0, none⟩) sp sp (by omega) w8)
  clear hf hbo HTP
  go_wp2_with fail
  (refine (HDG.out).mono ?_)
  rintro e w8b ⟨rfl, rfl⟩
  clear HDG
  go_wp2_with fail
  (refine (HTQ.out w8 HB.out).mono ?_)
  rintro e w9 ⟨lt2, rfl, hf, hbo⟩
  replace HM := Lib.hid (HM.out.below hbo)
  replace HB := Lib.hid (below_via HB.out hbo)
  have HDG := Lib.hid (degree_any (some ⟨lt2, 0, none⟩) sq sq (by omega) w9)
  clear hf hbo HTQ
  go_wp2_with fail
  (refine (HDG.out).mono ?_)
  rintro e w9b ⟨rfl, rfl⟩
  clear HDG
  by_cases h1 : 257 < sp
  · obtain rfl : X1 = 5 := by rw [HX1.out, if_pos h1]
    have g1 : (256 : Int) < (sp : Int) - 1 := by omega
    by_cases h2 : 257 < sq
    · obtain rfl : X2 = 5 := by rw [HX2.out, if_pos h2]
      have g2 : (256 : Int) < (sq : Int) - 1 := by omega
      clear HX1 HX2
      go_wp2_with fail
      go_ret
      exact ⟨rfl, HB.out⟩
    · obtain rfl : X2 = 0 := by rw [HX2.out, if_neg h2]
      have g2 : ¬ (256 : Int) < (sq : Int) - 1 := by omega
      have g3 : (decide ((256 : Int) < (sq : Int) - 1)) = false := decide_eq_false g2
      clear HX1 HX2
      go_wp2_with fail
      go_ret
      exact ⟨rfl, HB.out⟩
  · obtain rfl : X1 = 0 := by rw [HX1.out, if_neg h1]
    have h2 : 257 < sq := by omega
    obtain rfl : X2 = 5 := by rw [HX2.out, if_pos h2]
    have g1 : ¬ (256 : Int) < (sp : Int) - 1 := by omega
    have g3 : (decide ((256 : Int) < (sp : Int) - 1)) = false := decide_eq_false g1
    have g2 : (256 : Int) < (sq : Int) - 1 := by omega
    clear HX1 HX2
    go_wp2_with fail
    go_ret
    exact ⟨rfl, HB.out⟩
end Go.Proofs.Ytejliecmdkmgiaa
