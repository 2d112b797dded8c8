/- The walk of the law CharpolyDets. 'CharpolyDets', where what it reads is of bulk at most 1,048,576: for every matrix a, integer x and number k the law returns true and its arguments read as before. -/
import Derived.Test.YtejliecmdkmgiaaGV
import Derived.Test.YtejliecmdkmgiaaGU
import Derived.Test.YtejliecmdkmgiaaRows
import Derived.Test.YtejliecmdkmgiaaGH
import Derived.ProofKit
import Derived.OpenShut
import Derived.Carry
import Derived.JoinedCond
set_option linter.unusedVariables false
set_option linter.unusedSimpArgs false
namespace Go.Proofs.Ytejliecmdkmgiaa
open Go.RowKit Go.Shelf

/-- an integer of the call's own in a box that may be written over, its words not in the box -/
structure JBox (w : World) (b : Nat) (z : Int) (a : Option Addr) (n c : Nat) : Prop where
  c0 : w.cell? ⟨b, 0, none⟩ = some (.bool (decide (z < 0)))
  c1 : w.cell? ⟨b, 1, none⟩ = some (.slice a n c)
  f0 : w.frozen? ⟨b, 0, none⟩ = false
  f1 : w.frozen? ⟨b, 1, none⟩ = false
  fr : FrZ w 0 (.agg #[.bool (decide (z < 0)), .slice a n c]) z
  sep : (Value.slice a n c).ownBlock ≠ some b
section
variable {w w' u : World} {b base n c : Nat} {z z' : Int} {a : Option Addr}
theorem JBox.below (h : JBox w b z a n c) (hb : Below w.heap.size w w') : JBox w' b z a n c :=
  ⟨cell_stays hb h.c0, cell_stays hb h.c1, froz_stays hb h.c0 h.f0, froz_stays hb h.c1 h.f1, h.fr.below hb, h.sep⟩
theorem FrZ.sep {w w' : World} {base d : Nat} {s : Bool} {m : Value} {z : Int} (h : FrZ w base (.agg #[.bool s, m]) z) (hg : w.grownBy w' (some d)) (hd : m.ownBlock ≠ some d) : FrZ w' base (.agg #[.bool s, m]) z := by
  obtain ⟨m', n, f, e, h1, h2⟩ := h
  simp only [Value.agg.injEq, Array.mk.injEq, List.cons.injEq, and_true] at e
  obtain ⟨e1, rfl⟩ := e
  refine ⟨m, n, f, by rw [e1], h1.grown hg (Or.inr hd), h2⟩
theorem JBox.put (h : JBox w b z a n c) {a' : Option Addr} {n' c' : Nat} (hf : FrZ w base (.agg #[.bool (decide (z' < 0)), .slice a' n' c']) z') (hs : (Value.slice a' n' c').ownBlock ≠ some b) :
    JBox ((w.setCell ⟨b, 0, none⟩ (.bool (decide (z' < 0)))).setCell ⟨b, 1, none⟩ (.slice a' n' c')) b z' a' n' c' := by
  have ne : (⟨b, 0, none⟩ : Addr) ≠ ⟨b, 1, none⟩ := fun e => by injection e with _ e _; omega
  refine ⟨?_, ?_, ?_, ?_, (hf.mono (Nat.zero_le _)).sep (gb_two w b 0 1 (.bool (decide (z' < 0))) (.slice a' n' c')) hs, hs⟩
  · rw [World.cell?_setCell_other _ _ _ _ (fun e => ne e.symm)]
    exact World.cell?_setCell_same _ _ _ h.c0
  · refine World.cell?_setCell_same _ _ _ (u := .slice a n c) ?_
    rw [World.cell?_setCell_other _ _ _ _ ne]; exact h.c1
  · rw [World.frozen?_setCell, World.frozen?_setCell]; exact h.f0
  · rw [World.frozen?_setCell, World.frozen?_setCell]; exact h.f1
theorem JBox.new (hf : FrZ w base (.agg #[.bool (decide (z < 0)), .slice a n c]) z) : JBox (w.alloc (.cells #[.bool (decide (z < 0)), .slice a n c] 49)) w.heap.size z a n c := by
  obtain ⟨k0, k1, k2, k3⟩ := two_cells w (.bool (decide (z < 0))) (.slice a n c) 49
  refine ⟨k0, k1, k2, k3, (hf.mono (Nat.zero_le _)).below (bl_alloc _ _), fun e => ?_⟩
  obtain ⟨a', n', c', e2, ho⟩ := hf.agg
  simp only [Value.agg.injEq, Array.mk.injEq, List.cons.injEq, and_true, true_and] at e2
  rw [e2] at e
  have := (ho _ e).2
  omega
/-- where a new number's words lie -/
theorem FrZ.own_ge {s : Bool} {m : Value} (h : FrZ w base (.agg #[.bool s, m]) z) {k : Nat} (e : m.ownBlock = some k) : base ≤ k := by
  obtain ⟨a', n', c', e2, ho⟩ := h.agg
  simp only [Value.agg.injEq, Array.mk.injEq, List.cons.injEq, and_true] at e2
  rw [e2.2] at e
  exact (ho _ e).1
end

theorem Dets_head (r c : Int) (a : Option Addr) (n cap : Nat) (sx : Bool) (ax : Option Addr) (nx cx : Nat) (k : Int) (hn : n ≤ 17592186044416) (h0 : sqE r c n ≠ 0) (w : World) :
    Calls Try.prog 6 #[.agg #[.int .i64 r, .int .i64 c, .slice a n cap], .agg #[.bool sx, .slice ax nx cx], .int .i64 k] w fun e w' => e = .returned (.bool true) ∧ Below w.heap.size w w' := by
  have hb1 := bl_alloc w (.cells #[.int .i64 r, .int .i64 c, .slice a n cap] 24)
  have hb2 := bl_alloc (w.alloc (.cells #[.int .i64 r, .int .i64 c, .slice a n cap] 24)) (.cells #[.bool sx, .slice ax nx cx] 49)
  have hbx := (MBox.new w r c (.slice a n cap)).below hb2
  have HRF := Lib.hid (fun (u : World) => refused16_bad r c a n cap hn h0 u)
  have HB := Lib.hid (below_via hb1 hb2)
  have x0 := hbx.m0
  have x1 := hbx.m1
  have x2 := hbx.m2
  clear hb1 hb2 hbx h0
  go_enter Try.func6, Try.ntmps6
  go_upto_region 1 with fail
  generalize (w.alloc (.cells #[.int .i64 r, .int .i64 c, .slice a n cap] 24)).alloc (.cells #[.bool sx, .slice ax nx cx] 49) = W at *
  go_wp2_with fail
  (refine (HRF.out W).mono ?_)
  rintro e w1 ⟨rfl, hb1⟩
  replace HB := Lib.hid (below_via HB.out hb1)
  clear hb1 HRF x0 x1 x2
  go_wp2_with fail
  (refine (awake16_any w1).mono ?_)
  rintro e w2 ⟨rfl, hb2⟩
  replace HB := Lib.hid (below_via HB.out hb2)
  clear hb2
  go_wp2_with fail
  (refine (awake16_any w2).mono ?_)
  rintro e w3 ⟨rfl, hb3⟩
  replace HB := Lib.hid (below_via HB.out hb3)
  clear hb3
  go_wp2_with fail
  go_ret
  exact ⟨rfl, HB.out⟩

set_option maxHeartbeats 8000000 in
set_option maxRecDepth 100000 in
theorem Dets_good (n S X : Nat) (sl xv : Value) (A : Nat → Int) (x kk : Int) (w : World) (hn : n ≤ 64) (hS : S ≤ 1048576) (hX : X ≤ 1048576) (hr : RdE w sl (n * n) A) (hA : ∀ q, q < n * n → ZB S (A q)) (hv : RdZ w xv x) (hx : ZB X x) (hkk : -9223372036854775808 ≤ kk ∧ kk ≤ 9223372036854775807) :
    Calls Try.prog 6 #[.agg #[.int .i64 n, .int .i64 n, sl], xv, .int .i64 kk] w fun e w' => e = .returned (.bool true) ∧ Below w.heap.size w w' := by
  have hmix : Try.prog.follows .mixedOrders = true := by kernel_rfl
  have hK4 : n * n ≤ 4096 := Nat.mul_le_mul hn hn
  obtain ⟨a, cap, rfl, hcap⟩ := hr.slice
  obtain ⟨sx, ax, nx, cx, fx, rfl, -⟩ := hv.parts
  have hrf := fun (u : World) (hu : Below w.heap.size w u) => refused16_good n S _ A u hn (by omega) (hr.below hu) hA
  have hvd := fun (u : World) (hu : Below w.heap.size w u) => valueIsDet_yes n S X _ _ A x u hn (by omega) (by omega) (hr.below hu) hA (hv.below hu) hx
  have htg := fun (k : Nat) (hk : k ≤ 256) (u : World) (hu : Below w.heap.size w u) => Traces_good n k S _ A u hn hk (by omega) (hr.below hu) hA
  have hch := fun (u : World) (hu : Below w.heap.size w u) => Char_good n S _ A u hn (by omega) (hr.below hu) hA
  have hfz : ∀ i, ZB (64 * (S + 1) + 1) (flq n (mtx n A) i) := fun i => by
    by_cases h : i ≤ n
    · exact (flC_zb hn (mtx_zb hA) i).2.1.mono (Nat.succ_le_succ (Nat.mul_le_mul_right _ (by omega)))
    · rw [flq_zero _ (by omega)]; exact zb_nil _
  have htz := fun (i : Nat) (hi : i < 256) => trP_zb hn (mtx_zb hA) hi
  have hpz := fun (t : Nat) (ht : t ≤ 256) i j hi hj => (pw_zb hn (mtx_zb hA) t i j hi hj).mono (show t * (S + 1) + 1 ≤ 256 * (S + 1) + 1 from Nat.succ_le_succ (Nat.mul_le_mul_right _ ht))
  obtain ⟨T, hT⟩ : ∃ T, T = 256 * (S + 1) + 1 := ⟨_, rfl⟩
  obtain ⟨P, hP⟩ : ∃ P, P = 64 * (S + 1) + 1 := ⟨_, rfl⟩
  have hT2 : T ≤ 268435969 := by omega
  have hP2 : P ≤ 67108929 := by omega
  rw [← hT] at htz hpz
  rw [← hP] at hfz
  have hnz := fun (i : Nat) (hi : i ≤ 256) (j : Nat) (hj : j ≤ i) => (newt_zb hfz htz hi j hj).mono (show T + 1 + P + 2 + j ≤ T + P + 259 by omega)
  clear hT hP
  obtain ⟨N, hN⟩ : ∃ N, N = n * n := ⟨_, rfl⟩
  have hb1 := bl_alloc w (.cells #[.int .i64 n, .int .i64 n, .slice a N cap] 24)
  have hb2 := bl_alloc (w.alloc (.cells #[.int .i64 n, .int .i64 n, .slice a N cap] 24)) (.cells #[.bool sx, .slice ax nx cx] 49)
  have hbx := (MBox.new w n n (.slice a N cap)).below hb2
  have hs1 : (w.alloc (.cells #[.int .i64 n, .int .i64 n, .slice a N cap] 24)).heap.size = w.heap.size + 1 := by simp
  obtain ⟨c0, c1, -, -⟩ := two_cells (w.alloc (.cells #[.int .i64 n, .int .i64 n, .slice a N cap] 24)) (.bool sx) (.slice ax nx cx) 49
  rw [hs1] at c0 c1
  rw [← hN] at hK4
  simp only [← hN] at hrf hvd htg hch ⊢
  have HRF := Lib.hid hrf
  have HVD := Lib.hid hvd
  have HTG := Lib.hid htg
  have HCH := Lib.hid hch
  have HFZ := Lib.hid hfz
  have HTZ := Lib.hid htz
  have HPZ := Lib.hid hpz
  have HNZ := Lib.hid hnz
  have HB := Lib.hid (below_via hb1 hb2)
  have HM := Lib.hid hbx
  have HR := Lib.hid hr
  have HA := Lib.hid hA
  have HN := Lib.hid hN
  have HTA := Lib.hid (fun (u : World) (hk : kk < 0 ∨ (0 ≤ kk ∧ 256 < kk)) => Traces_arg n kk a N cap u hn hN hk)
  have x0 := hbx.m0
  have x1 := hbx.m1
  have x2 := hbx.m2
  clear hr hA hv hx hrf hvd htg hch hfz htz hpz hnz hb1 hb2 hbx hs1 hN
  go_enter Try.func6, Try.ntmps6
  go_upto_region 1 with fail
  generalize (w.alloc (.cells #[.int .i64 n, .int .i64 n, .slice a N cap] 24)).alloc (.cells #[.bool sx, .slice ax nx cx] 49) = W at *
  go_wp2_with fail
  (refine (HRF.out W HB.out).mono ?_)
  rintro e w1 ⟨rfl, hb1⟩
  replace HB := Lib.hid (below_via HB.out hb1)
  replace HM := Lib.hid (HM.out.below hb1)
  replace c0 := cell_stays hb1 c0
  replace c1 := cell_stays hb1 c1
  clear hb1 HRF x0 x1 x2
  go_wp2_with fail
  (refine (awake16_any w1).mono ?_)
  rintro e w2 ⟨rfl, hb2⟩
  replace HB := Lib.hid (below_via HB.out hb2)
  replace HM := Lib.hid (HM.out.below hb2)
  replace c0 := cell_stays hb2 c0
  replace c1 := cell_stays hb2 c1
  clear hb2
  have x0 := HM.out.m0
  have x1 := HM.out.m1
  have x2 := HM.out.m2
  go_wp2_with fail
  (refine (HVD.out w2 HB.out).mono ?_)
  rintro e w3 ⟨rfl, hb3⟩
  replace HB := Lib.hid (below_via HB.out hb3)
  replace HM := Lib.hid (HM.out.below hb3)
  clear hb3 HVD x0 x1 x2 c0 c1
  have x0 := HM.out.m0
  have x1 := HM.out.m1
  have x2 := HM.out.m2
  by_cases hk : kk < 0 ∨ (0 ≤ kk ∧ 256 < kk)
  · have HT1 := Lib.hid (HTA.out w3 hk)
    go_wp2_with fail
    (refine HT1.out.mono ?_)
    rintro e w4 ⟨rfl, hb4⟩
    replace HB := Lib.hid (below_via HB.out hb4)
    clear hb4 HT1 x0 x1 x2
    rcases hk with hk | ⟨hk, hk2⟩
    · go_wp2_with fail
      go_ret
      exact ⟨rfl, HB.out⟩
    · have hk3 : ¬ kk < 0 := by omega
      go_wp2_with fail
      go_ret
      exact ⟨rfl, HB.out⟩
  · obtain ⟨k, rfl⟩ := Int.eq_ofNat_of_zero_le (show 0 ≤ kk by omega)
    have hk256 : k ≤ 256 := by omega
    have hk1 : ¬ (k : Int) < 0 := by omega
    have hk2 : ¬ (256 : Int) < (k : Int) := by omega
    have HT1 := Lib.hid (HTG.out k hk256 w3 HB.out)
    clear hk hkk HTA HTG
    go_wp2_with fail
    (refine HT1.out.mono ?_)
    rintro e w4 ⟨vl, rfl, hrl, hb4⟩
    obtain ⟨al, cl, rfl, -⟩ := hrl.slice
    have RL := Lib.hid hrl
    replace HB := Lib.hid (below_via HB.out hb4)
    replace HM := Lib.hid (HM.out.below hb4)
    clear hb4 HT1 hrl x0 x1 x2
    have x0 := HM.out.m0
    have x1 := HM.out.m1
    have x2 := HM.out.m2
    have HC := Lib.hid (HCH.out w4 HB.out)
    go_wp2_with fail
    (refine HC.out.mono ?_)
    rintro e w5 ⟨lp, rfl, hf5, hb5⟩
    have LP := Lib.hid (show LeE _ _ _ (chE n A) from hf5.lee (Nat.le_refl _) (Nat.le_refl _) (by omega))
    replace RL := Lib.hid (RL.out.below hb5)
    replace HB := Lib.hid (below_via HB.out hb5)
    replace HM := Lib.hid (HM.out.below hb5)
    clear hf5 hb5 HC HCH x0 x1 x2
    have wn : IntKind.i64.wrap ((n : Int) + 1) = (n : Int) + 1 := IntWalk.i64_in _ (by omega)
    go_wp2_with fail
    (refine (Unit_good n w5 hn).mono ?_)
    rintro e w6 ⟨lu, rfl, hf6, hb6⟩
    have hba := bl_alloc w6 (.cells #[.int .i64 n, .int .i64 n, .slice (some ⟨lu, 0, none⟩) (n * n) (n * n)] 24)
    have HU := Lib.hid (MBox.new w6 n n (.slice (some ⟨lu, 0, none⟩) (n * n) (n * n)))
    have RU := Lib.hid (RdE.congr (F := flat n (pw n (mtx n A) 0)) ((hf6.rd (Nat.le_refl _) (by have := HN.out; omega)).below hba) (fun q _ => by
      show unitE (q / n) (q % n) = laZ.idm (q / n) (q % n)
      unfold unitE laZ.idm
      by_cases e : q / n = q % n
      · rw [if_pos e, if_pos e.symm]
      · rw [if_neg e, if_neg (fun e' => e e'.symm)]))
    have HB5 := Lib.hid (below_via hb6 hba)
    have HUB := Lib.hid (show w5.heap.size ≤ w6.heap.size from hb6.size)
    clear hf6 hb6 hba
    go_upto_region 16 with fail
    obtain ⟨ub, hub⟩ : ∃ ub, ub = w6.heap.size := ⟨_, rfl⟩
    rw [← hub] at HU HUB ⊢
    clear hub
    generalize w6.alloc (.cells #[.int .i64 n, .int .i64 n, .slice (some ⟨lu, 0, none⟩) (n * n) (n * n)] 24) = w7 at *
    go_wp2_with fail
    go_loopw [16] (fun iv wr => ∃ (t lb : Nat), t ≤ k ∧ iv = .int .i64 ((t : Int) + 1) ∧ Below w5.heap.size w5 wr ∧ MBox wr ub n n (.slice (some ⟨lb, 0, none⟩) (n * n) (n * n)) ∧ RdE wr (.slice (some ⟨lb, 0, none⟩) (n * n) (n * n)) (n * n) (flat n (pw n (mtx n A) t))) (fun iv _ => k + 1 - (intOf iv).toNat)
    case atStart => exact ⟨0, lu, Nat.zero_le _, rfl, HB5.out, HU.out, RU.out⟩
    case round =>
      clear HU RU HB5
      obtain ⟨t, lb, ht, rfl, hbl, hmb, hrd⟩ := hrel
      by_cases htk : t < k
      · have hle : (t : Int) + 1 ≤ (k : Int) := by omega
        have w1 : IntKind.i64.wrap ((t : Int) + 1 + 1) = (t : Int) + 1 + 1 := IntWalk.i64_in _ (by omega)
        have w2 : IntKind.i64.wrap ((t : Int) + 1 - 1) = (t : Int) := by rw [show (t : Int) + 1 - 1 = (t : Int) by omega]; exact IntWalk.i64_in _ (by omega)
        have w3 : IntKind.i64.wrap (t : Int) = (t : Int) := IntWalk.i64_in _ (by omega)
        have hmul := Mul_good n n n T S _ _ (flat n (pw n (mtx n A) t)) A wr hn hn hn (by omega) hrd ((HR.out.below HB.out).below hbl) (flat_zb (HPZ.out t (by omega))) HA.out
        have hma := HM.out.below hbl
        have x0 := hma.m0
        have x1 := hma.m1
        have x2 := hma.m2
        rw [HN.out] at x2
        have m0 := hmb.m0
        have m1 := hmb.m1
        have m2 := hmb.m2
        have HMUL := Lib.hid hmul
        have HMB := Lib.hid hmb
        have HBL := Lib.hid hbl
        clear hmul hmb hbl hrd hma
        go_wp2_with fail
        (refine HMUL.out.mono ?_)
        rintro e w8 ⟨l2, rfl, hf8, hb8⟩
        obtain ⟨hm8, hr8, hg8⟩ := HMB.out.laid (n := n) hb8 (hf8.congr (fun q hq => mul_flat' hq A (pw n (mtx n A) t))) (Nat.le_refl _) (by have := HN.out; omega) n n
        have hm := HMB.out.below hb8
        have m0 := hm.m0
        have m1 := hm.m1
        have m2 := hm.m2
        have f0 := hm.f0
        have f1 := hm.f1
        have f2 := hm.f2
        obtain ⟨wa, hwa⟩ : ∃ wa, wa = ((w8.setCell ⟨ub, 0, none⟩ (.int .i64 n)).setCell ⟨ub, 1, none⟩ (.int .i64 n)).setCell ⟨ub, 2, none⟩ (.slice (some ⟨l2, 0, none⟩) (n * n) (n * n)) := ⟨_, rfl⟩
        replace hg8 : w8.grownBy wa (some ub) := by rw [hwa]; exact hg8
        replace HMB := Lib.hid (show MBox wa ub n n (.slice (some ⟨l2, 0, none⟩) (n * n) (n * n)) by rw [hwa]; exact hm8)
        have RMA := Lib.hid (show RdE wa (.slice (some ⟨l2, 0, none⟩) (n * n) (n * n)) (n * n) (flat n (pw n (mtx n A) (t + 1))) by rw [hwa]; exact hr8)
        have hb9 := HBL.out.trans (hb8.mono HBL.out.size)
        replace HBL := Lib.hid (hb9.grown hg8 hb9.size (fun j hj => by injection hj with hj; have := HUB.out; omega))
        clear hf8 hb8 hm8 hr8 hg8 hm hb9 HMUL x0 x1 x2
        go_upto_region 20 with fail
        rw [← hwa]
        clear hwa m0 m1 m2 f0 f1 f2
        have m0 := HMB.out.m0
        have m1 := HMB.out.m1
        have m2 := HMB.out.m2
        have htr := Trace_good n T _ _ wa hn (by omega) RMA.out (flat_zb (HPZ.out (t + 1) (by omega)))
        rw [tr_flat] at htr
        have HTR := Lib.hid (show Calls Try.prog 34 #[.agg #[.int .i64 n, .int .i64 n, .slice (some ⟨l2, 0, none⟩) (n * n) (n * n)]] wa fun e w' => ∃ v, e = .returned (.tuple #[v, .int .i64 0]) ∧ FrZ w' wa.heap.size v (trP n (mtx n A) t) ∧ Below wa.heap.size wa w' from htr)
        clear htr
        obtain ⟨τ, hτ⟩ : ∃ τ, τ = trP n (mtx n A) t := ⟨_, rfl⟩
        rw [← hτ] at HTR
        go_wp2_with fail
        (refine HTR.out.mono ?_)
        rintro e wb ⟨v, rfl, hfb, hbb⟩
        have hzb := hfb.rd (show ZB (T + 1) τ by rw [hτ]; exact HTZ.out t (by omega)) (by omega)
        obtain ⟨ab, nb, cb, rfl, -⟩ := hfb.agg
        have hbc := bl_alloc wb (.cells #[.bool (decide (τ < 0)), .slice ab nb cb] 49)
        obtain ⟨y0, y1, -, -⟩ := two_cells wb (.bool (decide (τ < 0))) (.slice ab nb cb) 49
        have hbd := below_via hbb hbc
        have HZB := Lib.hid (hzb.below hbc)
        replace HMB := Lib.hid (HMB.out.below hbd)
        replace RMA := Lib.hid (RMA.out.below hbd)
        replace HBL := Lib.hid (HBL.out.trans (hbd.mono HBL.out.size))
        have HTA := Lib.hid hτ
        clear hfb hbb hzb hbc hbd hτ HTR m0 m1 m2
        go_upto_region 21 with fail
        obtain ⟨tb, htb⟩ : ∃ tb, tb = wb.heap.size := ⟨_, rfl⟩
        rw [← htb] at y0 y1 ⊢
        clear htb
        generalize wb.alloc (.cells #[.bool (decide (τ < 0)), .slice ab nb cb] 49) = wc at *
        obtain ⟨bl, ol, sl', ml, rfl, d1, d2, d3⟩ := (RL.out.below HBL.out).get htk
        have hcm := zCmp_eq _ _ τ wc.drew (by rw [HTA.out]; exact d3.below (bl_drew _)) (HZB.out.below (bl_drew _))
        have htk1 : (t : Int) < (k : Int) := by omega
        have HCM := Lib.hid hcm
        obtain ⟨a3, n3, p3, rfl⟩ := d3.agg
        clear hcm d3 HZB
        refine region_early (fun u => u.cell? ⟨bl, ol + t * 2, none⟩ = some (.bool sl') ∧ u.cell? ⟨bl, ol + t * 2 + 1, none⟩ = some (.slice a3 n3 p3) ∧ u.cell? ⟨tb, 0, none⟩ = some (.bool (decide (τ < 0))) ∧ u.cell? ⟨tb, 1, none⟩ = some (.slice ab nb cb)) 8 [0, 1, 2, 3, 4, 5] 2 hmix (by kernel_rfl) rfl (by kernel_rfl) (fun _ _ d _ _ h => by cases d <;> exact h) ⟨d1, d2, y0, y1⟩ ?_
        iterate 6 (refine early_take rfl (by rfl) ?_; apply Exists.intro; refine ⟨fun u hu => ?_, ?_⟩; (obtain ⟨u_1, u_2, u_3, u_4⟩ := hu; go_simp; rfl); simp only [Act.put, List.getElem_toArray, List.getElem_cons_zero, List.getElem_cons_succ, List.setIfInBounds_toArray, List.set_cons_zero, List.set_cons_succ])
        refine early_done ?_
        simp only [marked]
        refine anyL_one (i := 6) (by kernel_rfl) rfl (by rfl) fun J hJ => ?_
        go_simp
        refine HCM.out.mono ?_
        rintro e wd ⟨rfl, hbd⟩
        replace hbd := below_via (bl_drew wc) hbd
        have hS := And.intro (cell_stays hbd d1) (And.intro (cell_stays hbd d2) (And.intro (cell_stays hbd y0) (cell_stays hbd y1)))
        refine hJ _ _ (fun _ => hS) ?_
        replace HMB := Lib.hid (HMB.out.below hbd)
        replace RMA := Lib.hid (RMA.out.below hbd)
        replace HBL := Lib.hid (HBL.out.trans (hbd.mono HBL.out.size))
        clear hJ J hbd HCM y0 y1 d1 d2
        refine anyL_yield (i := 7) rfl (by kernel_rfl) (by kernel_rfl) (by kernel_rfl) (by kernel_rfl) (fun _ _ d _ _ h => by cases d <;> exact h) (by rfl) hS ?_
        apply Exists.intro
        refine ⟨fun u => ?_, ?_⟩
        · go_simp
          rfl
        simp only [Act.put, List.getElem_toArray, List.getElem_cons_zero, List.getElem_cons_succ, List.setIfInBounds_toArray, List.set_cons_zero, List.set_cons_succ]
        refine anyL_done (by kernel_rfl) ?_ _
        clear hS
        go_wp2_with fail
        go_roundw
        case rel => exact ⟨t + 1, l2, by omega, by go_num, HBL.out, HMB.out, RMA.out⟩
        case measure => simp [intOf]; omega
      · obtain rfl : t = k := by omega
        have hle : ¬ (t : Int) + 1 ≤ (t : Int) := by omega
        have HBL := Lib.hid hbl
        clear hbl hmb hrd ht
        go_wp2_with fail
        go_loopw [19] (fun iv wr => ∃ i : Nat, i ≤ t ∧ iv = .int .i64 ((i : Int) + 1) ∧ Below w5.heap.size w5 wr) (fun iv _ => t + 1 - (intOf iv).toNat)
        case atStart => exact ⟨0, Nat.zero_le _, rfl, HBL.out⟩
        case round =>
          clear HBL
          obtain ⟨i0, hi0, rfl, hbl⟩ := hrel
          have HBL := Lib.hid hbl
          clear hbl
          by_cases hit : i0 < t
          · have hle : (i0 : Int) + 1 ≤ (t : Int) := by omega
            obtain ⟨i, hi⟩ : ∃ i, i = i0 + 1 := ⟨_, rfl⟩
            rw [show (i0 : Int) + 1 = (i : Int) by omega] at hle ⊢
            have v1 : IntKind.i64.wrap ((i : Int) + 1) = (i : Int) + 1 := IntWalk.i64_in _ (by omega)
            have hi256 : i ≤ 256 := by omega
            have HN0 := Lib.hid (show newt n (mtx n A) i i = 0 by rw [hi]; exact newt_zero n (mtx n A) i0)
            have hit2 : i ≤ t := by omega
            have HI := Lib.hid hi
            clear hi
            obtain ⟨ζ, hζ⟩ : ∃ ζ : Int, ζ = 0 := ⟨_, rfl⟩
            have hof := zOf_fr 0 (by omega) (by omega) wr
            have HOF := Lib.hid (show Calls Try.prog 36 #[.int .i64 0] wr fun e w' => ∃ v, e = .returned v ∧ FrZ w' wr.heap.size v ζ ∧ Below wr.heap.size wr w' by rw [hζ]; exact hof)
            have HZT := Lib.hid hζ
            clear hof hζ
            go_wp2_with fail
            (refine HOF.out.mono ?_)
            rintro e we ⟨v, rfl, hfe, hbe⟩
            obtain ⟨ae, ne, pe, rfl, -⟩ := hfe.agg
            have hbf := bl_alloc we (.cells #[.bool (decide (ζ < 0)), .slice ae ne pe] 49)
            have HJ := Lib.hid (JBox.new hfe)
            have HSB := Lib.hid (show w5.heap.size ≤ we.heap.size from Nat.le_trans HBL.out.size hbe.size)
            replace HBL := Lib.hid (HBL.out.trans ((below_via hbe hbf).mono HBL.out.size))
            clear hfe hbe hbf HOF
            go_upto_region 27 with fail
            obtain ⟨sb, hsb⟩ : ∃ sb, sb = we.heap.size := ⟨_, rfl⟩
            rw [← hsb] at HJ HSB ⊢
            clear hsb
            generalize we.alloc (.cells #[.bool (decide (ζ < 0)), .slice ae ne pe] 49) = wf at *
            by_cases hin : i ≤ n
            · have hin1 : (i : Int) ≤ (n : Int) := by omega
              obtain ⟨r, hr⟩ : ∃ r, r = n - i := ⟨_, rfl⟩
              have v2 : IntKind.i64.wrap ((n : Int) - (i : Int)) = (r : Int) := by rw [show (n : Int) - (i : Int) = (r : Int) by omega]; exact IntWalk.i64_in _ (by omega)
              have hrn : (r : Int) < (n : Int) + 1 := by omega
              obtain ⟨bp, op, sp, mp, hpe, e1, e2, e3⟩ := (LP.out.below HBL.out).get (show r < n + 1 by omega)
              injection hpe with hpe
              injection hpe with hpb hpo
              subst hpb
              obtain rfl : op = 0 := hpo.symm
              obtain ⟨a4, n4, p4, rfl⟩ := e3.agg
              have HV0 := Lib.hid (show (i : Int) * chE n A r = newt n (mtx n A) i 0 by
                unfold newt
                rw [if_pos hin]
                show _ = (i : Int) * flq n (mtx n A) i + 0
                rw [Int.add_zero]
                unfold chE
                rw [show n - r = i by omega])
              have hoi := zOf_fr (i : Int) (by omega) (by omega) wf.drew
              have HOI := Lib.hid hoi
              have HE3 := Lib.hid e3.1
              have z0 := HJ.out.c0
              have z1 := HJ.out.c1
              have g0 := HJ.out.f0
              have g1 := HJ.out.f1
              have hsbw : sb < wf.heap.size := World.block_lt_of_cell? wf _ HJ.out.c0
              have HSW := Lib.hid hsbw
              clear hoi e3 hr hsbw
              rw [Nat.zero_add] at e1 e2
              go_wp2_with fail
              refine region_early (fun u => u.cell? ⟨lp, r * 2, none⟩ = some (.bool sp) ∧ u.cell? ⟨lp, r * 2 + 1, none⟩ = some (.slice a4 n4 p4)) 9 [0, 2, 3, 4, 5, 6, 7] 3 hmix (by kernel_rfl) rfl (by kernel_rfl) (fun _ _ d _ _ h => by cases d <;> exact h) ⟨e1, e2⟩ ?_
              iterate 7 (refine early_take rfl (by rfl) ?_; apply Exists.intro; refine ⟨fun u hu => ?_, ?_⟩; (obtain ⟨u_1, u_2⟩ := hu; go_simp; rfl); simp only [Act.put, List.getElem_toArray, List.getElem_cons_zero, List.getElem_cons_succ, List.setIfInBounds_toArray, List.set_cons_zero, List.set_cons_succ])
              refine early_done ?_
              simp only [marked]
              refine anyL_one (i := 1) (by kernel_rfl) rfl (by rfl) fun J hJ => ?_
              go_simp
              refine HOI.out.mono ?_
              rintro e wg ⟨v, rfl, hfg, hbg⟩
              have hbg' := below_via (bl_drew wf) hbg
              have hzg := hfg.rd (show ZB 1 (i : Int) by unfold ZB; rw [Int.pow_succ, Int.pow_zero]; omega) (by omega)
              have hml := zMul_any _ _ (i : Int) (chE n A r) wg hzg (HE3.out.below hbg')
              obtain ⟨ν, hν⟩ : ∃ ν, ν = newt n (mtx n A) i 0 := ⟨_, rfl⟩
              rw [HV0.out, ← hν] at hml
              have HNU := Lib.hid hν
              clear hν
              have HML := Lib.hid hml
              have HBG := Lib.hid hbg'
              refine hJ _ _ (fun _ => ⟨cell_stays hbg' e1, cell_stays hbg' e2⟩) ?_
              clear hJ J hfg hbg hbg' hzg hml HOI HE3
              refine anyL_one (i := 8) (by kernel_rfl) rfl (by rfl) fun J hJ => ?_
              go_simp
              refine HML.out.mono ?_
              rintro e wh ⟨v, rfl, hfh, hbh⟩
              have hbh' := below_via HBG.out hbh
              obtain ⟨a8, n8, p8, rfl, -⟩ := hfh.agg
              have hj8 := HJ.out.below hbh'
              have y0 := hj8.c0
              have y1 := hj8.c1
              have y2 := hj8.f0
              have y3 := hj8.f1
              have hpt := hj8.put hfh (fun e => by have h1 := hfh.own_ge e; have h2 := HBG.out.size; have := HSW.out; omega)
              have hbe := HBL.out.trans (hbh'.mono HBL.out.size)
              refine hJ _ _ (fun _ => ⟨cell_stays hbh' e1, cell_stays hbh' e2⟩) ?_
              replace HBL := Lib.hid (hbe.grown (gb_two wh sb 0 1 (.bool (decide (ν < 0))) (.slice a8 n8 p8)) hbe.size (fun x hx => by injection hx with hx; have := HSB.out; omega))
              replace HJ := Lib.hid hpt
              clear hJ J hfh hbh hbh' hj8 hpt hbe HML HBG e1 e2 z0 z1 g0 g1
              refine anyL_one (i := 9) (by kernel_rfl) rfl (by rfl) fun J hJ => ?_
              go_simp
              refine hJ _ _ (fun e => absurd e (by decide)) ?_
              clear hJ J
              refine anyL_done (by kernel_rfl) ?_ _
              go_upto_region 29 with fail
              generalize (wh.setCell ⟨sb, 0, none⟩ (.bool (decide (ν < 0)))).setCell ⟨sb, 1, none⟩ (.slice a8 n8 p8) = wi at *
              rw [HNU.out] at HJ
              clear y0 y1 y2 y3 v2 hrn
              go_wp2_with fail
              go_loopw [21] (fun jv wr => ∃ (j : Nat) (a' : Option Addr) (n' c' : Nat), j ≤ i ∧ jv = .int .i64 ((j : Int) + 1) ∧ Below w5.heap.size w5 wr ∧ JBox wr sb (newt n (mtx n A) i j) a' n' c') (fun jv _ => i + 1 - (intOf jv).toNat)
              case atStart => exact ⟨0, _, _, _, Nat.zero_le _, rfl, HBL.out, HJ.out⟩
              case round =>
                clear HBL HJ
                obtain ⟨j, a7, n7, p7, hj, rfl, hbl, hjb⟩ := hrel
                have HBL := Lib.hid hbl
                have hns := newt_step n (mtx n A) i j
                obtain ⟨σ, hσ⟩ : ∃ σ, σ = newt n (mtx n A) i j := ⟨_, rfl⟩
                rw [← hσ] at hns hjb
                have HJ := Lib.hid hjb
                have HSG := Lib.hid (show ZB (T + P + 259) σ by rw [hσ]; exact HNZ.out i hi256 j hj)
                have HS := Lib.hid hσ
                have HNS := Lib.hid hns
                clear hbl hns hσ hjb
                by_cases hji : j < i
                · have hle3 : (j : Int) + 1 ≤ (i : Int) := by omega
                  have u0 : IntKind.i64.wrap ((j : Int) + 1 + 1) = (j : Int) + 1 + 1 := IntWalk.i64_in _ (by omega)
                  have u1 : IntKind.i64.wrap ((n : Int) - (i : Int)) = (n : Int) - (i : Int) := IntWalk.i64_in _ (by omega)
                  have u2 : IntKind.i64.wrap ((j : Int) + 1 - 1) = (j : Int) := by rw [show (j : Int) + 1 - 1 = (j : Int) by omega]; exact IntWalk.i64_in _ (by omega)
                  have u5 : IntKind.i64.wrap (j : Int) = (j : Int) := IntWalk.i64_in _ (by omega)
                  by_cases hq : i ≤ n + (j + 1)
                  · obtain ⟨q, hq2⟩ : ∃ q, q = n + (j + 1) - i := ⟨_, rfl⟩
                    have u3 : IntKind.i64.wrap ((n : Int) - (i : Int) + ((j : Int) + 1)) = (q : Int) := by rw [show (n : Int) - (i : Int) + ((j : Int) + 1) = (q : Int) by omega]; exact IntWalk.i64_in _ (by omega)
                    have hge : (0 : Int) ≤ (q : Int) := by omega
                    have hqn : (q : Int) < (n : Int) + 1 := by omega
                    have hjt : (j : Int) < (t : Int) := by omega
                    obtain ⟨bl, ol, sl', ml, rfl, d1, d2, d3⟩ := (RL.out.below HBL.out).get (show j < t by omega)
                    obtain ⟨a3, n3, p3, rfl⟩ := d3.agg
                    obtain ⟨bp, op, sp, mp, hpe, e1, e2, e3⟩ := (LP.out.below HBL.out).get (show q < n + 1 by omega)
                    injection hpe with hpe
                    injection hpe with hpb hpo
                    subst hpb
                    obtain rfl : op = 0 := hpo.symm
                    obtain ⟨a4, n4, p4, rfl⟩ := e3.agg
                    have hval : trP n (mtx n A) j * chE n A q + σ = newt n (mtx n A) i (j + 1) := by
                      rw [HNS.out, if_pos hq, Int.add_comm]
                      show _ = σ + trP n (mtx n A) j * flq n (mtx n A) (i - (j + 1))
                      rw [show i - (j + 1) = n - q by omega]; rfl
                    have hma := zMulAdd_any _ _ _ (trP n (mtx n A) j) (chE n A q) σ (T + 1 + P) wr.drew (by omega) ((HTZ.out j (by omega)).mul (HFZ.out _)) (d3.below (bl_drew _)) (e3.1.below (bl_drew _)) ((HJ.out.fr.rd HSG.out (by omega)).below (bl_drew _))
                    rw [hval] at hma
                    obtain ⟨ν, hν⟩ : ∃ ν, ν = newt n (mtx n A) i (j + 1) := ⟨_, rfl⟩
                    rw [← hν] at hma
                    have HNU := Lib.hid hν
                    clear hν
                    have HMA := Lib.hid hma
                    have z0 := HJ.out.c0
                    have z1 := HJ.out.c1
                    have g0 := HJ.out.f0
                    have g1 := HJ.out.f1
                    have hsbw : sb < wr.heap.size := World.block_lt_of_cell? wr _ HJ.out.c0
                    have HSW := Lib.hid hsbw
                    clear hma hval d3 e3 hq2 hsbw
                    rw [Nat.zero_add] at e1 e2
                    go_wp2_with fail
                    refine region_early (fun u => u.cell? ⟨bl, ol + j * 2, none⟩ = some (.bool sl') ∧ u.cell? ⟨bl, ol + j * 2 + 1, none⟩ = some (.slice a3 n3 p3) ∧ u.cell? ⟨lp, q * 2, none⟩ = some (.bool sp) ∧ u.cell? ⟨lp, q * 2 + 1, none⟩ = some (.slice a4 n4 p4) ∧ u.cell? ⟨sb, 0, none⟩ = some (.bool (decide (σ < 0))) ∧ u.cell? ⟨sb, 1, none⟩ = some (.slice a7 n7 p7)) 15 [0, 1, 2, 3, 4, 5, 6, 7, 8, 9, 10, 11, 12, 13] 2 hmix (by kernel_rfl) rfl (by kernel_rfl) (fun _ _ d _ _ h => by cases d <;> exact h) ⟨d1, d2, e1, e2, z0, z1⟩ ?_
                    iterate 14 (refine early_take rfl (by rfl) ?_; apply Exists.intro; refine ⟨fun u hu => ?_, ?_⟩; (obtain ⟨u_1, u_2, u_3, u_4, u_5, u_6⟩ := hu; go_simp; rfl); simp only [Act.put, List.getElem_toArray, List.getElem_cons_zero, List.getElem_cons_succ, List.setIfInBounds_toArray, List.set_cons_zero, List.set_cons_succ])
                    refine early_done ?_
                    simp only [marked]
                    refine anyL_one (i := 14) (by kernel_rfl) rfl (by rfl) fun J hJ => ?_
                    go_simp
                    refine HMA.out.mono ?_
                    rintro e wd ⟨v, rfl, hfd, hbd⟩
                    have hbd' := below_via (bl_drew wr) hbd
                    obtain ⟨a8, n8, p8, rfl, -⟩ := hfd.agg
                    have hj8 := HJ.out.below hbd'
                    have y0 := hj8.c0
                    have y1 := hj8.c1
                    have y2 := hj8.f0
                    have y3 := hj8.f1
                    have hpt := hj8.put hfd (fun e => by have h1 : wr.heap.size ≤ sb := hfd.own_ge e; have := HSW.out; omega)
                    have hbe := HBL.out.trans (hbd'.mono HBL.out.size)
                    have HBE := Lib.hid (hbe.grown (gb_two wd sb 0 1 (.bool (decide (ν < 0))) (.slice a8 n8 p8)) hbe.size (fun x hx => by injection hx with hx; have := HSB.out; omega))
                    have HPT := Lib.hid hpt
                    refine hJ _ _ (fun _ => ⟨cell_stays hbd' d1, cell_stays hbd' d2, cell_stays hbd' e1, cell_stays hbd' e2, cell_stays hbd' z0, cell_stays hbd' z1⟩) ?_
                    clear hJ J hfd hbd hbd' hj8 hpt hbe HMA HBL HJ d1 d2 e1 e2 z0 z1 g0 g1
                    refine anyL_one (i := 15) (by kernel_rfl) rfl (by rfl) fun J hJ => ?_
                    go_simp
                    refine hJ _ _ (fun e => absurd e (by decide)) ?_
                    clear hJ J
                    refine anyL_done (by kernel_rfl) ?_ _
                    go_wp2_with fail
                    go_roundw
                    case rel => exact ⟨j + 1, a8, n8, p8, by omega, by go_num, HBE.out, by rw [← HNU.out]; exact HPT.out⟩
                    case measure => simp [intOf]; omega
                  · have u3 : IntKind.i64.wrap ((n : Int) - (i : Int) + ((j : Int) + 1)) = (n : Int) - (i : Int) + ((j : Int) + 1) := IntWalk.i64_in _ (by omega)
                    have hge : ¬ (0 : Int) ≤ (n : Int) - (i : Int) + ((j : Int) + 1) := by omega
                    have HEQ := Lib.hid (show newt n (mtx n A) i (j + 1) = σ by rw [HNS.out, if_neg hq, Int.add_zero])
                    go_wp2_with fail
                    go_roundw
                    case rel => exact ⟨j + 1, a7, n7, p7, by omega, by go_num, HBL.out, by rw [HEQ.out]; exact HJ.out⟩
                    case measure => simp [intOf]; omega
                · obtain rfl : i = j := by omega
                  have hle3 : ¬ (i : Int) + 1 ≤ (i : Int) := by omega
                  have hz0 : σ = 0 := by rw [HS.out]; exact HN0.out
                  have hsg := zSign_any _ σ wr (HJ.out.fr.rd HSG.out (by omega))
                  rw [show sgZ σ = 0 by unfold sgZ; rw [if_pos hz0]] at hsg
                  have HSI := Lib.hid hsg
                  have z0 := HJ.out.c0
                  have z1 := HJ.out.c1
                  clear hsg hz0
                  go_wp2_with (go_at_call 39; refine HSI.out.mono ?_; rintro e wd ⟨rfl, hbd⟩)
                  have HBE := Lib.hid (HBL.out.trans (hbd.mono HBL.out.size))
                  clear hbd HSI HBL HJ z0 z1
                  go_wp2_with fail
                  go_roundw
                  case rel => exact ⟨i0 + 1, by omega, by have := HI.out; congr 1; omega, HBE.out⟩
                  case measure => have := HI.out; simp [intOf]; omega
            · have hin1 : ¬ (i : Int) ≤ (n : Int) := by omega
              replace HJ := Lib.hid (show JBox wf sb (newt n (mtx n A) i 0) ae ne pe by
                have h0 : newt n (mtx n A) i 0 = ζ := by
                  unfold newt
                  rw [if_neg hin, HZT.out]; rfl
                rw [h0]; exact HJ.out)
              go_wp2_with fail
              go_loopw [21] (fun jv wr => ∃ (j : Nat) (a' : Option Addr) (n' c' : Nat), j ≤ i ∧ jv = .int .i64 ((j : Int) + 1) ∧ Below w5.heap.size w5 wr ∧ JBox wr sb (newt n (mtx n A) i j) a' n' c') (fun jv _ => i + 1 - (intOf jv).toNat)
              case atStart => exact ⟨0, _, _, _, Nat.zero_le _, rfl, HBL.out, HJ.out⟩
              case round =>
                clear HBL HJ
                obtain ⟨j, a7, n7, p7, hj, rfl, hbl, hjb⟩ := hrel
                have HBL := Lib.hid hbl
                have hns := newt_step n (mtx n A) i j
                obtain ⟨σ, hσ⟩ : ∃ σ, σ = newt n (mtx n A) i j := ⟨_, rfl⟩
                rw [← hσ] at hns hjb
                have HJ := Lib.hid hjb
                have HSG := Lib.hid (show ZB (T + P + 259) σ by rw [hσ]; exact HNZ.out i hi256 j hj)
                have HS := Lib.hid hσ
                have HNS := Lib.hid hns
                clear hbl hns hσ hjb
                by_cases hji : j < i
                · have hle3 : (j : Int) + 1 ≤ (i : Int) := by omega
                  have u0 : IntKind.i64.wrap ((j : Int) + 1 + 1) = (j : Int) + 1 + 1 := IntWalk.i64_in _ (by omega)
                  have u1 : IntKind.i64.wrap ((n : Int) - (i : Int)) = (n : Int) - (i : Int) := IntWalk.i64_in _ (by omega)
                  have u2 : IntKind.i64.wrap ((j : Int) + 1 - 1) = (j : Int) := by rw [show (j : Int) + 1 - 1 = (j : Int) by omega]; exact IntWalk.i64_in _ (by omega)
                  have u5 : IntKind.i64.wrap (j : Int) = (j : Int) := IntWalk.i64_in _ (by omega)
                  by_cases hq : i ≤ n + (j + 1)
                  · obtain ⟨q, hq2⟩ : ∃ q, q = n + (j + 1) - i := ⟨_, rfl⟩
                    have u3 : IntKind.i64.wrap ((n : Int) - (i : Int) + ((j : Int) + 1)) = (q : Int) := by rw [show (n : Int) - (i : Int) + ((j : Int) + 1) = (q : Int) by omega]; exact IntWalk.i64_in _ (by omega)
                    have hge : (0 : Int) ≤ (q : Int) := by omega
                    have hqn : (q : Int) < (n : Int) + 1 := by omega
                    have hjt : (j : Int) < (t : Int) := by omega
                    obtain ⟨bl, ol, sl', ml, rfl, d1, d2, d3⟩ := (RL.out.below HBL.out).get (show j < t by omega)
                    obtain ⟨a3, n3, p3, rfl⟩ := d3.agg
                    obtain ⟨bp, op, sp, mp, hpe, e1, e2, e3⟩ := (LP.out.below HBL.out).get (show q < n + 1 by omega)
                    injection hpe with hpe
                    injection hpe with hpb hpo
                    subst hpb
                    obtain rfl : op = 0 := hpo.symm
                    obtain ⟨a4, n4, p4, rfl⟩ := e3.agg
                    have hval : trP n (mtx n A) j * chE n A q + σ = newt n (mtx n A) i (j + 1) := by
                      rw [HNS.out, if_pos hq, Int.add_comm]
                      show _ = σ + trP n (mtx n A) j * flq n (mtx n A) (i - (j + 1))
                      rw [show i - (j + 1) = n - q by omega]; rfl
                    have hma := zMulAdd_any _ _ _ (trP n (mtx n A) j) (chE n A q) σ (T + 1 + P) wr.drew (by omega) ((HTZ.out j (by omega)).mul (HFZ.out _)) (d3.below (bl_drew _)) (e3.1.below (bl_drew _)) ((HJ.out.fr.rd HSG.out (by omega)).below (bl_drew _))
                    rw [hval] at hma
                    obtain ⟨ν, hν⟩ : ∃ ν, ν = newt n (mtx n A) i (j + 1) := ⟨_, rfl⟩
                    rw [← hν] at hma
                    have HNU := Lib.hid hν
                    clear hν
                    have HMA := Lib.hid hma
                    have z0 := HJ.out.c0
                    have z1 := HJ.out.c1
                    have g0 := HJ.out.f0
                    have g1 := HJ.out.f1
                    have hsbw : sb < wr.heap.size := World.block_lt_of_cell? wr _ HJ.out.c0
                    have HSW := Lib.hid hsbw
                    clear hma hval d3 e3 hq2 hsbw
                    rw [Nat.zero_add] at e1 e2
                    go_wp2_with fail
                    refine region_early (fun u => u.cell? ⟨bl, ol + j * 2, none⟩ = some (.bool sl') ∧ u.cell? ⟨bl, ol + j * 2 + 1, none⟩ = some (.slice a3 n3 p3) ∧ u.cell? ⟨lp, q * 2, none⟩ = some (.bool sp) ∧ u.cell? ⟨lp, q * 2 + 1, none⟩ = some (.slice a4 n4 p4) ∧ u.cell? ⟨sb, 0, none⟩ = some (.bool (decide (σ < 0))) ∧ u.cell? ⟨sb, 1, none⟩ = some (.slice a7 n7 p7)) 15 [0, 1, 2, 3, 4, 5, 6, 7, 8, 9, 10, 11, 12, 13] 2 hmix (by kernel_rfl) rfl (by kernel_rfl) (fun _ _ d _ _ h => by cases d <;> exact h) ⟨d1, d2, e1, e2, z0, z1⟩ ?_
                    iterate 14 (refine early_take rfl (by rfl) ?_; apply Exists.intro; refine ⟨fun u hu => ?_, ?_⟩; (obtain ⟨u_1, u_2, u_3, u_4, u_5, u_6⟩ := hu; go_simp; rfl); simp only [Act.put, List.getElem_toArray, List.getElem_cons_zero, List.getElem_cons_succ, List.setIfInBounds_toArray, List.set_cons_zero, List.set_cons_succ])
                    refine early_done ?_
                    simp only [marked]
                    refine anyL_one (i := 14) (by kernel_rfl) rfl (by rfl) fun J hJ => ?_
                    go_simp
                    refine HMA.out.mono ?_
                    rintro e wd ⟨v, rfl, hfd, hbd⟩
                    have hbd' := below_via (bl_drew wr) hbd
                    obtain ⟨a8, n8, p8, rfl, -⟩ := hfd.agg
                    have hj8 := HJ.out.below hbd'
                    have y0 := hj8.c0
                    have y1 := hj8.c1
                    have y2 := hj8.f0
                    have y3 := hj8.f1
                    have hpt := hj8.put hfd (fun e => by have h1 : wr.heap.size ≤ sb := hfd.own_ge e; have := HSW.out; omega)
                    have hbe := HBL.out.trans (hbd'.mono HBL.out.size)
                    have HBE := Lib.hid (hbe.grown (gb_two wd sb 0 1 (.bool (decide (ν < 0))) (.slice a8 n8 p8)) hbe.size (fun x hx => by injection hx with hx; have := HSB.out; omega))
                    have HPT := Lib.hid hpt
                    refine hJ _ _ (fun _ => ⟨cell_stays hbd' d1, cell_stays hbd' d2, cell_stays hbd' e1, cell_stays hbd' e2, cell_stays hbd' z0, cell_stays hbd' z1⟩) ?_
                    clear hJ J hfd hbd hbd' hj8 hpt hbe HMA HBL HJ d1 d2 e1 e2 z0 z1 g0 g1
                    refine anyL_one (i := 15) (by kernel_rfl) rfl (by rfl) fun J hJ => ?_
                    go_simp
                    refine hJ _ _ (fun e => absurd e (by decide)) ?_
                    clear hJ J
                    refine anyL_done (by kernel_rfl) ?_ _
                    go_wp2_with fail
                    go_roundw
                    case rel => exact ⟨j + 1, a8, n8, p8, by omega, by go_num, HBE.out, by rw [← HNU.out]; exact HPT.out⟩
                    case measure => simp [intOf]; omega
                  · have u3 : IntKind.i64.wrap ((n : Int) - (i : Int) + ((j : Int) + 1)) = (n : Int) - (i : Int) + ((j : Int) + 1) := IntWalk.i64_in _ (by omega)
                    have hge : ¬ (0 : Int) ≤ (n : Int) - (i : Int) + ((j : Int) + 1) := by omega
                    have HEQ := Lib.hid (show newt n (mtx n A) i (j + 1) = σ by rw [HNS.out, if_neg hq, Int.add_zero])
                    go_wp2_with fail
                    go_roundw
                    case rel => exact ⟨j + 1, a7, n7, p7, by omega, by go_num, HBL.out, by rw [HEQ.out]; exact HJ.out⟩
                    case measure => simp [intOf]; omega
                · obtain rfl : i = j := by omega
                  have hle3 : ¬ (i : Int) + 1 ≤ (i : Int) := by omega
                  have hz0 : σ = 0 := by rw [HS.out]; exact HN0.out
                  have hsg := zSign_any _ σ wr (HJ.out.fr.rd HSG.out (by omega))
                  rw [show sgZ σ = 0 by unfold sgZ; rw [if_pos hz0]] at hsg
                  have HSI := Lib.hid hsg
                  have z0 := HJ.out.c0
                  have z1 := HJ.out.c1
                  clear hsg hz0
                  go_wp2_with (go_at_call 39; refine HSI.out.mono ?_; rintro e wd ⟨rfl, hbd⟩)
                  have HBE := Lib.hid (HBL.out.trans (hbd.mono HBL.out.size))
                  clear hbd HSI HBL HJ z0 z1
                  go_wp2_with fail
                  go_roundw
                  case rel => exact ⟨i0 + 1, by omega, by have := HI.out; congr 1; omega, HBE.out⟩
                  case measure => have := HI.out; simp [intOf]; omega
          · obtain rfl : i0 = t := by omega
            have hle : ¬ (i0 : Int) + 1 ≤ (i0 : Int) := by omega
            go_wp2_with fail
            go_ret
            exact ⟨rfl, HB.out.trans (HBL.out.mono HB.out.size)⟩

theorem Dets_law (r c : Int) (s : Value) (n : Nat) (xr : Nat → Raw) (xv : Value) (z : Raw) (kk : Int) (w : World) (hr : RdL w s n xr) (hx : ∀ i, i < n → (xr i).n ≤ 1048576) (hv : RdZ w xv z.val) (hz : ZB 1048576 z.val) (hkk : -9223372036854775808 ≤ kk ∧ kk ≤ 9223372036854775807) :
    Calls Try.prog 6 #[.agg #[.int .i64 r, .int .i64 c, s], xv, .int .i64 kk] w fun e w' => e = .returned (.bool true) ∧ Below w.heap.size w w' := by
  obtain ⟨a, cap, rfl, hcap, hn, -⟩ := id hr
  by_cases h0 : sqE r c n = 0
  · rcases check_cases r c n with h | ⟨R, C, rfl, rfl, hR, hC, rfl⟩
    · unfold sqE at h0
      rw [if_neg (by rw [h]; decide)] at h0
      exact absurd h0 (by decide)
    · unfold sqE at h0
      rw [if_pos (checkE_ok hR hC rfl)] at h0
      by_cases e : (R : Int) = (C : Int)
      · obtain rfl : R = C := by omega
        have hK4 : R * R ≤ 4096 := Nat.mul_le_mul hR hR
        exact Dets_good R 1048576 1048576 _ xv _ _ kk w hR (by omega) (by omega) (hr.rde (by omega) (fun i hi => by have := hx i hi; omega)) (hr.zbs hx) hv hz hkk
      · rw [if_neg e] at h0
        exact absurd h0 (by decide)
  · obtain ⟨sx, ax, nx, cx, fx, rfl, -⟩ := hv.parts
    exact Dets_head r c a n cap sx ax nx cx kk (by omega) h0 w
end Go.Proofs.Ytejliecmdkmgiaa

namespace Go.Proofs.Ytejliecmdkmgiaa.charpolyDets
open Go.ChangeShapes Go.WideShapes Go.ChangeAt Go.RowKit

theorem own : ownKnob Try.prog.godebug = none := by kernel_rfl

set_option maxRecDepth 100000 in
theorem contract (H : Type) (enc : TypeId × Value → H) (W : World) (base : Nat) (args : Array Value) (ds gs : List (DataW H)) (before : List MemPlace)
    (hval : ∀ (j : Nat) t v, Try.f6.params[j]? = some t → args[j]? = some v → Value.okWide Try.prog W .any base t v)
    (hW : DataW.Whole enc Try.prog Try.f6.params.toList Rows.charpolyDetsSpec.vars false W args.toList ds gs before) (hk : Rows.uptoSmall H (ds ++ gs) = true) :
    Calls Try.prog 6 args W fun e W' => ∃ v, e = .returned v ∧ Rows.charpolyDetsSpec.post enc Try.prog Try.f6 false true false false W args v W' := by
  have hW' := hW
  have hlt : ∀ x ∈ before, x.block < W.heap.size := fun x hx => hW.lt x hx
  obtain ⟨p, q, hA0, hV, rfl, hfz, hnd⟩ := hW
  have hA : DataW.TrodAll enc Try.prog W 0 (fun _ => true) true Try.f6.params.toList args.toList ds p := hA0
  rw [Try.params6] at hA hval
  obtain ⟨v0, vs0, d0, ds0, p0, q0, hargs, rfl, rfl, h0, r0⟩ := trodAll_cons hA
  obtain ⟨v1, vs1, d1, ds1, p1, q1, rfl, rfl, rfl, h1, r1⟩ := trodAll_cons r0
  obtain ⟨v2, vs2, d2, ds2, p2, q2, rfl, rfl, rfl, h2, r2⟩ := trodAll_cons r1
  obtain ⟨rfl, rfl, rfl⟩ := trodAll_nil r2
  obtain rfl : args = #[v0, v1, v2] := by cases args; simp_all
  obtain ⟨rfl, rfl⟩ := trodVars_none hV
  have h0k := h0
  have h1k := h1
  obtain ⟨k2, rfl, rfl, rfl, wk2⟩ := open_int Try.underlying3 (hval 2 3 v2 rfl rfl) h2
  clear hA0
  simp only [List.append_nil] at hW' hk hlt
  have hbk : Rows.uptoBulkAll [d0, d1, DataW.lit (.int .i64 k2)] ≤ 1048576 := of_decide_eq_true hk
  simp only [Rows.uptoBulkAll] at hbk
  obtain ⟨R0, C0, s0, n0, x0, rfl, hr0, hn0, hx0, -, -⟩ := open_mat (B := 1048576) (hval 0 24 v0 rfl rfl) h0 (by omega) (by omega)
  obtain ⟨z1, hr1, hx1⟩ := open_big (B := 1048576) (hval 1 49 v1 rfl rfl) h1 (by omega) (by omega)
  have bk2 : -9223372036854775808 ≤ k2 ∧ k2 ≤ 9223372036854775807 := by simp [Lit.wf, IntKind.min, IntKind.max, IntKind.signed, IntKind.bits] at wk2; omega
  refine (Dets_law R0 C0 s0 n0 x0 _ z1 k2 W hr0 hx0 hr1 hx1 bk2).mono fun e W' ⟨he, hg⟩ => ?_
  subst he
  refine ⟨_, rfl, post_of_below (pa := (p0 ++ (p1 ++ ([] ++ [])))) (pv := []) hW' (fun _ _ _ => (trodAll_cons_mk (shut_bool Try.underlying4 _) trodAll_mk0)) (fun sp hsp => (trodAll_cons_mk (WideElems.Trod_stays (P := Try.prog) (by kernel_rfl) (by kernel_rfl) (of_decide_eq_true (by kernel_rfl)) h0k (fun x hx => hg.same (hlt x (by simp [hx]))) (fun x hx => hsp x (by simp [hx]))) (trodAll_cons_mk (WideElems.Trod_stays (P := Try.prog) (by kernel_rfl) (by kernel_rfl) (of_decide_eq_true (by kernel_rfl)) h1k (fun x hx => hg.same (hlt x (by simp [hx]))) (fun x hx => hsp x (by simp [hx]))) (trodAll_cons_mk (shut_int Try.underlying3 wk2) trodAll_mk0)))) (fun _ _ => rfl) (by simp)
    hg (ok_one (by kernel_rfl) rfl (okWide_bool_mk Try.underlying4 _))⟩

set_option maxRecDepth 100000 in
theorem lifted (os : Os) (started : os.Started) (H : Type) (enc : TypeId × Value → H) (F : Stop.Interp) :
    ReturnsInHanded {} Try.checked os 6 .any ((Rows.OpenSpec.upto Rows.charpolyDetsSpec).pre6 enc Try.prog Try.f6 Rows.charpolyDetsUptoRow.domain false) (((Rows.OpenSpec.upto Rows.charpolyDetsSpec).at F).post enc Try.prog Try.f6 false true false false) := by
  refine returnsInHanded_of_cond (C := Try.checked) (s := Rows.OpenSpec.upto Rows.charpolyDetsSpec) (k := Rows.uptoSmall) rfl own started (by kernel_rfl) Try.func6
    (OpenSpec.witness (enc := enc) (C := Try.checked) (s := Rows.OpenSpec.upto Rows.charpolyDetsSpec) (k := Rows.uptoSmall) rfl false ⟨#[], #[.agg #[.int .i64 0, .int .i64 0, .slice none 0 0], .agg #[.bool false, .slice none 0 0], .int .i64 0], []⟩ 8 (by kernel_rfl) (by kernel_rfl) (by kernel_rfl)
      (x := ([.agg [.lit (.int .i64 0), .lit (.int .i64 0), .nil], .agg [.lit (.bool false), .nil], .lit (.int .i64 0)], [], [])) (by kernel_rfl) rfl (by kernel_rfl)) ?_
  intro W base args ds gs before hval hW _ hk _
  exact contract H enc W base args ds gs before hval hW hk

/-- the statement -/
theorem proved : Rows.CharpolyDetsUptoSaid :=
  OpenClaim.holds_of_cond 6 Try.f6 rfl rfl rfl rfl rfl rfl rfl ⟨rfl, rfl, rfl, rfl, rfl⟩ rfl rfl rfl rfl rfl (by kernel_rfl) Try.func6 (by kernel_rfl)
    (of_decide_eq_true (by kernel_rfl)) (by unfold Func.isWrapper; first | (rw [if_pos (by decide +kernel)]; kernel_rfl) | (rw [if_neg (by decide +kernel)]; exact ⟨rfl, rfl⟩))
    (fun os started H enc _ F => lifted os started H enc F)
#print axioms proved
end Go.Proofs.Ytejliecmdkmgiaa.charpolyDets
