/- The walk of the law CharpolyCompanions. 'CharpolyCompanions', where what it reads is of bulk at most 1,048,576: for every list p the law returns true and its arguments read as before. -/
import Derived.Test.YtejliecmdkmgiaaGT
import Derived.Test.YtejliecmdkmgiaaGS
import Derived.Test.YtejliecmdkmgiaaGR
import Derived.Test.YtejliecmdkmgiaaRows
import Derived.Test.YtejliecmdkmgiaaGH
import Derived.ProofKit
import Derived.OpenShut
import Derived.Carry
import Derived.JoinedCond
set_option linter.unusedVariables false
set_option linter.unusedSimpArgs false
namespace Go.Proofs.Ytejliecmdkmgiaa
open Go.RowKit Go.Shelf

theorem mtx_flat {n : Nat} (M : Nat → Nat → Int) {i j : Nat} (hj : j < n) : mtx n (flat n M) i j = M i j := at_flat hj M
theorem com_char {n : Nat} {E : Nat → Int} (h1 : E n = 1) {j : Nat} (hj : j ≤ n) : chE n (flat n (cmpM n E)) j = E j := by
  unfold chE
  rw [flq_congr (B := cmpM n E) (fun i j _ hj => mtx_flat _ hj)]
  exact cmpM_char h1 hj
theorem com_least {n k : Nat} {E μ : Nat → Int} (h1 : E n = 1) (h : MinP n (mtx n (flat n (cmpM n E))) k μ) : k = n ∧ ∀ j, j ≤ n → μ j = E j := by
  have hm : MinP n (cmpM n (fun j => if j ≤ n then E j else 0)) n (fun j => if j ≤ n then E j else 0) := cmpM_min (by show (if n ≤ n then _ else _) = _; rw [if_pos (Nat.le_refl _)]; exact h1) (fun j hj => if_neg (by omega))
  have hm2 : MinP n (mtx n (flat n (cmpM n E))) n (fun j => if j ≤ n then E j else 0) := hm.congr fun i j hi hj => by
    rw [mtx_flat _ hj]
    unfold cmpM
    by_cases e : i + 1 = n
    · rw [if_pos e, if_pos e]; show - (if j ≤ n then E j else 0) = _; rw [if_pos (by omega)]
    · rw [if_neg e, if_neg e]
  obtain ⟨rfl, hμ⟩ := h.unique hm2
  exact ⟨rfl, fun j hj => by rw [hμ j]; exact if_pos hj⟩
theorem com_zb {n S : Nat} {E : Nat → Int} (hz : ∀ j, j < n → ZB S (E j)) : ∀ q, q < n * n → ZB (S + 1) (flat n (cmpM n E) q) := flat_zb fun i j hi hj => by
  unfold cmpM
  split
  · exact ((hz j hj).neg).mono (by omega)
  · split
    · exact zb_ones.mono (by omega)
    · exact zb_nil _

set_option maxHeartbeats 4000000 in
set_option maxRecDepth 100000 in
theorem Companions_good (len n S : Nat) (x : Value) (E : Nat → Int) (w : World) (hx : RdE w x len E) (hs : szE E len = n + 1) (h1 : E n = 1) (hn : n ≤ 64) (hS : S ≤ 1048576) (hz : ∀ j, j < n → ZB S (E j)) :
    Calls Try.prog 4 #[x] w fun e w' => e = .returned (.bool true) ∧ Below w.heap.size w w' := by
  have hmix : Try.prog.follows .mixedOrders = true := by kernel_rfl
  have hK4 : n * n ≤ 4096 := Nat.mul_le_mul hn hn
  obtain ⟨ax, cx, rfl, hcx⟩ := hx.slice
  have hco := fun (u : World) (hu : Below w.heap.size w u) => Companion_good len n S _ E u (hx.below hu) hs h1 hn (by omega) hz
  have htr := fun (u : World) (hu : Below w.heap.size w u) => Trim_any _ len _ E u (hx.below hu)
  simp only [hs] at htr
  have hzz := com_zb hz
  have hch := fun (j : Nat) (hj : j ≤ n) => com_char h1 hj
  have hle := fun (k : Nat) (μ : Nat → Int) (h : MinP n (mtx n (flat n (cmpM n E))) k μ) => com_least h1 h
  have hmo : monL E (n + 1) = true := by unfold monL; exact decide_eq_true ⟨by omega, h1⟩
  obtain ⟨G, hG⟩ : ∃ G, G = flat n (cmpM n E) := ⟨_, rfl⟩
  rw [← hG] at hzz
  simp only [← hG] at hco hch hle
  obtain ⟨N, hN⟩ : ∃ N, N = n * n := ⟨_, rfl⟩
  rw [← hN] at hK4
  simp only [← hN] at hco
  have HCO := Lib.hid hco
  have HTR := Lib.hid htr
  have HZZ := Lib.hid hzz
  have HCH := Lib.hid hch
  have HLE := Lib.hid hle
  have HMO := Lib.hid hmo
  have HN := Lib.hid hN
  clear hx hco htr hzz hch hle hmo hG hN hs h1 hz
  go_enter Try.func4, Try.ntmps4
  go_wp2_with fail
  (refine (awake16_any w).mono ?_)
  rintro e w1 ⟨rfl, hb1⟩
  have HB := Lib.hid hb1
  clear hb1
  go_wp2_with fail
  (refine (HCO.out w1 HB.out).mono ?_)
  rintro e w2 ⟨lb, rfl, hf2, hb2⟩
  have hba := bl_alloc w2 (.cells #[.int .i64 n, .int .i64 n, .slice (some ⟨lb, 0, none⟩) N N] 24)
  have hm := MBox.new w2 n n (.slice (some ⟨lb, 0, none⟩) N N)
  have RM := Lib.hid (show RdE _ _ (n * n) G by rw [← HN.out]; exact (hf2.rd (Nat.le_refl _) (by omega)).below hba)
  have HM := Lib.hid hm
  replace HB := Lib.hid (below_via HB.out (below_via hb2 hba))
  clear hf2 hb2 hba hm HCO
  go_upto_region 4 with fail
  obtain ⟨mb, hmb⟩ : ∃ mb, mb = w2.heap.size := ⟨_, rfl⟩
  rw [← hmb] at HM ⊢
  clear hmb
  generalize w2.alloc (.cells #[.int .i64 n, .int .i64 n, .slice (some ⟨lb, 0, none⟩) N N] 24) = w3 at *
  go_wp2_with fail
  (refine (HTR.out w3 HB.out).mono ?_)
  rintro e w4 ⟨lt, rfl, hf4, hb4⟩
  have LT := Lib.hid (hf4.lee (Nat.le_refl _) (Nat.le_refl _) (by omega))
  replace RM := Lib.hid (RM.out.below hb4)
  replace HM := Lib.hid (HM.out.below hb4)
  replace HB := Lib.hid (below_via HB.out hb4)
  clear hf4 hb4 HTR
  have hdg := fun (u : World) => degree_any (some ⟨lt, 0, none⟩) (n + 1) (n + 1) (by omega) u
  simp only [show ((n + 1 : Nat) : Int) - 1 = (n : Int) by omega] at hdg
  have HDG := Lib.hid hdg
  have hn64 : ¬ (64 : Int) < (n : Int) := by omega
  clear hdg
  go_wp2_with fail
  (refine (HDG.out w4).mono ?_)
  rintro e w5 ⟨rfl, rfl⟩
  have hmn := monic16_any _ _ _ w4 LT.out.rd
  rw [HMO.out] at hmn
  have HMN := Lib.hid hmn
  clear hmn
  go_wp2_with fail
  (refine HMN.out.mono ?_)
  rintro e w6 ⟨rfl, hb6⟩
  replace LT := Lib.hid (LT.out.below hb6)
  replace RM := Lib.hid (RM.out.below hb6)
  replace HM := Lib.hid (HM.out.below hb6)
  replace HB := Lib.hid (below_via HB.out hb6)
  clear hb6 HMN
  have m0 := HM.out.m0
  have m1 := HM.out.m1
  have m2 := HM.out.m2
  have HC := Lib.hid (Char_good n (S + 1) _ G w6 hn (by omega) RM.out HZZ.out)
  go_wp2_with fail
  (refine HC.out.mono ?_)
  rintro e w7 ⟨lq, rfl, hf7, hb7⟩
  have LQ := Lib.hid (LeE.congr (F := E) (show LeE _ _ _ (chE n G) from hf7.lee (Nat.le_refl _) (Nat.le_refl _) (by omega)) (fun j hj => HCH.out j (by omega)))
  replace LT := Lib.hid (LT.out.below hb7)
  replace RM := Lib.hid (RM.out.below hb7)
  replace HM := Lib.hid (HM.out.below hb7)
  replace HB := Lib.hid (below_via HB.out hb7)
  clear hf7 hb7 HC HCH m0 m1 m2
  have m0 := HM.out.m0
  have m1 := HM.out.m1
  have m2 := HM.out.m2
  have HL := Lib.hid (LeastPoly_good n (S + 1) _ G w7 hn (by omega) RM.out HZZ.out)
  go_wp2_with fail
  (refine HL.out.mono ?_)
  rintro e w8 ⟨ll, k, μ, rfl, hkn, hmin, -, hf8, hb8⟩
  obtain ⟨rfl, hμ⟩ := HLE.out k μ hmin
  have LL := Lib.hid ((hf8.lee (Nat.le_refl _) (Nat.le_refl _) (by omega)).congr (fun j hj => hμ j (by omega)))
  replace LT := Lib.hid (LT.out.below hb8)
  replace LQ := Lib.hid (LQ.out.below hb8)
  replace HM := Lib.hid (HM.out.below hb8)
  replace HB := Lib.hid (below_via HB.out hb8)
  clear hf8 hb8 HL HLE hmin hμ RM m0 m1 m2
  have m0 := HM.out.m0
  go_upto_region 11 with fail
  refine region_early (fun u => u.cell? ⟨mb, 0, none⟩ = some (.int .i64 k)) 27 [0, 1, 2, 3, 4, 5, 6, 7, 8, 9, 10, 11, 12, 13] 14 hmix (by kernel_rfl) rfl (by kernel_rfl) (fun _ _ d _ _ h => by cases d <;> exact h) m0 ?_
  iterate 14 (refine early_take rfl (by rfl) ?_; apply Exists.intro; refine ⟨fun u hu => ?_, ?_⟩; (go_simp; rfl); simp only [Act.put, List.getElem_toArray, List.getElem_cons_zero, List.getElem_cons_succ, List.setIfInBounds_toArray, List.set_cons_zero, List.set_cons_succ])
  refine early_done ?_
  simp only [marked]
  refine anyL_one (i := 14) (by kernel_rfl) rfl (by rfl) fun J hJ => ?_
  go_simp
  refine (HDG.out w8.drew).mono ?_
  rintro e w9 ⟨rfl, rfl⟩
  refine hJ _ _ (fun _ => m0) ?_
  clear hJ J HDG
  replace LT := Lib.hid (LT.out.below (bl_drew w8))
  replace LQ := Lib.hid (LQ.out.below (bl_drew w8))
  replace LL := Lib.hid (LL.out.below (bl_drew w8))
  replace HB := Lib.hid (below_via HB.out (bl_drew w8))
  refine anyL_yield (i := 15) rfl (by kernel_rfl) (by kernel_rfl) (by kernel_rfl) (by kernel_rfl) (fun _ _ d _ _ h => by cases d <;> exact h) (by rfl) m0 ?_
  apply Exists.intro
  refine ⟨fun u => ?_, ?_⟩
  · go_simp
    rfl
  simp only [Act.put, List.getElem_toArray, List.getElem_cons_zero, List.getElem_cons_succ, List.setIfInBounds_toArray, List.set_cons_zero, List.set_cons_succ]
  refine anyL_yield (i := 16) rfl (by kernel_rfl) (by kernel_rfl) (by kernel_rfl) (by kernel_rfl) (fun _ _ d _ _ h => by cases d <;> exact h) (by rfl) m0 ?_
  apply Exists.intro
  refine ⟨fun u => ?_, ?_⟩
  · go_simp
    rfl
  simp only [Act.put, List.getElem_toArray, List.getElem_cons_zero, List.getElem_cons_succ, List.setIfInBounds_toArray, List.set_cons_zero, List.set_cons_succ]
  refine anyL_yield (i := 17) rfl (by kernel_rfl) (by kernel_rfl) (by kernel_rfl) (by kernel_rfl) (fun _ _ d _ _ h => by cases d <;> exact h) (by rfl) m0 ?_
  apply Exists.intro
  refine ⟨fun u => ?_, ?_⟩
  · go_simp
    rfl
  simp only [Act.put, List.getElem_toArray, List.getElem_cons_zero, List.getElem_cons_succ, List.setIfInBounds_toArray, List.set_cons_zero, List.set_cons_succ]
  refine anyL_yield (i := 18) rfl (by kernel_rfl) (by kernel_rfl) (by kernel_rfl) (by kernel_rfl) (fun _ _ d _ _ h => by cases d <;> exact h) (by rfl) m0 ?_
  apply Exists.intro
  refine ⟨fun u => ?_, ?_⟩
  · go_simp
    rfl
  simp only [Act.put, List.getElem_toArray, List.getElem_cons_zero, List.getElem_cons_succ, List.setIfInBounds_toArray, List.set_cons_zero, List.set_cons_succ]
  refine anyL_yield (i := 19) rfl (by kernel_rfl) (by kernel_rfl) (by kernel_rfl) (by kernel_rfl) (fun _ _ d _ _ h => by cases d <;> exact h) (by rfl) m0 ?_
  apply Exists.intro
  refine ⟨fun u => ?_, ?_⟩
  · go_simp
    rfl
  simp only [Act.put, List.getElem_toArray, List.getElem_cons_zero, List.getElem_cons_succ, List.setIfInBounds_toArray, List.set_cons_zero, List.set_cons_succ]
  refine anyL_one (i := 20) (by kernel_rfl) rfl (by rfl) fun J hJ => ?_
  go_simp
  refine (SameRow_yes _ _ _ _ w8.drew LQ.out LT.out).mono ?_
  rintro e w10 ⟨rfl, hb10⟩
  replace m0 := cell_stays hb10 m0
  refine hJ _ _ (fun _ => m0) ?_
  replace LT := Lib.hid (LT.out.below hb10)
  replace LL := Lib.hid (LL.out.below hb10)
  replace HB := Lib.hid (below_via HB.out hb10)
  clear hJ J hb10 LQ
  refine anyL_yield (i := 21) rfl (by kernel_rfl) (by kernel_rfl) (by kernel_rfl) (by kernel_rfl) (fun _ _ d _ _ h => by cases d <;> exact h) (by rfl) m0 ?_
  apply Exists.intro
  refine ⟨fun u => ?_, ?_⟩
  · go_simp
    rfl
  simp only [Act.put, List.getElem_toArray, List.getElem_cons_zero, List.getElem_cons_succ, List.setIfInBounds_toArray, List.set_cons_zero, List.set_cons_succ]
  refine anyL_yield (i := 22) rfl (by kernel_rfl) (by kernel_rfl) (by kernel_rfl) (by kernel_rfl) (fun _ _ d _ _ h => by cases d <;> exact h) (by rfl) m0 ?_
  apply Exists.intro
  refine ⟨fun u => ?_, ?_⟩
  · go_simp
    rfl
  simp only [Act.put, List.getElem_toArray, List.getElem_cons_zero, List.getElem_cons_succ, List.setIfInBounds_toArray, List.set_cons_zero, List.set_cons_succ]
  refine anyL_yield (i := 23) rfl (by kernel_rfl) (by kernel_rfl) (by kernel_rfl) (by kernel_rfl) (fun _ _ d _ _ h => by cases d <;> exact h) (by rfl) m0 ?_
  apply Exists.intro
  refine ⟨fun u => ?_, ?_⟩
  · go_simp
    rfl
  simp only [Act.put, List.getElem_toArray, List.getElem_cons_zero, List.getElem_cons_succ, List.setIfInBounds_toArray, List.set_cons_zero, List.set_cons_succ]
  refine anyL_yield (i := 24) rfl (by kernel_rfl) (by kernel_rfl) (by kernel_rfl) (by kernel_rfl) (fun _ _ d _ _ h => by cases d <;> exact h) (by rfl) m0 ?_
  apply Exists.intro
  refine ⟨fun u => ?_, ?_⟩
  · go_simp
    rfl
  simp only [Act.put, List.getElem_toArray, List.getElem_cons_zero, List.getElem_cons_succ, List.setIfInBounds_toArray, List.set_cons_zero, List.set_cons_succ]
  refine anyL_one (i := 25) (by kernel_rfl) rfl (by rfl) fun J hJ => ?_
  go_simp
  refine (SameRow_yes _ _ _ _ w10 LL.out LT.out).mono ?_
  rintro e w11 ⟨rfl, hb11⟩
  replace m0 := cell_stays hb11 m0
  refine hJ _ _ (fun _ => m0) ?_
  replace HB := Lib.hid (below_via HB.out hb11)
  clear hJ J hb11 LT LL
  refine anyL_yield (i := 26) rfl (by kernel_rfl) (by kernel_rfl) (by kernel_rfl) (by kernel_rfl) (fun _ _ d _ _ h => by cases d <;> exact h) (by rfl) m0 ?_
  apply Exists.intro
  refine ⟨fun u => ?_, ?_⟩
  · go_simp
    rfl
  simp only [Act.put, List.getElem_toArray, List.getElem_cons_zero, List.getElem_cons_succ, List.setIfInBounds_toArray, List.set_cons_zero, List.set_cons_succ]
  refine anyL_one (i := 27) (by kernel_rfl) rfl (by rfl) fun J hJ => ?_
  go_simp
  refine hJ _ _ (fun e => absurd e (by decide)) ?_
  clear hJ J
  refine anyL_done (by kernel_rfl) ?_ _
  go_wp2_with fail
  go_ret
  exact ⟨rfl, HB.out⟩

set_option maxHeartbeats 4000000 in
set_option maxRecDepth 100000 in
theorem Companions_bad (len : Nat) (x : Value) (E : Nat → Int) (w : World) (hx : RdE w x len E) (h : 65 < szE E len ∨ monB E len = false) :
    Calls Try.prog 4 #[x] w fun e w' => e = .returned (.bool true) ∧ Below w.heap.size w w' := by
  have hmix : Try.prog.follows .mixedOrders = true := by kernel_rfl
  have hsl := szE_le E len
  have hlen := hx.le_n
  obtain ⟨ax, cx, rfl, hcx⟩ := hx.slice
  have hco := fun (u : World) (hu : Below w.heap.size w u) => Companion_bad len _ E u (hx.below hu) h
  have htr := fun (u : World) (hu : Below w.heap.size w u) => Trim_any _ len _ E u (hx.below hu)
  have hmm : ¬ 65 < szE E len → monL E (szE E len) = false := fun h2 => h.resolve_left h2
  simp only [cmpE] at hco
  obtain ⟨z, hz⟩ : ∃ z, z = szE E len := ⟨_, rfl⟩
  rw [← hz] at hsl
  simp only [← hz] at hco htr hmm
  obtain ⟨X, hX⟩ : ∃ X : Int, X = (if 65 < z then 5 else 10) := ⟨_, rfl⟩
  simp only [← hX] at hco
  have HCO := Lib.hid hco
  have HTR := Lib.hid htr
  have HMM := Lib.hid hmm
  have HX := Lib.hid hX
  clear hx hco htr hmm hX hz h
  go_enter Try.func4, Try.ntmps4
  go_wp2_with fail
  (refine (awake16_any w).mono ?_)
  rintro e w1 ⟨rfl, hb1⟩
  have HB := Lib.hid hb1
  clear hb1
  go_wp2_with fail
  (refine (HCO.out w1 HB.out).mono ?_)
  rintro e w2 ⟨rfl, hb2⟩
  have hba := bl_alloc w2 (.cells #[.int .i64 0, .int .i64 0, .slice none 0 0] 24)
  have HM := Lib.hid (MBox.new w2 0 0 (.slice none 0 0))
  replace HB := Lib.hid (below_via HB.out (below_via hb2 hba))
  clear hb2 hba HCO
  go_upto_region 4 with fail
  obtain ⟨mb, hmb⟩ : ∃ mb, mb = w2.heap.size := ⟨_, rfl⟩
  rw [← hmb] at HM ⊢
  clear hmb
  generalize w2.alloc (.cells #[.int .i64 0, .int .i64 0, .slice none 0 0] 24) = w3 at *
  go_wp2_with fail
  (refine (HTR.out w3 HB.out).mono ?_)
  rintro e w4 ⟨lt, rfl, hf4, hb4⟩
  have LT := Lib.hid (hf4.lee (Nat.le_refl _) (Nat.le_refl _) (by omega))
  replace HM := Lib.hid (HM.out.below hb4)
  replace HB := Lib.hid (below_via HB.out hb4)
  clear hf4 hb4 HTR
  have HDG := Lib.hid (degree_any (some ⟨lt, 0, none⟩) z z (by omega) w4)
  have m0 := HM.out.m0
  have m1 := HM.out.m1
  have m2 := HM.out.m2
  by_cases hgt : 65 < z
  · obtain rfl : X = 5 := by rw [HX.out, if_pos hgt]
    have hg2 : (64 : Int) < (z : Int) - 1 := by omega
    go_wp2_with fail
    (refine HDG.out.mono ?_)
    rintro e w5 ⟨rfl, rfl⟩
    go_wp2_with fail
    go_ret
    exact ⟨rfl, HB.out⟩
  · obtain rfl : X = 10 := by rw [HX.out, if_neg hgt]
    have hg2 : ¬ (64 : Int) < (z : Int) - 1 := by omega
    go_wp2_with fail
    (refine HDG.out.mono ?_)
    rintro e w5 ⟨rfl, rfl⟩
    have hmn := monic16_any _ _ _ w4 LT.out.rd
    rw [HMM.out hgt] at hmn
    have HMN := Lib.hid hmn
    clear hmn
    go_wp2_with fail
    (refine HMN.out.mono ?_)
    rintro e w6 ⟨rfl, hb6⟩
    replace m0 := cell_stays hb6 m0
    replace m1 := cell_stays hb6 m1
    replace m2 := cell_stays hb6 m2
    replace HB := Lib.hid (below_via HB.out hb6)
    clear hb6 HMN
    go_wp2_with fail
    go_ret
    exact ⟨rfl, HB.out⟩

theorem Companions_law (x : Value) (n : Nat) (r : Nat → Raw) (w : World) (hr : RdL w x n r) (hx : ∀ i, i < n → (r i).n ≤ 1048576) (hn : n ≤ 1048576) :
    Calls Try.prog 4 #[x] w fun e w' => e = .returned (.bool true) ∧ Below w.heap.size w w' := by
  have h1 := hr.rde (by omega) (fun i hi => by have := hx i hi; omega)
  have h2 := hr.zbs hx
  by_cases hb : 65 < szE (fun i => (r i).val) n ∨ monB (fun i => (r i).val) n = false
  · exact Companions_bad n x _ w h1 hb
  · have hb2 : monB (fun i => (r i).val) n = true := by
      cases e : monB (fun i => (r i).val) n
      · exact absurd (Or.inr e) hb
      · rfl
    have hb1 : ¬ 65 < szE (fun i => (r i).val) n := fun e => hb (Or.inl e)
    unfold monB at hb2
    obtain ⟨g1, g2⟩ := of_decide_eq_true hb2
    have hle := szE_le (fun i => (r i).val) n
    exact Companions_good n (szE (fun i => (r i).val) n - 1) 1048576 x _ w h1 (by omega) g2 (by omega) (by omega) (fun j hj => h2 j (by omega))
end Go.Proofs.Ytejliecmdkmgiaa

namespace Go.Proofs.Ytejliecmdkmgiaa.charpolyCompanions
open Go.ChangeShapes Go.WideShapes Go.ChangeAt Go.RowKit

theorem own : ownKnob Try.prog.godebug = none := by kernel_rfl

set_option maxRecDepth 100000 in
theorem contract (H : Type) (enc : TypeId × Value → H) (W : World) (base : Nat) (args : Array Value) (ds gs : List (DataW H)) (before : List MemPlace)
    (hval : ∀ (j : Nat) t v, Try.f4.params[j]? = some t → args[j]? = some v → Value.okWide Try.prog W .any base t v)
    (hW : DataW.Whole enc Try.prog Try.f4.params.toList Rows.charpolyCompanionsSpec.vars false W args.toList ds gs before) (hk : Rows.uptoSmall H (ds ++ gs) = true) :
    Calls Try.prog 4 args W fun e W' => ∃ v, e = .returned v ∧ Rows.charpolyCompanionsSpec.post enc Try.prog Try.f4 false true false false W args v W' := by
  have hW' := hW
  have hlt : ∀ x ∈ before, x.block < W.heap.size := fun x hx => hW.lt x hx
  obtain ⟨p, q, hA0, hV, rfl, hfz, hnd⟩ := hW
  have hA : DataW.TrodAll enc Try.prog W 0 (fun _ => true) true Try.f4.params.toList args.toList ds p := hA0
  rw [Try.params4] at hA hval
  obtain ⟨v0, vs0, d0, ds0, p0, q0, hargs, rfl, rfl, h0, r0⟩ := trodAll_cons hA
  obtain ⟨rfl, rfl, rfl⟩ := trodAll_nil r0
  obtain rfl : args = #[v0] := by cases args; simp_all
  obtain ⟨rfl, rfl⟩ := trodVars_none hV
  have h0k := h0
  clear hA0
  simp only [List.append_nil] at hW' hk hlt
  have hbk : Rows.uptoBulkAll [d0] ≤ 1048576 := of_decide_eq_true hk
  simp only [Rows.uptoBulkAll] at hbk
  obtain ⟨a0, l0, c0, rfl⟩ := okWide_slice Try.underlying22 (hval 0 22 v0 rfl rfl)
  obtain ⟨fuel0, h0⟩ := h0
  have h0 : DataW.trod enc Try.prog W 0 (fun _ => true) true fuel0 22 [.slice a0 l0 c0] = some (d0, p0) := h0
  obtain ⟨n0, x0, hr0, hn0, hx0⟩ := open_list (B := 1048576) h0 (by dsimp only; omega) (by omega)
  refine (Companions_law _ n0 x0 W hr0 hx0 (by omega)).mono fun e W' ⟨he, hg⟩ => ?_
  subst he
  refine ⟨_, rfl, post_of_below (pa := (p0 ++ [])) (pv := []) hW' (fun _ _ _ => (trodAll_cons_mk (shut_bool Try.underlying4 _) trodAll_mk0)) (fun sp hsp => (trodAll_cons_mk (WideElems.Trod_stays (P := Try.prog) (by kernel_rfl) (by kernel_rfl) (of_decide_eq_true (by kernel_rfl)) h0k (fun x hx => hg.same (hlt x (by simp [hx]))) (fun x hx => hsp x (by simp [hx]))) trodAll_mk0)) (fun _ _ => rfl) (by simp)
    hg (ok_one (by kernel_rfl) rfl (okWide_bool_mk Try.underlying4 _))⟩

set_option maxRecDepth 100000 in
theorem lifted (os : Os) (started : os.Started) (H : Type) (enc : TypeId × Value → H) (F : Stop.Interp) :
    ReturnsInHanded {} Try.checked os 4 .any ((Rows.OpenSpec.upto Rows.charpolyCompanionsSpec).pre6 enc Try.prog Try.f4 Rows.charpolyCompanionsUptoRow.domain false) (((Rows.OpenSpec.upto Rows.charpolyCompanionsSpec).at F).post enc Try.prog Try.f4 false true false false) := by
  refine returnsInHanded_of_cond (C := Try.checked) (s := Rows.OpenSpec.upto Rows.charpolyCompanionsSpec) (k := Rows.uptoSmall) rfl own started (by kernel_rfl) Try.func4
    (OpenSpec.witness (enc := enc) (C := Try.checked) (s := Rows.OpenSpec.upto Rows.charpolyCompanionsSpec) (k := Rows.uptoSmall) rfl false ⟨#[], #[.slice none 0 0], []⟩ 8 (by kernel_rfl) (by kernel_rfl) (by kernel_rfl)
      (x := ([.nil], [], [])) (by kernel_rfl) rfl (by kernel_rfl)) ?_
  intro W base args ds gs before hval hW _ hk _
  exact contract H enc W base args ds gs before hval hW hk

/-- the statement -/
theorem proved : Rows.CharpolyCompanionsUptoSaid :=
  OpenClaim.holds_of_cond 4 Try.f4 rfl rfl rfl rfl rfl rfl rfl ⟨rfl, rfl, rfl, rfl, rfl⟩ rfl rfl rfl rfl rfl (by kernel_rfl) Try.func4 (by kernel_rfl)
    (of_decide_eq_true (by kernel_rfl)) (by unfold Func.isWrapper; first | (rw [if_pos (by decide +kernel)]; kernel_rfl) | (rw [if_neg (by decide +kernel)]; exact ⟨rfl, rfl⟩))
    (fun os started H enc _ F => lifted os started H enc F)
#print axioms proved
end Go.Proofs.Ytejliecmdkmgiaa.charpolyCompanions
