import Derived.Test.YtejliecmdkmgiaaGX
import Derived.Test.YtejliecmdkmgiaaGJ
import Derived.Test.YtejliecmdkmgiaaGI
import Derived.Test.YtejliecmdkmgiaaGE
import Derived.Test.YtejliecmdkmgiaaGK
import Derived.Test.YtejliecmdkmgiaaGQ
import Derived.Test.YtejliecmdkmgiaaGAA
import Derived.Test.YtejliecmdkmgiaaGZ
import Derived.Test.YtejliecmdkmgiaaGAE
set_option linter.unusedVariables false
set_option linter.unusedSimpArgs false
set_option maxHeartbeats 8000000
set_option maxRecDepth 100000
namespace Go.Proofs.Ytejliecmdkmgiaa
open Go.RowKit Go.Shelf
def gmE (R C : Nat) (A : Nat → Int) : Nat → Int := mulE A (fun q => A (q % R * C + q / R)) C R
theorem turn_zb {R C S : Nat} {A : Nat → Int} (hA : ∀ q, q < R * C → ZB S (A q)) : ∀ q, q < C * R → ZB S (A (q % R * C + q / R)) := fun q hq => by
  obtain ⟨h1, h2⟩ := idx_at hq
  exact hA _ (idx_lt h2 h1 rfl).1
theorem gmE_zb {R C S : Nat} {A : Nat → Int} (hC : C ≤ 64) (hA : ∀ q, q < R * C → ZB S (A q)) : ∀ q, q < R * R → ZB (S + S + 1) (gmE R C A q) := mulE_zb (R := R) (C := R) hC hA (turn_zb hA)
theorem Gram_good (R C S : Nat) (sl : Value) (A : Nat → Int) (w : World) (hR : R ≤ 64) (hC : C ≤ 64) (hS : S ≤ 100000000) (hr : RdE w sl (R * C) A) (hA : ∀ q, q < R * C → ZB S (A q)) :
    Calls Try.prog 66 #[.agg #[.int .i64 R, .int .i64 C, sl]] w fun e w' => ∃ lb, e = .returned (.tuple #[.agg #[.int .i64 R, .int .i64 R, .slice (some ⟨lb, 0, none⟩) (R * R) (R * R)], .int .i64 0]) ∧
      FrE w' w.heap.size (fun b => b ≤ lb) lb (R * R) (gmE R C A) ∧ Below w.heap.size w w' := by
  have hK4 : R * C ≤ 4096 := Nat.mul_le_mul hR hC
  have hK5 : C * R ≤ 4096 := Nat.mul_le_mul hC hR
  obtain ⟨a, cap, rfl, hcap⟩ := hr.slice
  have htu := fun (u : World) (hu : Below w.heap.size w u) => Turn_good R C _ A u hR hC (hr.below hu)
  have hmu := fun (u : World) (v : Value) (hu : Below w.heap.size w u) (hv : RdE u v (C * R) (fun q => A (q % R * C + q / R))) => Mul_good R C R S S _ v A _ u hR hC hR (by omega) (hr.below hu) hv hA (turn_zb hA)
  change ∀ u v, Below w.heap.size w u → RdE u v (C * R) (fun q => A (q % R * C + q / R)) → Calls Try.prog 16 _ u fun e w' => ∃ lb, e = _ ∧ FrE w' u.heap.size (fun b => b ≤ lb) lb (R * R) (gmE R C A) ∧ _ at hmu
  obtain ⟨N, hN⟩ : ∃ N, N = R * C := ⟨_, rfl⟩
  obtain ⟨M, hM⟩ : ∃ M, M = C * R := ⟨_, rfl⟩
  obtain ⟨L, hL⟩ : ∃ L, L = R * R := ⟨_, rfl⟩
  obtain ⟨T, hT⟩ : ∃ T, T = fun q => A (q % R * C + q / R) := ⟨_, rfl⟩
  rw [← hN] at htu hmu ⊢
  rw [← hM] at htu hmu hK5
  rw [← hT] at htu hmu
  rw [← hL] at hmu ⊢
  have HTU := Lib.hid htu
  have HMU := Lib.hid hmu
  have HB := Lib.hid (two_mats w (.int .i64 R) (.int .i64 C) (.slice a N cap) (.int .i64 0) (.int .i64 0) (.slice none 0 0))
  obtain ⟨h1, h2, h3⟩ := two_mbox w R C 0 0 (.slice a N cap) (.slice none 0 0)
  have HM := Lib.hid h1
  have HR := Lib.hid h2
  have HS := Lib.hid h3
  clear htu hmu h1 h2 h3 hr hA hN hM hL hT hcap hS hK4
  have HM_0 := HM.out.m0
  have HM_1 := HM.out.m1
  have HM_2 := HM.out.m2
  go_enter Try.func66, Try.ntmps66
  go_upto_region 1 with fail
  generalize (w.alloc (.cells #[.int .i64 R, .int .i64 C, .slice a N cap] 24)).alloc (.cells #[.int .i64 0, .int .i64 0, .slice none 0 0] 24) = W at *
  go_wp2_with fail
  (refine (HTU.out W HB.out).mono ?_)
  rintro e w1 ⟨lt, rfl, hf, hb⟩
  have hba := bl_alloc w1 (.cells #[.int .i64 C, .int .i64 R, .slice (some ⟨lt, 0, none⟩) M M] 24)
  have hbx := below_via hb hba
  have HTM := Lib.hid (MBox.new w1 C R (.slice (some ⟨lt, 0, none⟩) M M))
  have HTL := Lib.hid ((hf.rd (Nat.le_refl _) (by omega)).below hba)
  replace HM := Lib.hid (HM.out.below hbx)
  replace HR := Lib.hid (HR.out.below hbx)
  replace HB := Lib.hid (below_via HB.out hbx)
  have HZ := Lib.hid (show w.heap.size + 2 ≤ (w1.alloc (.cells #[.int .i64 C, .int .i64 R, .slice (some ⟨lt, 0, none⟩) M M] 24)).heap.size by have := HS.out; have := hbx.size; omega)
  clear HM_0 HM_1 HM_2
  clear hf hb hba hbx HTU HS
  go_upto_region 2 with fail
  obtain ⟨tb, htb⟩ : ∃ tb, tb = w1.heap.size := ⟨_, rfl⟩
  rw [← htb] at HTM ⊢
  clear htb
  generalize w1.alloc (.cells #[.int .i64 C, .int .i64 R, .slice (some ⟨lt, 0, none⟩) M M] 24) = w2 at *
  have HM_0 := HM.out.m0
  have HM_1 := HM.out.m1
  have HM_2 := HM.out.m2
  have HTM_0 := HTM.out.m0
  have HTM_1 := HTM.out.m1
  have HTM_2 := HTM.out.m2
  go_wp2_with fail
  (refine (HMU.out w2 _ HB.out HTL.out).mono ?_)
  rintro e w3 ⟨lb, rfl, hf, hb⟩
  have hlb := hf.own
  have hz := HZ.out
  have hr1 := HR.out.below hb
  have hg := stored3_gb w3 (w.heap.size + 1) (.int .i64 R) (.int .i64 R) (.slice (some ⟨lb, 0, none⟩) L L)
  have hr2 := hr1.store (r' := R) (c' := R) (v' := .slice (some ⟨lb, 0, none⟩) L L)
  have hb3 := below_via HB.out hb
  have HBF := Lib.hid (hb3.grown hg hb3.size (fun k hk => by injection hk with hk; omega))
  have HF := Lib.hid ((hf.mono HB.out.size).grown hg (by omega) (show w.heap.size + 1 ≤ lb by omega))
  have r0 := hr1.m0
  have r1 := hr1.m1
  have r2 := hr1.m2
  have r3 := hr1.f0
  have r4 := hr1.f1
  have r5 := hr1.f2
  have p0 := hr2.m0
  have p1 := hr2.m1
  have p2 := hr2.m2
  unfold stored3 at p0 p1 p2
  clear HM_0 HM_1 HM_2 HTM_0 HTM_1 HTM_2
  clear hf hb hlb hz hr1 hr2 hg hb3 HM HTM HTL HMU HR HB HZ
  go_wp2_with fail
  refine bodyPost_ret (v := .tuple #[.agg #[.int .i64 R, .int .i64 R, .slice (some ⟨lb, 0, none⟩) L L], .int .i64 0]) ?_ rfl ⟨lb, rfl, HF.out, HBF.out⟩
  simp [results, Try.results66, go_sem, p0, p1, p2]
theorem Gram_bad (r c : Int) (a : Option Addr) (n cap : Nat) (hn : n ≤ 17592186044416) (hE : checkE r c n = 1) (w : World) :
    Calls Try.prog 66 #[.agg #[.int .i64 r, .int .i64 c, .slice a n cap]] w fun e w' => e = .returned (.tuple #[.agg #[.int .i64 0, .int .i64 0, .slice none 0 0], .int .i64 1]) ∧ Below w.heap.size w w' := by
  have HTU := Lib.hid (fun (u : World) => Turn_bad r c a n cap hn hE u)
  have HB := Lib.hid (two_mats w (.int .i64 r) (.int .i64 c) (.slice a n cap) (.int .i64 0) (.int .i64 0) (.slice none 0 0))
  obtain ⟨h1, h2, h3⟩ := two_mbox w r c 0 0 (.slice a n cap) (.slice none 0 0)
  have HM := Lib.hid h1
  have HR := Lib.hid h2
  clear h1 h2 h3 hE
  have HM_0 := HM.out.m0
  have HM_1 := HM.out.m1
  have HM_2 := HM.out.m2
  go_enter Try.func66, Try.ntmps66
  go_upto_region 1 with fail
  generalize (w.alloc (.cells #[.int .i64 r, .int .i64 c, .slice a n cap] 24)).alloc (.cells #[.int .i64 0, .int .i64 0, .slice none 0 0] 24) = W at *
  go_wp2_with fail
  (refine (HTU.out W).mono ?_)
  rintro e w1 ⟨rfl, hb⟩
  have hbx := below_via hb (bl_alloc w1 (.cells #[.int .i64 0, .int .i64 0, .slice none 0 0] 24))
  replace HR := Lib.hid (HR.out.below hbx)
  replace HB := Lib.hid (below_via HB.out hbx)
  clear HM_0 HM_1 HM_2
  clear hb hbx HTU HM
  go_upto_region 2 with fail
  generalize w1.alloc (.cells #[.int .i64 0, .int .i64 0, .slice none 0 0] 24) = w2 at *
  have hg := stored3_gb w2 (w.heap.size + 1) (.int .i64 0) (.int .i64 0) (.slice none 0 0)
  have hr2 := HR.out.store (r' := 0) (c' := 0) (v' := .slice none 0 0)
  have HBF := Lib.hid (HB.out.grown hg HB.out.size (fun k hk => by injection hk with hk; omega))
  have r0 := HR.out.m0
  have r1 := HR.out.m1
  have r2 := HR.out.m2
  have r3 := HR.out.f0
  have r4 := HR.out.f1
  have r5 := HR.out.f2
  have p0 := hr2.m0
  have p1 := hr2.m1
  have p2 := hr2.m2
  unfold stored3 at p0 p1 p2
  clear hr2 hg HR HB
  go_wp2_with fail
  refine bodyPost_ret (v := .tuple #[.agg #[.int .i64 0, .int .i64 0, .slice none 0 0], .int .i64 1]) ?_ rfl ⟨rfl, HBF.out⟩
  simp [results, Try.results66, go_sem, p0, p1, p2]
theorem Dets_bad (r c : Int) (a : Option Addr) (n cap : Nat) (hn : n ≤ 17592186044416) (hE : checkE r c n = 1) (w : World) :
    Calls Try.prog 67 #[.agg #[.int .i64 r, .int .i64 c, .slice a n cap]] w fun e w' => e = .returned (.tuple #[.slice none 0 0, .int .i64 1]) ∧ Below w.heap.size w w' := by
  have HG := Lib.hid (fun (u : World) => Gram_bad r c a n cap hn hE u)
  have HB := Lib.hid (bl_alloc w (.cells #[.int .i64 r, .int .i64 c, .slice a n cap] 24))
  have HM := Lib.hid (MBox.new w r c (.slice a n cap))
  clear hE
  have HM_0 := HM.out.m0
  have HM_1 := HM.out.m1
  have HM_2 := HM.out.m2
  go_enter Try.func67, Try.ntmps67
  go_upto_region 1 with fail
  generalize w.alloc (.cells #[.int .i64 r, .int .i64 c, .slice a n cap] 24) = W at *
  go_wp2_with fail
  (refine (HG.out W).mono ?_)
  rintro e w1 ⟨rfl, hb⟩
  have hbx := below_via hb (bl_alloc w1 (.cells #[.int .i64 0, .int .i64 0, .slice none 0 0] 24))
  replace HB := Lib.hid (below_via HB.out hbx)
  clear HM_0 HM_1 HM_2
  clear hb hbx HG HM
  go_upto_region 2 with fail
  generalize w1.alloc (.cells #[.int .i64 0, .int .i64 0, .slice none 0 0] 24) = w2 at *
  go_wp2_with fail
  refine bodyPost_ret (v := .tuple #[.slice none 0 0, .int .i64 1]) ?_ rfl ⟨rfl, HB.out⟩
  simp [results, Try.results67, go_sem]
theorem Dets_good (R C S : Nat) (sl : Value) (A : Nat → Int) (w : World) (hR : R ≤ 64) (hC : C ≤ 64) (hS : S ≤ 100000000) (hr : RdE w sl (R * C) A) (hA : ∀ q, q < R * C → ZB S (A q)) :
    Calls Try.prog 67 #[.agg #[.int .i64 R, .int .i64 C, sl]] w fun e w' => ∃ v, e = .returned (.tuple #[v, .int .i64 0]) ∧ OwnZ w' w.heap.size v (R + 1) (leadD (gmE R C A) R) ∧ Below w.heap.size w w' := by
  have hK6 : R * R ≤ 4096 := Nat.mul_le_mul hR hR
  obtain ⟨a, cap, rfl, hcap⟩ := hr.slice
  have hg := fun (u : World) (hu : Below w.heap.size w u) => Gram_good R C S _ A u hR hC hS (hr.below hu) hA
  have hl := fun (u : World) (v : Value) (hv : RdE u v (R * R) (gmE R C A)) => Leading_good R (S + S + 1) v (gmE R C A) u hR (by omega) hv (gmE_zb hC hA)
  obtain ⟨N, hN⟩ : ∃ N, N = R * C := ⟨_, rfl⟩
  obtain ⟨L, hL⟩ : ∃ L, L = R * R := ⟨_, rfl⟩
  rw [← hN] at hg ⊢
  rw [← hL] at hg hl hK6
  have HG := Lib.hid hg
  have HL := Lib.hid hl
  have HB := Lib.hid (bl_alloc w (.cells #[.int .i64 R, .int .i64 C, .slice a N cap] 24))
  have HM := Lib.hid (MBox.new w R C (.slice a N cap))
  clear hg hl hr hA hN hL hcap hS
  have HM_0 := HM.out.m0
  have HM_1 := HM.out.m1
  have HM_2 := HM.out.m2
  go_enter Try.func67, Try.ntmps67
  go_upto_region 1 with fail
  generalize w.alloc (.cells #[.int .i64 R, .int .i64 C, .slice a N cap] 24) = W at *
  go_wp2_with fail
  (refine (HG.out W HB.out).mono ?_)
  rintro e w1 ⟨lb, rfl, hf, hb⟩
  have hba := bl_alloc w1 (.cells #[.int .i64 R, .int .i64 R, .slice (some ⟨lb, 0, none⟩) L L] 24)
  have hbx := below_via hb hba
  have HGM := Lib.hid (MBox.new w1 R R (.slice (some ⟨lb, 0, none⟩) L L))
  have HGL := Lib.hid ((hf.rd (Nat.le_refl _) (by omega)).below hba)
  replace HB := Lib.hid (below_via HB.out hbx)
  clear HM_0 HM_1 HM_2
  clear hf hb hba hbx HG HM
  go_upto_region 2 with fail
  obtain ⟨gb, hgb⟩ : ∃ gb, gb = w1.heap.size := ⟨_, rfl⟩
  rw [← hgb] at HGM ⊢
  clear hgb
  generalize w1.alloc (.cells #[.int .i64 R, .int .i64 R, .slice (some ⟨lb, 0, none⟩) L L] 24) = w2 at *
  have HGM_0 := HGM.out.m0
  have HGM_1 := HGM.out.m1
  have HGM_2 := HGM.out.m2
  go_wp2_with fail
  (refine (HL.out w2 _ HGL.out).mono ?_)
  rintro e w3 ⟨v, rfl, ho, hb⟩
  have HO := Lib.hid (ho.mono HB.out.size)
  replace HB := Lib.hid (below_via HB.out hb)
  clear HGM_0 HGM_1 HGM_2
  clear ho hb HL HGL HGM
  go_wp2_with fail
  refine bodyPost_ret (v := .tuple #[v, .int .i64 0]) ?_ rfl ⟨v, rfl, HO.out, HB.out⟩
  simp [results, Try.results67, go_sem]
end Go.Proofs.Ytejliecmdkmgiaa
namespace Go.Proofs.Ytejliecmdkmgiaa
open laZ
theorem sg_two (k j : Nat) : (if (k + j) % 2 = 1 then (-1 : Int) else 1) = sg k * sg j := by
  unfold sg
  by_cases h1 : k % 2 = 0 <;> by_cases h2 : j % 2 = 0
  · rw [if_neg (by omega), if_pos h1, if_pos h2]; rfl
  · rw [if_pos (by omega), if_pos h1, if_neg h2]; rfl
  · rw [if_pos (by omega), if_neg h1, if_pos h2]; rfl
  · rw [if_neg (by omega), if_neg h1, if_neg h2]; rfl
theorem dt_rank1 (m : Nat) (u v : Nat → Int) (G : Nat → Nat → Int) : dt (m + 1) (fun i j => u i * v j + G i j) = dt (m + 1) G + sm (m + 1) (fun k => u k * dt (m + 1) (rwr k v G)) := by
  have key : ∀ k, k ≤ m + 1 → dt (m + 1) (fun i j => (if i < k then u i * v j else 0) + G i j) = dt (m + 1) G + sm k (fun l => u l * dt (m + 1) (rwr l v G)) := by
    intro k
    induction k with
    | zero =>
      intro _
      show _ = dt (m + 1) G + 0
      rw [Int.add_zero]
      exact dt_congr fun i j _ _ => by rw [if_neg (Nat.not_lt_zero i), Int.zero_add]
    | succ k ih =>
      intro hk
      obtain ⟨H, hH⟩ : ∃ H : Nat → Nat → Int, H = fun i j => (if i < k then u i * v j else 0) + G i j := ⟨_, rfl⟩
      have h1 : dt (m + 1) (fun i j => (if i < k + 1 then u i * v j else 0) + G i j) = dt (m + 1) (rwr k (fun j => u k * v j + 1 * H k j) H) := dt_congr fun i j _ _ => by
        by_cases e : i = k
        · subst e
          rw [rwr_at, if_pos (by omega), hH]
          show _ = u i * v j + 1 * ((if i < i then u i * v j else 0) + G i j)
          rw [if_neg (Nat.lt_irrefl i), Int.zero_add, Int.one_mul]
        · rw [rwr_ne _ _ _ e, hH]
          show _ = (if i < k then u i * v j else 0) + G i j
          by_cases h : i < k
          · rw [if_pos h, if_pos (by omega)]
          · rw [if_neg h, if_neg (by omega)]
      have h2 : dt (m + 1) (rwr k v H) = dt (m + 1) (rwr k v G) := by
        rw [← dt_elim (r := k) (rwr k v G) (fun l => if l < k then - u l else 0) (by omega)]
        refine dt_congr fun l c _ _ => ?_
        by_cases e : l = k
        · subst e
          rw [if_pos rfl, rwr_at, rwr_at]
        · rw [if_neg e, rwr_ne _ _ _ e, rwr_ne _ _ _ e, rwr_at, hH]
          show (if l < k then u l * v c else 0) + G l c = _
          by_cases h : l < k
          · rw [if_pos h, if_pos h, Int.neg_mul]; omega
          · rw [if_neg h, if_neg h, Int.zero_mul]; omega
      rw [h1, dt_lin H (u k) 1 v (H k) (by omega), rwr_self, h2, Int.one_mul, hH, ih (by omega)]
      show _ = dt (m + 1) G + (sm k _ + u k * dt (m + 1) (rwr k v G))
      omega
  have := key (m + 1) (Nat.le_refl _)
  rw [← this]
  exact dt_congr fun i j hi _ => by rw [if_pos hi]
def CB : Nat → Nat → (Nat → Nat → Int) → (Nat → Nat → Int) → Int
  | _, 0, _, _ => 1
  | 0, _ + 1, _, _ => 0
  | n + 1, K + 1, A, B => sm (K + 1) (fun i => sm (K + 1) (fun j => (sg i * A i 0) * (sg j * B j 0) * CB n K (fun r c => A (sk i r) (c + 1)) (fun r c => B (sk j r) (c + 1)))) + CB n (K + 1) (fun i c => A i (c + 1)) (fun i c => B i (c + 1))
theorem CB_zero (n : Nat) (A B : Nat → Nat → Int) : CB n 0 A B = 1 := by cases n <;> rfl
theorem CB_dt : ∀ (n K : Nat) (A B : Nat → Nat → Int), CB n K A B = dt K (fun i j => sm n (fun c => A i c * B j c))
  | n, 0, A, B => CB_zero n A B
  | 0, K + 1, A, B => (dt_zero _ (r := 0) (by omega) (fun _ _ => rfl)).symm
  | n + 1, K + 1, A, B => by
    obtain ⟨G, hG⟩ : ∃ G : Nat → Nat → Int, G = fun i j => sm n (fun c => A i (c + 1) * B j (c + 1)) := ⟨_, rfl⟩
    have h1 : dt (K + 1) (fun i j => sm (n + 1) (fun c => A i c * B j c)) = dt (K + 1) (fun i j => A i 0 * B j 0 + G i j) := dt_congr fun i j _ _ => by rw [sm_first, hG]
    rw [h1, dt_rank1 K (fun i => A i 0) (fun j => B j 0) G]
    show sm (K + 1) _ + CB n (K + 1) _ _ = _
    rw [CB_dt n (K + 1), Int.add_comm, ← hG]
    congr 1
    refine sm_congr fun i hi => ?_
    rw [cof_row G _ hi, ← sm_mul]
    refine sm_congr fun j _ => ?_
    rw [CB_dt n K]
    unfold cof
    rw [sg_two, hG]
    show sg i * A i 0 * (sg j * B j 0) * dt K (fun r c => sm n (fun l => A (sk i r) (l + 1) * B (sk j c) (l + 1))) = A i 0 * (B j 0 * (sg i * sg j * dt K (fun r c => sm n (fun l => A (sk i r) (l + 1) * B (sk j c) (l + 1)))))
    grind
end Go.Proofs.Ytejliecmdkmgiaa
namespace Go.Proofs.Ytejliecmdkmgiaa
open laZ
theorem hiI_cons {n K : Nat} {S P : Nat → Nat} (hK : K ≤ n) : ∀ {j}, j ≤ K → (∀ i, i < j → P (i + 1) = S i + 1) → 0 < hiI n K S j → hiI (n + 1) (K + 1) P (j + 1) = hiI n K S j + 1
  | 0, _, _, h => absurd h (by unfold hiI; omega)
  | j + 1, hj, hP, h => by
    have e : P (j + 1) = S j + 1 := hP j (by omega)
    show (if P (j + 1) = n + 1 - (K + 1) + (j + 1) then hiI (n + 1) (K + 1) P (j + 1) else j + 1 + 1) = (if S j = n - K + j then hiI n K S j else j + 1) + 1
    by_cases c : S j = n - K + j
    · have h1 : hiI n K S (j + 1) = hiI n K S j := by show (if S j = n - K + j then hiI n K S j else j + 1) = _; rw [if_pos c]
      rw [if_pos c, if_pos (by omega)]
      rw [h1] at h
      exact hiI_cons hK (by omega) (fun i hi => hP i (by omega)) h
    · rw [if_neg c, if_neg (by omega)]
theorem setS_cons {n K : Nat} (hK : K ≤ n) : ∀ t, t < bn n K → ∀ i, i < K + 1 → setS (n + 1) (K + 1) t i = if i = 0 then 0 else setS n K t (i - 1) + 1
  | 0, _, i, _ => by
    show i = if i = 0 then 0 else (i - 1) + 1
    by_cases h : i = 0
    · rw [if_pos h, h]
    · rw [if_neg h]; omega
  | t + 1, ht, i, hi => by
    have ih := setS_cons hK t (by omega)
    have hn := no_last hK ht t (by omega)
    have hh := hiI_cons (P := setS (n + 1) (K + 1) t) (S := setS n K t) hK (Nat.le_refl K) (fun j hj => by
      rw [ih (j + 1) (by omega), if_neg (by omega)]; rfl) (Nat.pos_of_ne_zero hn)
    have hle := hiI_le n K (setS n K t) K
    have hpos : 0 < hiI n K (setS n K t) K := Nat.pos_of_ne_zero hn
    show nxtS (n + 1) (K + 1) (setS (n + 1) (K + 1) t) i = if i = 0 then 0 else nxtS n K (setS n K t) (i - 1) + 1
    unfold nxtS
    rw [hh]
    obtain ⟨h, e⟩ : ∃ h, h = hiI n K (setS n K t) K := ⟨_, rfl⟩
    rw [← e] at hle hpos ⊢
    by_cases h0 : i = 0
    · subst h0
      rw [if_pos (by omega), if_pos rfl, ih 0 (by omega), if_pos rfl]
    · rw [if_neg h0]
      by_cases h1 : i + 1 < h + 1
      · rw [if_pos h1, if_pos (by omega), ih i hi, if_neg h0]
      · rw [if_neg h1, if_neg (by omega), ih (h + 1 - 1) (by omega), if_neg (by omega)]
        rw [show h + 1 - 1 - 1 = h - 1 by omega]
        omega
theorem hiI_shift {n K : Nat} {S P : Nat → Nat} (hK : K ≤ n) : ∀ {j}, j ≤ K → (∀ i, i < j → P i = S i + 1) → hiI (n + 1) K P j = hiI n K S j
  | 0, _, _ => rfl
  | j + 1, hj, hP => by
    show (if P j = n + 1 - K + j then hiI (n + 1) K P j else j + 1) = (if S j = n - K + j then hiI n K S j else j + 1)
    rw [hP j (by omega), hiI_shift hK (by omega) (fun i hi => hP i (by omega))]
    by_cases c : S j = n - K + j
    · rw [if_pos c, if_pos (by omega)]
    · rw [if_neg c, if_neg (by omega)]
theorem setS_behind {n K : Nat} (hK : K + 1 ≤ n) : ∀ s, s < bn n (K + 1) → ∀ i, i < K + 1 → setS (n + 1) (K + 1) (bn n K + s) i = setS n (K + 1) s i + 1
  | 0, _, i, hi => by
    have hp := bn_pos (n := n) (k := K) (by omega)
    obtain ⟨t, ht⟩ : ∃ t, bn n K = t + 1 := ⟨bn n K - 1, by omega⟩
    have hc := setS_cons (n := n) (K := K) (by omega) t (by omega)
    have hl := is_last (N := n) (K := K) (t := t) (by omega) ht.symm
    unfold LastS at hl
    have hi1 : hiI (n + 1) (K + 1) (setS (n + 1) (K + 1) t) (K + 1) = hiI (n + 1) (K + 1) (setS (n + 1) (K + 1) t) 1 := hiI_down (n + 1) (K + 1) _ (K + 1) 1 (by omega) (fun k h1 h2 => by
      rw [hc k h2, if_neg (by omega), hiI_high n K (setS n K t) K (k - 1) (by omega) (by omega)]
      omega)
    have hi2 : hiI (n + 1) (K + 1) (setS (n + 1) (K + 1) t) 1 = 1 := by
      show (if setS (n + 1) (K + 1) t 0 = n + 1 - (K + 1) + 0 then _ else 0 + 1) = 1
      rw [hc 0 (by omega), if_pos rfl, if_neg (by omega)]
    rw [Nat.add_zero, ht]
    show nxtS (n + 1) (K + 1) (setS (n + 1) (K + 1) t) i = i + 1
    unfold nxtS
    rw [hi1, hi2, if_neg (by omega), hc (1 - 1) (by omega), if_pos rfl]
    omega
  | s + 1, hs, i, hi => by
    have ih := setS_behind hK s (by omega)
    have hh := hiI_shift (P := setS (n + 1) (K + 1) (bn n K + s)) (S := setS n (K + 1) s) hK (Nat.le_refl (K + 1)) ih
    have hn := no_last hK hs s (by omega)
    have hpos : 0 < hiI n (K + 1) (setS n (K + 1) s) (K + 1) := Nat.pos_of_ne_zero hn
    have hle := hiI_le n (K + 1) (setS n (K + 1) s) (K + 1)
    show nxtS (n + 1) (K + 1) (setS (n + 1) (K + 1) (bn n K + s)) i = nxtS n (K + 1) (setS n (K + 1) s) i + 1
    unfold nxtS
    rw [hh]
    obtain ⟨h, e⟩ : ∃ h, h = hiI n (K + 1) (setS n (K + 1) s) (K + 1) := ⟨_, rfl⟩
    rw [← e] at hpos hle ⊢
    by_cases h1 : i + 1 < h
    · rw [if_pos h1, if_pos h1, ih i hi]
    · rw [if_neg h1, if_neg h1, ih (h - 1) (by omega)]
      omega
theorem sm_mul_sm (m n : Nat) (f g : Nat → Int) : sm m f * sm n g = sm m (fun i => sm n (fun j => f i * g j)) := by
  rw [← sm_mul_r]
  exact sm_congr fun i _ => (sm_mul n (f i) g).symm
theorem CB_sum : ∀ (n K : Nat) (A B : Nat → Nat → Int), CB n K A B = sm (bn n K) (fun t => dt K (fun i j => A i (setS n K t j)) * dt K (fun i j => B i (setS n K t j)))
  | n, 0, A, B => by
    rw [CB_zero, bn_zero]
    rfl
  | 0, K + 1, A, B => rfl
  | n + 1, K + 1, A, B => by
    rw [bn_succ, sm_split]
    show sm (K + 1) _ + CB n (K + 1) _ _ = _
    congr 1
    · by_cases hK : K ≤ n
      · have e : ∀ (A : Nat → Nat → Int) (t : Nat), t < bn n K → dt (K + 1) (fun i j => A i (setS (n + 1) (K + 1) t j)) = sm (K + 1) (fun i => sg i * A i 0 * dt K (fun r c => A (sk i r) (setS n K t c + 1))) := fun A t ht => by
          have hc := setS_cons hK t ht
          show sm (K + 1) (fun i => sg i * A i (setS (n + 1) (K + 1) t 0) * dt K (fun r c => A (sk i r) (setS (n + 1) (K + 1) t (c + 1)))) = _
          refine sm_congr fun i _ => ?_
          rw [hc 0 (by omega), if_pos rfl]
          congr 1
          exact dt_congr fun r c _ hcK => by rw [hc (c + 1) (by omega), if_neg (by omega)]; rfl
        have e2 : sm (bn n K) (fun t => dt (K + 1) (fun i j => A i (setS (n + 1) (K + 1) t j)) * dt (K + 1) (fun i j => B i (setS (n + 1) (K + 1) t j))) = sm (bn n K) (fun t => sm (K + 1) (fun i => sm (K + 1) (fun j => (sg i * A i 0 * (sg j * B j 0)) * (dt K (fun r c => A (sk i r) (setS n K t c + 1)) * dt K (fun r c => B (sk j r) (setS n K t c + 1)))))) := sm_congr fun t ht => by
          rw [e A t ht, e B t ht, sm_mul_sm]
          refine sm_congr fun i _ => sm_congr fun j _ => ?_
          grind
        rw [e2]
        refine Eq.trans ?_ (sm_comm (bn n K) (K + 1) _).symm
        refine sm_congr fun i _ => ?_
        refine Eq.trans ?_ (sm_comm (bn n K) (K + 1) _).symm
        refine sm_congr fun j _ => ?_
        rw [sm_mul, CB_sum n K]
      · rw [bn_high (by omega)]
        refine sm_zero fun i _ => sm_zero fun j _ => ?_
        rw [CB_sum n K, bn_high (by omega)]
        exact Int.mul_zero _
    · rw [CB_sum n (K + 1)]
      by_cases hK : K + 1 ≤ n
      · refine sm_congr fun s hs => ?_
        have hc := setS_behind hK s hs
        congr 1
        · exact dt_congr fun i j _ hj => by rw [hc j hj]
        · exact dt_congr fun i j _ hj => by rw [hc j hj]
      · rw [bn_high (n := n) (k := K + 1) (by omega)]
        rfl
theorem gram_sum (n K : Nat) (A : Nat → Nat → Int) : dt K (fun i j => sm n (fun c => A i c * A j c)) = sm (bn n K) (fun t => dt K (fun i j => A i (setS n K t j)) * dt K (fun i j => A i (setS n K t j))) := by
  rw [← CB_dt, CB_sum]
theorem sm_nonneg : ∀ {n : Nat} {f : Nat → Int}, (∀ i, i < n → 0 ≤ f i) → 0 ≤ sm n f
  | 0, _, _ => Int.le_refl _
  | n + 1, f, h => Int.add_nonneg (sm_nonneg (n := n) fun i hi => h i (by omega)) (h n (by omega))
theorem sq_nonneg (a : Int) : 0 ≤ a * a := by
  rcases Int.le_total 0 a with h | h
  · exact Int.mul_nonneg h h
  · have := Int.mul_nonneg (show 0 ≤ -a by omega) (show 0 ≤ -a by omega)
    rwa [Int.neg_mul_neg] at this
theorem gram_nonneg (n K : Nat) (A : Nat → Nat → Int) : 0 ≤ dt K (fun i j => sm n (fun c => A i c * A j c)) := by
  rw [gram_sum]
  exact sm_nonneg fun i _ => sq_nonneg _
theorem gram_high {n K : Nat} (A : Nat → Nat → Int) (h : n < K) : dt K (fun i j => sm n (fun c => A i c * A j c)) = 0 := by
  rw [gram_sum, bn_high h]
  rfl
end Go.Proofs.Ytejliecmdkmgiaa
namespace Go.Proofs.Ytejliecmdkmgiaa
open laZ
theorem setS_rises : ∀ (n K t : Nat), t < bn n K → ∀ i, i + 1 < K → setS n K t i < setS n K t (i + 1)
  | _, 0, _, _, i, hi => absurd hi (by omega)
  | 0, K + 1, t, ht, _, _ => absurd ht (Nat.not_lt_zero t)
  | n + 1, K + 1, t, ht, i, hi => by
    rw [bn_succ] at ht
    by_cases h : t < bn n K
    · have hK : K ≤ n := by
        by_cases e : K ≤ n
        · exact e
        · rw [bn_high (by omega)] at h; omega
      have hc := setS_cons hK t h
      rw [hc i (by omega), hc (i + 1) (by omega), if_neg (by omega : ¬ i + 1 = 0), Nat.add_sub_cancel]
      by_cases h0 : i = 0
      · rw [if_pos h0]; omega
      · rw [if_neg h0]
        have := setS_rises n K t h (i - 1) (by omega)
        rw [show i - 1 + 1 = i by omega] at this
        omega
    · obtain ⟨s, rfl⟩ : ∃ s, t = bn n K + s := ⟨t - bn n K, by omega⟩
      have hs : s < bn n (K + 1) := by omega
      have hK : K + 1 ≤ n := by
        by_cases e : K + 1 ≤ n
        · exact e
        · rw [bn_high (n := n) (k := K + 1) (by omega)] at hs; omega
      have hc := setS_behind hK s hs
      rw [hc i (by omega), hc (i + 1) (by omega)]
      have := setS_rises n (K + 1) s hs i hi
      omega
theorem setS_all : ∀ (n K : Nat) (P : Nat → Nat), (∀ i, i + 1 < K → P i < P (i + 1)) → (∀ i, i < K → P i < n) → ∃ t, t < bn n K ∧ ∀ i, i < K → setS n K t i = P i
  | n, 0, P, _, _ => ⟨0, by rw [bn_zero]; omega, fun i hi => absurd hi (by omega)⟩
  | 0, K + 1, P, _, hP => absurd (hP 0 (by omega)) (Nat.not_lt_zero _)
  | n + 1, K + 1, P, hr, hP => by
    have hpos : ∀ i, i < K + 1 → i ≤ P i := fun i => by
      induction i with
      | zero => intro _; exact Nat.zero_le _
      | succ i ih => intro hi; have := ih (by omega); have := hr i hi; omega
    by_cases h0 : P 0 = 0
    · have hp1 : ∀ i, i + 1 < K + 1 → 1 ≤ P (i + 1) := fun i hi => by have := hpos (i + 1) hi; omega
      obtain ⟨t, ht, hs⟩ := setS_all n K (fun i => P (i + 1) - 1) (fun i hi => by
        have := hr (i + 1) (by omega)
        have := hp1 i (by omega)
        show P (i + 1) - 1 < P (i + 1 + 1) - 1
        omega) (fun i hi => by
        have := hP (i + 1) (by omega)
        have := hp1 i (by omega)
        show P (i + 1) - 1 < n
        omega)
      have hK : K ≤ n := by
        by_cases e : K ≤ n
        · exact e
        · rw [bn_high (by omega)] at ht; omega
      refine ⟨t, by rw [bn_succ]; omega, fun i hi => ?_⟩
      rw [setS_cons hK t ht i hi]
      by_cases e : i = 0
      · rw [if_pos e, e, h0]
      · rw [if_neg e, hs (i - 1) (by omega)]
        have := hp1 (i - 1) (by omega)
        show P (i - 1 + 1) - 1 + 1 = P i
        rw [show i - 1 + 1 = i by omega] at this ⊢
        omega
    · have hp1 : ∀ i, i < K + 1 → 1 ≤ P i := fun i => by
        induction i with
        | zero => intro _; omega
        | succ i ih => intro hi; have := hr i hi; omega
      obtain ⟨s, hs, he⟩ := setS_all n (K + 1) (fun i => P i - 1) (fun i hi => by
        have := hr i hi
        have := hp1 i (by omega)
        show P i - 1 < P (i + 1) - 1
        omega) (fun i hi => by
        have := hP i hi
        have := hp1 i hi
        show P i - 1 < n
        omega)
      have hK : K + 1 ≤ n := by
        by_cases e : K + 1 ≤ n
        · exact e
        · rw [bn_high (n := n) (k := K + 1) (by omega)] at hs; omega
      refine ⟨bn n K + s, by rw [bn_succ]; omega, fun i hi => ?_⟩
      rw [setS_behind hK s hs i hi, he i hi]
      have := hp1 i hi
      show P i - 1 + 1 = P i
      omega
theorem sm_zero_each : ∀ {n : Nat} {f : Nat → Int}, (∀ i, i < n → 0 ≤ f i) → sm n f = 0 → ∀ i, i < n → f i = 0
  | 0, _, _, _, i, hi => absurd hi (by omega)
  | n + 1, f, h, hs, i, hi => by
    have h1 := sm_nonneg (n := n) (f := f) fun i hi => h i (by omega)
    have h2 := h n (by omega)
    have h3 : sm n f + f n = 0 := hs
    by_cases e : i = n
    · subst e; omega
    · exact sm_zero_each (n := n) (fun i hi => h i (by omega)) (by omega) i (by omega)
def grD (n K : Nat) (A : Nat → Nat → Int) : Int := dt K (fun i j => sm n (fun c => A i c * A j c))
theorem gram_next (n K : Nat) (A : Nat → Nat → Int) (h : grD n K A = 0) : grD n (K + 1) A = 0 := by
  unfold grD at h ⊢
  rw [gram_sum] at h ⊢
  have hz := sm_zero_each (fun i _ => sq_nonneg _) h
  refine sm_zero fun t ht => ?_
  have hm : dt (K + 1) (fun i j => A i (setS n (K + 1) t j)) = 0 := by
    have e := cof_row (n := K) (fun i j => A i (setS n (K + 1) t j)) (fun j => A K (setS n (K + 1) t j)) (k := K) (by omega)
    have e2 : rwr K (fun j => A K (setS n (K + 1) t j)) (fun i j => A i (setS n (K + 1) t j)) = fun i j => A i (setS n (K + 1) t j) := rwr_self K (fun i j => A i (setS n (K + 1) t j))
    rw [e2] at e
    rw [e]
    refine sm_zero fun j hj => ?_
    have hc : dt K (fun r c => A (laQ.sk K r) (setS n (K + 1) t (laQ.sk j c))) = 0 := by
      have hlt : ∀ i, i < K + 1 → setS n (K + 1) t i < n := fun i hi => by
        have hK : K + 1 ≤ n := by
          by_cases e : K + 1 ≤ n
          · exact e
          · rw [bn_high (n := n) (k := K + 1) (by omega)] at ht; omega
        exact setS_lt hK (no_last hK ht) hi
      have hri := setS_rises n (K + 1) t ht
      obtain ⟨s, hs, he⟩ := setS_all n K (fun c => setS n (K + 1) t (laQ.sk j c)) (fun i hi => by
        show setS n (K + 1) t (laQ.sk j i) < setS n (K + 1) t (laQ.sk j (i + 1))
        unfold laQ.sk
        by_cases h1 : i + 1 < j
        · rw [if_pos (by omega), if_pos h1]; exact hri i (by omega)
        · rw [if_neg h1]
          by_cases h2 : i < j
          · rw [if_pos h2]
            have := hri i (by omega)
            have := hri (i + 1) (by omega)
            omega
          · rw [if_neg h2]; exact hri (i + 1) (by omega)) (fun i hi => hlt _ (laQ.sk_lt hi))
      have h0 := hz s hs
      have h1 : dt K (fun i j => A i (setS n K s j)) = 0 := by
        rcases Int.mul_eq_zero.1 h0 with h | h <;> exact h
      rw [← h1]
      exact dt_congr fun r c hr hc => by
        rw [he c hc]
        unfold laQ.sk
        rw [if_pos hr]
    show A K _ * cof K _ j K = 0
    unfold cof
    rw [hc, Int.mul_zero, Int.mul_zero]
  rw [hm]
  rfl
theorem lead_gram {R C : Nat} (A : Nat → Int) {k : Nat} (hk : k ≤ R) : leadD (gmE R C A) R k = grD C k (fun i c => A (i * C + c)) := by
  unfold leadD grD
  refine dt_congr fun i j hi hj => ?_
  obtain ⟨h1, h2⟩ := idx_dm (i := i) (show j < R by omega)
  show sm C (fun l => A ((i * R + j) / R * C + l) * A ((l * R + (i * R + j) % R) % R * C + (l * R + (i * R + j) % R) / R)) = _
  refine sm_congr fun l hl => ?_
  obtain ⟨h3, h4⟩ := idx_dm (i := l) (show j < R by omega)
  rw [h1, h2, h3, h4]
end Go.Proofs.Ytejliecmdkmgiaa
namespace Go.Proofs.Ytejliecmdkmgiaa
open Go.RowKit Go.Shelf
theorem FrZ.rebase {w : World} {base base' : Nat} {s : Bool} {m : Value} {z : Int} (h : FrZ w base (.agg #[.bool s, m]) z) (hb : ∀ b, m.ownBlock = some b → base' ≤ b) : FrZ w base' (.agg #[.bool s, m]) z := by
  obtain ⟨m', n, f, e, h1, h2⟩ := h
  simp only [Value.agg.injEq, Array.mk.injEq, List.cons.injEq, and_true] at e
  obtain ⟨e1, rfl⟩ := e
  refine ⟨m, n, f, by rw [e1], ?_, h2⟩
  rcases h1 with h | ⟨b, cap, rfl, g1, g2, g3, g4⟩
  · exact Or.inl h
  · exact Or.inr ⟨b, cap, rfl, g1, g2, hb b rfl, g4⟩
theorem Dot_good (x y : Value) (n U : Nat) (E F : Nat → Int) (w : World) (hx : RdE w x n E) (hy : RdE w y n F) (hU : U ≤ 274877906944) (hp : ∀ i, i < n → ZB U (E i * F i)) (hs : ∀ i, i ≤ n → ZB U (laZ.sm i (fun j => E j * F j))) :
    Calls Try.prog 130 #[x, y] w fun e w' => ∃ v, e = .returned (.tuple #[v, .int .i64 0]) ∧ FrZ w' w.heap.size v (laZ.sm n (fun j => E j * F j)) ∧ Below w.heap.size w w' := by
  have hmix : Try.prog.follows .mixedOrders = true := by kernel_rfl
  have hn := hx.le_n
  obtain ⟨ax, cx, rfl, -⟩ := hx.slice
  obtain ⟨ay, cy, rfl, -⟩ := hy.slice
  obtain ⟨G, hG⟩ : ∃ G : Nat → Int, G = fun i => laZ.sm i (fun j => E j * F j) := ⟨_, rfl⟩
  have hG0 : G 0 = 0 := by rw [hG]; rfl
  have hG1 : ∀ i, G (i + 1) = E i * F i + G i := fun i => by rw [hG]; show laZ.sm i _ + E i * F i = _; exact Int.add_comm _ _
  have hGz : ∀ i, i ≤ n → ZB U (G i) := by rw [hG]; exact hs
  have hGn : laZ.sm n (fun j => E j * F j) = G n := by rw [hG]
  rw [hGn]
  have HX := Lib.hid hx
  have HY := Lib.hid hy
  have HP := Lib.hid hp
  have HGZ := Lib.hid hGz
  have HG0 := Lib.hid hG0
  have HG1 := Lib.hid hG1
  have HRB := Lib.hid (ZBox.new w false (.slice none 0 0))
  have HB := Lib.hid (bl_alloc w (.cells #[.bool false, .slice none 0 0] 49))
  have HS := Lib.hid (show (w.alloc (.cells #[.bool false, .slice none 0 0] 49)).heap.size = w.heap.size + 1 by simp)
  clear hx hy hp hs hG hG0 hG1 hGz hGn
  go_enter Try.func130, Try.ntmps130
  go_upto_region 3 with fail
  generalize w.alloc (.cells #[.bool false, .slice none 0 0] 49) = W at *
  have hba := bl_alloc W (.cells #[.bool false, .slice none 0 0] 49)
  have hz := ZBox.new W false (.slice none 0 0)
  rw [HS.out] at hz
  have hK0 : KBox (W.alloc (.cells #[.bool false, .slice none 0 0] 49)) (w.heap.size + 1) (G 0) none 0 0 := by
    rw [HG0.out]
    exact ⟨hz, ⟨.slice none 0 0, 0, fun _ => 0, rfl, Or.inl ⟨rfl, rfl⟩, ⟨fun i h => absurd h (by omega), fun h => absurd h (by omega), rfl⟩⟩⟩
  have HK0 := Lib.hid hK0
  replace HRB := Lib.hid (HRB.out.below hba)
  replace HB := Lib.hid (below_via HB.out hba)
  have HS2 := Lib.hid (show w.heap.size + 2 ≤ (W.alloc (.cells #[.bool false, .slice none 0 0] 49)).heap.size by have := HS.out; simp; omega)
  have hse := HS.out
  clear hba hz hK0 HS
  go_upto_region 4 with fail
  clear hse
  generalize W.alloc (.cells #[.bool false, .slice none 0 0] 49) = W2 at *
  go_wp2_with fail
  go_loopw [17] (fun iv wr => ∃ (i : Nat) (am : Option Addr) (an ac : Nat), i ≤ n ∧ iv = .int .i64 i ∧ Below w.heap.size w wr ∧ ZBox wr w.heap.size false (.slice none 0 0) ∧ KBox wr (w.heap.size + 1) (G i) am an ac ∧ w.heap.size + 2 ≤ wr.heap.size ∧ ∀ b, (Value.slice am an ac).ownBlock = some b → w.heap.size + 2 ≤ b) (fun iv _ => n - (intOf iv).toNat)
  case atStart => exact ⟨0, none, 0, 0, Nat.zero_le _, rfl, HB.out, HRB.out, HK0.out, HS2.out, fun b e => by simp [Value.ownBlock] at e⟩
  case round =>
    clear HB HRB HK0 HS2
    obtain ⟨i, am, an, ac, hi, rfl, hbl, hrb, hkb, hsz, hown⟩ := hrel
    by_cases hin : i < n
    · have hi1 : (i : Int) < (n : Int) := by omega
      have wk : IntKind.i64.wrap ((i : Int) + 1) = (i : Int) + 1 := IntWalk.i64_in _ (by omega)
      obtain ⟨b1, o1, s1, m1, rfl, c1, c2, c3⟩ := (HX.out.below hbl).get hin
      obtain ⟨b2, o2, s2, m2, rfl, d1, d2, d3⟩ := (HY.out.below hbl).get hin
      obtain ⟨a3, n3, p3, rfl⟩ := c3.agg
      obtain ⟨a4, n4, p4, rfl⟩ := d3.agg
      have HA := Lib.hid c3
      have HD := Lib.hid d3
      have HBL := Lib.hid hbl
      have HRB := Lib.hid hrb
      have HKB := Lib.hid hkb
      have HSZ := Lib.hid hsz
      have k0 := hkb.b2.m0
      have k1 := hkb.b2.m1
      clear c3 d3 hbl hrb hkb hsz hown
      go_wp2_with fail
      refine region_early (fun u => u.cell? ⟨b1, o1 + i * 2, none⟩ = some (.bool s1) ∧ u.cell? ⟨b1, o1 + i * 2 + 1, none⟩ = some (.slice a3 n3 p3) ∧ u.cell? ⟨b2, o2 + i * 2, none⟩ = some (.bool s2) ∧ u.cell? ⟨b2, o2 + i * 2 + 1, none⟩ = some (.slice a4 n4 p4) ∧ u.cell? ⟨w.heap.size + 1, 0, none⟩ = some (.bool (decide (G i < 0))) ∧ u.cell? ⟨w.heap.size + 1, 1, none⟩ = some (.slice am an ac)) 10 [0, 1, 2, 3, 4, 5, 6, 7, 8] 2 hmix (by kernel_rfl) rfl (by kernel_rfl) (fun _ _ d _ _ h => by cases d <;> exact h) ⟨c1, c2, d1, d2, k0, k1⟩ ?_
      iterate 9 (refine early_take rfl (by rfl) ?_; apply Exists.intro; refine ⟨fun u hu => ?_, ?_⟩; (obtain ⟨u_1, u_2, u_3, u_4, u_5, u_6⟩ := hu; go_simp; rfl); simp only [Act.put, List.getElem_toArray, List.getElem_cons_zero, List.getElem_cons_succ, List.setIfInBounds_toArray, List.set_cons_zero, List.set_cons_succ])
      refine early_done ?_
      simp only [marked]
      refine anyL_one (i := 9) (by kernel_rfl) rfl (by rfl) fun J hJ => ?_
      go_simp
      refine (zMulAdd_any _ _ _ (E i) (F i) (G i) U wr.drew hU (HP.out i hin) (HA.out.below (bl_drew _)) (HD.out.below (bl_drew _)) ((HKB.out.rd (HGZ.out i hi) hU).below (bl_drew _))).mono ?_
      rintro e w3 ⟨v, rfl, hf, hb⟩
      rw [← HG1.out i] at hf
      obtain ⟨af, nf, cf, rfl, hof⟩ := hf.agg
      have hb' := below_via (bl_drew wr) hb
      have hsd : wr.drew.heap.size = wr.heap.size := rfl
      have hg := stored2_gb w3 (w.heap.size + 1) (.bool (decide (G (i + 1) < 0))) (.slice af nf cf)
      have hkz := HKB.out.b2.below hb'
      have y0 := hkz.m0
      have y1 := hkz.m1
      have y2 := hkz.f0
      have y3 := hkz.f1
      have hbl3 := below_via HBL.out hb'
      have HK2 := Lib.hid (hkz.iput hf (fun e => by have := (hof _ e).1; have := HSZ.out; omega))
      have HB2 := Lib.hid (hbl3.grown hg hbl3.size (fun k hk => by injection hk with hk; omega))
      have HR2 := Lib.hid ((HRB.out.below hb').grown hg (by omega))
      have HZ2 := Lib.hid (Nat.le_trans (Nat.le_trans HSZ.out hb'.size) hg.size)
      have HO2 := Lib.hid (show ∀ b, (Value.slice af nf cf).ownBlock = some b → w.heap.size + 2 ≤ b from fun b e => by have := (hof b e).1; have := HSZ.out; omega)
      have hS : w3.cell? ⟨b1, o1 + i * 2, none⟩ = some (.bool s1) ∧ w3.cell? ⟨b1, o1 + i * 2 + 1, none⟩ = some (.slice a3 n3 p3) ∧ w3.cell? ⟨b2, o2 + i * 2, none⟩ = some (.bool s2) ∧ w3.cell? ⟨b2, o2 + i * 2 + 1, none⟩ = some (.slice a4 n4 p4) ∧ w3.cell? ⟨w.heap.size + 1, 0, none⟩ = some (.bool (decide (G i < 0))) ∧ w3.cell? ⟨w.heap.size + 1, 1, none⟩ = some (.slice am an ac) := ⟨cell_stays hb' c1, cell_stays hb' c2, cell_stays hb' d1, cell_stays hb' d2, cell_stays hb' k0, cell_stays hb' k1⟩
      refine hJ _ _ (fun _ => hS) ?_
      unfold stored2 at HK2 HB2 HR2 HZ2
      clear hJ J hf hof hb hb' hsd hg hkz hbl3 hS c1 c2 d1 d2 k0 k1 HA HD HBL HRB HKB HSZ
      refine anyL_one (i := 10) (by kernel_rfl) rfl (by rfl) fun J hJ => ?_
      go_simp
      refine hJ _ _ (fun e => absurd e (by decide)) ?_
      clear hJ J
      refine anyL_done (by kernel_rfl) ?_ _
      clear y0 y1 y2 y3
      go_wp2_with fail
      go_roundw
      case rel => exact ⟨i + 1, af, nf, cf, by omega, by go_num, HB2.out, HR2.out, HK2.out, HZ2.out, HO2.out⟩
      case measure => simp [intOf]; omega
    · obtain rfl : i = n := by omega
      have k0 := hkb.b2.m0
      have k1 := hkb.b2.m1
      have r0 := hrb.m0
      have r1 := hrb.m1
      have r2 := hrb.f0
      have r3 := hrb.f1
      have hg := stored2_gb wr w.heap.size (.bool (decide (G i < 0))) (.slice am an ac)
      have hz := hrb.store (s' := decide (G i < 0)) (v' := .slice am an ac)
      have HF := Lib.hid (hkb.fr.apart hg (fun e => by have := hown _ e; omega))
      have HBF := Lib.hid (hbl.grown hg hbl.size (fun k hk => by injection hk with hk; omega))
      have HOW := Lib.hid hown
      have p0 := hz.m0
      have p1 := hz.m1
      unfold stored2 at p0 p1 HF HBF
      clear hg hz hbl hrb hkb hsz hown
      go_wp2_with fail
      refine bodyPost_ret (v := .tuple #[.agg #[.bool (decide (G i < 0)), .slice am an ac], .int .i64 0]) ?_ rfl ⟨_, rfl, FrZ.rebase HF.out (fun b e => Nat.le_trans (Nat.le_add_right _ 2) (HOW.out b e)), HBF.out⟩
      simp [results, Try.results130, go_sem, p0, p1]
end Go.Proofs.Ytejliecmdkmgiaa
namespace Go.Proofs.Ytejliecmdkmgiaa
open Go.RowKit Go.Shelf
theorem num23_pos (n : Int) (h0 : 0 < n) (h1 : n ≤ 9) (w : World) :
    Calls Try.prog 128 #[.int .i64 n] w fun e w' => ∃ b, e = .returned (.agg #[.bool false, .slice (some ⟨b, 0, none⟩) 1 1]) ∧ w'.cell? ⟨b, 0, none⟩ = some (.int .u64 n) ∧ Below w.heap.size w w' := by
  have hw : IntKind.u64.wrap n = n := by rw [IntKind.wrap_u64]; exact Int.emod_eq_of_lt (by omega) (by omega)
  have hn0 : (n == 0) = false := by rw [beq_eq_false_iff_ne]; omega
  go_enter Try.func128, Try.ntmps128
  go_wp2_with fail
  refine bodyPost_ret (v := .agg #[.bool false, .slice (some ⟨w.heap.size + 1, 0, none⟩) 1 1]) (by simp [results, Try.results128, go_sem]) rfl ⟨w.heap.size + 1, rfl, ?_, ?_⟩
  · go_simp
  · exact ((Below.refl _ _).alloc (Nat.le_refl _) _).alloc (by simp) _
theorem lez_wordS (w : World) (b : Nat) (n : Int) (h0 : 0 < n) (h1 : n ≤ 9) (hc : w.cell? ⟨b, 0, none⟩ = some (.int .u64 n)) : LeZ w (.agg #[.bool false, .slice (some ⟨b, 0, none⟩) 1 1]) n := by
  refine ⟨rdz_word w b n (by omega) (by omega) hc, _, 1, fun _ => n, by rw [decide_eq_false (by omega)], ⟨_, 1, rfl, Nat.le_refl _, by omega, fun _ => ⟨b, 0, rfl, fun j hj => by
    obtain rfl : j = 0 := by omega
    exact hc⟩⟩, ?_⟩
  have hd := dig_sz (B := 18446744073709551616) (f := fun _ => n) (n := 1) (fun i _ => ⟨by omega, by omega⟩)
  rw [show (n.natAbs : Int) = n by omega]
  exact ⟨fun _ _ => by omega, fun _ => by show n ≠ 0; omega, by simp [dv]⟩
theorem lee_three (w : World) (b1 b2 b3 : Nat) (n1 n2 n3 : Int) (h1 : LeZ w (.agg #[.bool false, .slice (some ⟨b1, 0, none⟩) 1 1]) n1) (h2 : LeZ w (.agg #[.bool false, .slice (some ⟨b2, 0, none⟩) 1 1]) n2) (h3 : LeZ w (.agg #[.bool false, .slice (some ⟨b3, 0, none⟩) 1 1]) n3)
    (E : Nat → Int) (e : E 0 = n1 ∧ E 1 = n2 ∧ E 2 = n3) :
    LeE (w.alloc (.cells #[.bool false, .slice (some ⟨b1, 0, none⟩) 1 1, .bool false, .slice (some ⟨b2, 0, none⟩) 1 1, .bool false, .slice (some ⟨b3, 0, none⟩) 1 1] 49)) (.slice (some ⟨w.heap.size, 0, none⟩) 3 3) 3 E := by
  refine ⟨_, 3, rfl, Nat.le_refl _, by omega, fun _ => ⟨w.heap.size, 0, rfl, fun i hi => ?_⟩⟩
  have hn := heap_alloc_new w (.cells #[.bool false, .slice (some ⟨b1, 0, none⟩) 1 1, .bool false, .slice (some ⟨b2, 0, none⟩) 1 1, .bool false, .slice (some ⟨b3, 0, none⟩) 1 1] 49)
  have hb := bl_alloc w (.cells #[.bool false, .slice (some ⟨b1, 0, none⟩) 1 1, .bool false, .slice (some ⟨b2, 0, none⟩) 1 1, .bool false, .slice (some ⟨b3, 0, none⟩) 1 1] 49)
  obtain ⟨e1, e2, e3⟩ := e
  match i, hi with
  | 0, _ => exact ⟨false, .slice (some ⟨b1, 0, none⟩) 1 1, by rw [cell_of_row _ _ _ _ _ _ hn]; rfl, by rw [cell_of_row _ _ _ _ _ _ hn]; rfl, by rw [e1]; exact h1.below hb⟩
  | 1, _ => exact ⟨false, .slice (some ⟨b2, 0, none⟩) 1 1, by rw [cell_of_row _ _ _ _ _ _ hn]; rfl, by rw [cell_of_row _ _ _ _ _ _ hn]; rfl, by rw [e2]; exact h2.below hb⟩
  | 2, _ => exact ⟨false, .slice (some ⟨b3, 0, none⟩) 1 1, by rw [cell_of_row _ _ _ _ _ _ hn]; rfl, by rw [cell_of_row _ _ _ _ _ _ hn]; rfl, by rw [e3]; exact h3.below hb⟩
theorem rde_4ints (w : World) (b1 b2 b3 b4 : Nat) (n1 n2 n3 n4 : Int) (h1 : RdZ w (.agg #[.bool false, .slice (some ⟨b1, 0, none⟩) 1 1]) n1) (h2 : RdZ w (.agg #[.bool false, .slice (some ⟨b2, 0, none⟩) 1 1]) n2) (h3 : RdZ w (.agg #[.bool false, .slice (some ⟨b3, 0, none⟩) 1 1]) n3) (h4 : RdZ w (.agg #[.bool false, .slice (some ⟨b4, 0, none⟩) 1 1]) n4)
    (E : Nat → Int) (e : E 0 = n1 ∧ E 1 = n2 ∧ E 2 = n3 ∧ E 3 = n4) :
    RdE (w.alloc (.cells #[.bool false, .slice (some ⟨b1, 0, none⟩) 1 1, .bool false, .slice (some ⟨b2, 0, none⟩) 1 1, .bool false, .slice (some ⟨b3, 0, none⟩) 1 1, .bool false, .slice (some ⟨b4, 0, none⟩) 1 1] 49)) (.slice (some ⟨w.heap.size, 0, none⟩) 4 4) 4 E := by
  refine ⟨_, 4, rfl, Nat.le_refl _, by omega, fun _ => ⟨w.heap.size, 0, rfl, fun i hi => ?_⟩⟩
  have hn := heap_alloc_new w (.cells #[.bool false, .slice (some ⟨b1, 0, none⟩) 1 1, .bool false, .slice (some ⟨b2, 0, none⟩) 1 1, .bool false, .slice (some ⟨b3, 0, none⟩) 1 1, .bool false, .slice (some ⟨b4, 0, none⟩) 1 1] 49)
  have hb := bl_alloc w (.cells #[.bool false, .slice (some ⟨b1, 0, none⟩) 1 1, .bool false, .slice (some ⟨b2, 0, none⟩) 1 1, .bool false, .slice (some ⟨b3, 0, none⟩) 1 1, .bool false, .slice (some ⟨b4, 0, none⟩) 1 1] 49)
  obtain ⟨e1, e2, e3, e4⟩ := e
  match i, hi with
  | 0, _ => exact ⟨false, .slice (some ⟨b1, 0, none⟩) 1 1, by rw [cell_of_row _ _ _ _ _ _ hn]; rfl, by rw [cell_of_row _ _ _ _ _ _ hn]; rfl, by rw [e1]; exact h1.below hb⟩
  | 1, _ => exact ⟨false, .slice (some ⟨b2, 0, none⟩) 1 1, by rw [cell_of_row _ _ _ _ _ _ hn]; rfl, by rw [cell_of_row _ _ _ _ _ _ hn]; rfl, by rw [e2]; exact h2.below hb⟩
  | 2, _ => exact ⟨false, .slice (some ⟨b3, 0, none⟩) 1 1, by rw [cell_of_row _ _ _ _ _ _ hn]; rfl, by rw [cell_of_row _ _ _ _ _ _ hn]; rfl, by rw [e3]; exact h3.below hb⟩
  | 3, _ => exact ⟨false, .slice (some ⟨b4, 0, none⟩) 1 1, by rw [cell_of_row _ _ _ _ _ _ hn]; rfl, by rw [cell_of_row _ _ _ _ _ _ hn]; rfl, by rw [e4]; exact h4.below hb⟩
theorem square_good (x : Value) (n U : Nat) (E : Nat → Int) (w : World) (hx : RdE w x n E) (hU : U ≤ 274877906944) (hp : ∀ i, i < n → ZB U (E i * E i)) (hs : ∀ i, i ≤ n → ZB U (laZ.sm i (fun j => E j * E j))) :
    Calls Try.prog 70 #[x] w fun e w' => ∃ v, e = .returned v ∧ FrZ w' w.heap.size v (laZ.sm n (fun j => E j * E j)) ∧ Below w.heap.size w w' := by
  obtain ⟨G, hG⟩ : ∃ G : Int, G = laZ.sm n (fun j => E j * E j) := ⟨_, rfl⟩
  have hd := fun (u : World) (hu : Below w.heap.size w u) => Dot_good x x n U E E u (hx.below hu) (hx.below hu) hU hp hs
  rw [← hG] at hd ⊢
  have HD := Lib.hid hd
  have HRB := Lib.hid (ZBox.new w false (.slice none 0 0))
  have HB := Lib.hid (bl_alloc w (.cells #[.bool false, .slice none 0 0] 49))
  have HS := Lib.hid (show (w.alloc (.cells #[.bool false, .slice none 0 0] 49)).heap.size = w.heap.size + 1 by simp)
  obtain ⟨a, cap, rfl, -⟩ := hx.slice
  clear hd hx hp hs hG
  go_enter Try.func70, Try.ntmps70
  go_upto_region 1 with fail
  generalize w.alloc (.cells #[.bool false, .slice none 0 0] 49) = W at *
  go_wp2_with fail
  (refine (HD.out W HB.out).mono ?_)
  rintro e w1 ⟨v, rfl, hf, hb⟩
  obtain ⟨am, an, ac, rfl, hao⟩ := hf.agg
  have hba := bl_alloc w1 (.cells #[.bool (decide (G < 0)), .slice am an ac] 49)
  have hbx := below_via hb hba
  obtain ⟨y0, y1, -, -⟩ := two_cells w1 (.bool (decide (G < 0))) (.slice am an ac) 49
  have hr := HRB.out.below hbx
  have hbl := below_via HB.out hbx
  have hsz := HS.out
  have hf2 := hf.below hba
  clear hf hb hba hbx HD HRB HB HS
  go_upto_region 2 with fail
  obtain ⟨xb, hxb⟩ : ∃ xb, xb = w1.heap.size := ⟨_, rfl⟩
  rw [← hxb] at y0 y1 ⊢
  clear hxb
  generalize w1.alloc (.cells #[.bool (decide (G < 0)), .slice am an ac] 49) = w2 at *
  have r0 := hr.m0
  have r1 := hr.m1
  have r2 := hr.f0
  have r3 := hr.f1
  have hg := stored2_gb w2 w.heap.size (.bool (decide (G < 0))) (.slice am an ac)
  have hz := hr.store (s' := decide (G < 0)) (v' := .slice am an ac)
  have HF := Lib.hid ((hf2.far hg (by omega)).mono (show w.heap.size ≤ W.heap.size by omega))
  have HBF := Lib.hid (hbl.grown hg hbl.size (fun k hk => by injection hk with hk; omega))
  have p0 := hz.m0
  have p1 := hz.m1
  unfold stored2 at p0 p1 HF HBF
  clear hg hz hbl hr hf2 hao hsz
  go_wp2_with fail
  refine bodyPost_ret (v := .agg #[.bool (decide (G < 0)), .slice am an ac]) ?_ rfl ⟨_, rfl, HF.out, HBF.out⟩
  simp [results, Try.results70, go_sem, p0, p1]
theorem wake23 : leadD (gmE 2 2 (fun q => (q : Int) + 1)) 2 0 = 1 ∧ leadD (gmE 2 2 (fun q => (q : Int) + 1)) 2 1 = 5 ∧ leadD (gmE 2 2 (fun q => (q : Int) + 1)) 2 2 = 4 := by decide
theorem wake23_zb (q : Nat) (hq : q < 4) : ZB 1 ((q : Int) + 1) := by
  unfold ZB
  rw [Int.pow_succ, Int.pow_zero]
  omega
theorem awake23_any (w : World) : Calls Try.prog 65 #[] w fun e w' => e = .returned (.bool true) ∧ Below w.heap.size w w' := by
  go_enter Try.func65, Try.ntmps65
  go_wp2_with (first
    | (go_at_call_of 128 (Value.int .i64 1); refine (num23_pos 1 (by omega) (by omega) _).mono ?_; rintro e w1 ⟨b1, rfl, hc1, hb1⟩)
    | (go_at_call_of 128 (Value.int .i64 2); refine (num23_pos 2 (by omega) (by omega) _).mono ?_; rintro e w2 ⟨b2, rfl, hc2, hb2⟩)
    | (go_at_call_of 128 (Value.int .i64 3); refine (num23_pos 3 (by omega) (by omega) _).mono ?_; rintro e w3 ⟨b3, rfl, hc3, hb3⟩)
    | (go_at_call_of 128 (Value.int .i64 4); refine (num23_pos 4 (by omega) (by omega) _).mono ?_; rintro e w4 ⟨b4, rfl, hc4, hb4⟩))
  have B34 := hb4
  have B23 := below_via hb3 B34
  have B12 := below_via hb2 B23
  have r1 := (rdz_word w1 b1 1 (by omega) (by omega) hc1).below B12
  have r2 := (rdz_word w2 b2 2 (by omega) (by omega) hc2).below B23
  have r3 := (rdz_word w3 b3 3 (by omega) (by omega) hc3).below B34
  have r4 := rdz_word w4 b4 4 (by omega) (by omega) hc4
  have hr := rde_4ints w4 b1 b2 b3 b4 1 2 3 4 r1 r2 r3 r4 (fun q => (q : Int) + 1) (by decide)
  have HB := Lib.hid (below_via (below_via hb1 B12) (bl_alloc w4 (.cells #[.bool false, .slice (some ⟨b1, 0, none⟩) 1 1, .bool false, .slice (some ⟨b2, 0, none⟩) 1 1, .bool false, .slice (some ⟨b3, 0, none⟩) 1 1, .bool false, .slice (some ⟨b4, 0, none⟩) 1 1] 49)))
  have hd := Dets_good 2 2 1 _ (fun q => (q : Int) + 1) _ (by omega) (by omega) (by omega) hr wake23_zb
  have HD := Lib.hid hd
  clear r1 r2 r3 r4 B34 B23 B12 hc1 hc2 hc3 hc4 hb1 hb2 hb3 hb4 hr hd
  generalize w4.alloc (.cells #[.bool false, .slice (some ⟨b1, 0, none⟩) 1 1, .bool false, .slice (some ⟨b2, 0, none⟩) 1 1, .bool false, .slice (some ⟨b3, 0, none⟩) 1 1, .bool false, .slice (some ⟨b4, 0, none⟩) 1 1] 49) = w5 at *
  (refine HD.out.mono ?_)
  rintro e w6 ⟨v, rfl, ho, hb⟩
  replace HB := Lib.hid (below_via HB.out hb)
  obtain ⟨e1, e2, e3⟩ := wake23
  have hz : ∀ i, i < 3 → ZB 1 (leadD (gmE 2 2 (fun q => (q : Int) + 1)) 2 i) := fun i hi => by
    match i, hi with
    | 0, _ => rw [e1]; unfold ZB; decide
    | 1, _ => rw [e2]; unfold ZB; decide
    | 2, _ => rw [e3]; unfold ZB; decide
  have hle := ho.lee (by omega) (show 1 ≤ 274877906944 by omega) hz
  obtain ⟨E, hE⟩ : ∃ E, E = leadD (gmE 2 2 (fun q => (q : Int) + 1)) 2 := ⟨_, rfl⟩
  rw [← hE] at hle e1 e2 e3
  obtain ⟨ma, mc, rfl⟩ := ho.slice
  have HL := Lib.hid hle
  have HE := Lib.hid (And.intro e1 (And.intro e2 e3))
  clear ho hb hz hle hE e1 e2 e3 HD
  go_wp2_with (first
    | (go_at_call_of 128 (Value.int .i64 1); refine (num23_pos 1 (by omega) (by omega) _).mono ?_; rintro e w7 ⟨b5, rfl, hc5, hb5⟩)
    | (go_at_call_of 128 (Value.int .i64 5); refine (num23_pos 5 (by omega) (by omega) _).mono ?_; rintro e w8 ⟨b6, rfl, hc6, hb6⟩)
    | (go_at_call_of 128 (Value.int .i64 4); refine (num23_pos 4 (by omega) (by omega) _).mono ?_; rintro e w9 ⟨b7, rfl, hc7, hb7⟩))
  have B89 := hb7
  have B78 := below_via hb6 B89
  have B67 := below_via hb5 B78
  have hl := lee_three w9 b5 b6 b7 1 5 4 ((lez_wordS w7 b5 1 (by omega) (by omega) hc5).below B78) ((lez_wordS w8 b6 5 (by omega) (by omega) hc6).below B89) (lez_wordS w9 b7 4 (by omega) (by omega) hc7) E HE.out
  have hba := bl_alloc w9 (.cells #[.bool false, .slice (some ⟨b5, 0, none⟩) 1 1, .bool false, .slice (some ⟨b6, 0, none⟩) 1 1, .bool false, .slice (some ⟨b7, 0, none⟩) 1 1] 49)
  have hbx := below_via B67 hba
  have hq := LikeRow_yes _ _ 3 E _ (HL.out.below hbx) hl
  have HQ := Lib.hid hq
  replace HB := Lib.hid (below_via HB.out hbx)
  clear hl hba hbx hq B89 B78 B67 hb5 hb6 hb7 hc5 hc6 hc7 HL HE
  (refine HQ.out.mono ?_)
  rintro e w10 ⟨rfl, hb⟩
  replace HB := Lib.hid (below_via HB.out hb)
  clear hb HQ
  go_wp2_with fail
  refine bodyPost_ret (v := .bool true) ?_ rfl ⟨rfl, HB.out⟩
  simp [results, Try.results65, go_sem]
end Go.Proofs.Ytejliecmdkmgiaa
