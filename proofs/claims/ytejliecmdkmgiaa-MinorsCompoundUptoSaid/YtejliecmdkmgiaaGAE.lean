/- minors.Compound where it refuses. For MinorsCompound: the document's Sets, choices of one, lists read in least form. The walk of the law MinorsCompound. -/
import Derived.Test.YtejliecmdkmgiaaGAD
import Derived.Test.YtejliecmdkmgiaaGAA
import Derived.Test.YtejliecmdkmgiaaGAC
import Derived.Test.YtejliecmdkmgiaaGX
import Derived.Test.YtejliecmdkmgiaaGE
set_option linter.unusedVariables false
set_option linter.unusedSimpArgs false
namespace Go.Proofs.Ytejliecmdkmgiaa
open Go.RowKit Go.Shelf

set_option maxHeartbeats 4000000 in
set_option maxRecDepth 100000 in
theorem Compound_err (r c : Int) (a : Option Addr) (n cap : Nat) (k E : Int) (hn : n ≤ 17592186044416) (hE : mszE r c n k = E) (h0 : ¬ E = 0) (w : World) :
    Calls Try.prog 53 #[.agg #[.int .i64 r, .int .i64 c, .slice a n cap], .int .i64 k] w fun e w' => e = .returned (.tuple #[.agg #[.int .i64 0, .int .i64 0, .slice none 0 0], .int .i64 E]) ∧ Below w.heap.size w w' := by
  have HMS := Lib.hid (fun (u : World) => msize_any r c a n cap k hn u)
  obtain ⟨hm, hk, hrr, he, hb, hs⟩ := boxes_cp w r c (.slice a n cap) (.int .i64 k)
  have HM := Lib.hid hm
  have HKC := Lib.hid hk
  have HRR := Lib.hid hrr
  have HEE := Lib.hid he
  have HB := Lib.hid hb
  clear hm hk hrr he hb hs
  have HM_0 := HM.out.m0
  have HM_1 := HM.out.m1
  have HM_2 := HM.out.m2
  have k0 := HKC.out
  go_enter Try.func53, Try.ntmps53
  go_upto_region 1 with fail
  generalize (((w.alloc (.cells #[.int .i64 r, .int .i64 c, .slice a n cap] 24)).alloc (.cells #[.int .i64 k] 3)).alloc (.cells #[.int .i64 0, .int .i64 0, .slice none 0 0] 24)).alloc (.cells #[.int .i64 0] 26) = W at *
  go_wp2_with fail
  (refine (HMS.out W).mono ?_)
  rintro e w1 ⟨rfl, hb⟩
  rw [hE]
  replace HM := Lib.hid (HM.out.below hb)
  replace HRR := Lib.hid (HRR.out.below hb)
  replace HB := Lib.hid (below_via HB.out hb)
  replace HKC := Lib.hid (cell_stays hb HKC.out)
  replace HEE := Lib.hid (And.intro (cell_stays hb HEE.out.1) (froz_stays hb HEE.out.1 HEE.out.2))
  clear HM_0 HM_1 HM_2
  clear hb HMS k0
  clear hE HM HKC
  have r0 := HRR.out.m0
  have r1 := HRR.out.m1
  have r2 := HRR.out.m2
  have r3 := HRR.out.f0
  have r4 := HRR.out.f1
  have r5 := HRR.out.f2
  have e0 := HEE.out.1
  have e1 := HEE.out.2
  have g1 := stored3_gb w1 (w.heap.size + 1 + 1) (.int .i64 0) (.int .i64 0) (.slice none 0 0)
  have hr1 := HRR.out.store (r' := 0) (c' := 0) (v' := .slice none 0 0)
  have hb1 := HB.out.grown g1 HB.out.size (fun b e => by cases e; omega)
  have he1 := g1.cell HEE.out.1 (fun e => by injection e with e; have e2 : w.heap.size + 1 + 1 + 1 = w.heap.size + 1 + 1 := e; omega)
  have hf1 := froz_grown g1 (show w.heap.size + 1 + 1 + 1 ≠ w.heap.size + 1 + 1 by omega) HEE.out.1 HEE.out.2
  have g2 : (stored3 w1 (w.heap.size + 1 + 1) (.int .i64 0) (.int .i64 0) (.slice none 0 0)).grownBy ((stored3 w1 (w.heap.size + 1 + 1) (.int .i64 0) (.int .i64 0) (.slice none 0 0)).setCell ⟨w.heap.size + 1 + 1 + 1, 0, none⟩ (.int .i64 E)) (some (w.heap.size + 1 + 1 + 1)) := gb_set _ _ _
  have hr2 := hr1.grown g2 (by omega)
  have HB2 := Lib.hid (hb1.grown g2 hb1.size (fun b e => by cases e; omega))
  have q0 := World.cell?_setCell_same _ _ (Value.int .i64 E) he1
  have p0 := hr2.m0
  have p1 := hr2.m1
  have p2 := hr2.m2
  unfold stored3 at he1 hf1 p0 p1 p2 q0 HB2
  clear g1 g2 hr1 hr2 hb1 HRR HEE HB
  go_wp2_with fail
  refine bodyPost_ret (v := .tuple #[.agg #[.int .i64 0, .int .i64 0, .slice none 0 0], .int .i64 E]) ?_ rfl ⟨rfl, HB2.out⟩
  simp [results, Try.results53, go_sem, p0, p1, p2, q0]

set_option maxHeartbeats 4000000 in
set_option maxRecDepth 100000 in
theorem Compound_large (R C K : Nat) (a : Option Addr) (n cap : Nat) (w : World) (hn : n ≤ 17592186044416) (hE : mszE R C n K = 0) (hR : R ≤ 64) (hC : C ≤ 64) (hKR : K ≤ R) (hKC : K ≤ C) (hl : 64 < bn R K ∨ 64 < bn C K) :
    Calls Try.prog 53 #[.agg #[.int .i64 R, .int .i64 C, .slice a n cap], .int .i64 K] w fun e w' => e = .returned (.tuple #[.agg #[.int .i64 0, .int .i64 0, .slice none 0 0], .int .i64 5]) ∧ Below w.heap.size w w' := by
  have hmix : Try.prog.follows .mixedOrders = true := by kernel_rfl
  obtain ⟨r, hr⟩ : ∃ r : Int, r = R := ⟨_, rfl⟩
  obtain ⟨c, hc⟩ : ∃ c : Int, c = C := ⟨_, rfl⟩
  obtain ⟨k, hk⟩ : ∃ k : Int, k = K := ⟨_, rfl⟩
  have HCR := Lib.hid (fun (u : World) => choices_good R K u hR hKR)
  have HCC := Lib.hid (fun (u : World) => choices_good C K u hC hKC)
  have HL := Lib.hid hl
  rw [← hr, ← hc, ← hk] at hE ⊢
  rw [← hr, ← hk] at HCR
  rw [← hc, ← hk] at HCC
  clear hr hc hk hl
  have HMS := Lib.hid (fun (u : World) => msize_any r c a n cap k hn u)
  obtain ⟨hm, hk, hrr, he, hb, hs⟩ := boxes_cp w r c (.slice a n cap) (.int .i64 k)
  have HM := Lib.hid hm
  have HKC := Lib.hid hk
  have HRR := Lib.hid hrr
  have HEE := Lib.hid he
  have HB := Lib.hid hb
  clear hm hk hrr he hb hs
  have HM_0 := HM.out.m0
  have HM_1 := HM.out.m1
  have HM_2 := HM.out.m2
  have k0 := HKC.out
  go_enter Try.func53, Try.ntmps53
  go_upto_region 1 with fail
  generalize (((w.alloc (.cells #[.int .i64 r, .int .i64 c, .slice a n cap] 24)).alloc (.cells #[.int .i64 k] 3)).alloc (.cells #[.int .i64 0, .int .i64 0, .slice none 0 0] 24)).alloc (.cells #[.int .i64 0] 26) = W at *
  go_wp2_with fail
  (refine (HMS.out W).mono ?_)
  rintro e w1 ⟨rfl, hb⟩
  rw [hE]
  replace HM := Lib.hid (HM.out.below hb)
  replace HRR := Lib.hid (HRR.out.below hb)
  replace HB := Lib.hid (below_via HB.out hb)
  replace HKC := Lib.hid (cell_stays hb HKC.out)
  replace HEE := Lib.hid (And.intro (cell_stays hb HEE.out.1) (froz_stays hb HEE.out.1 HEE.out.2))
  clear HM_0 HM_1 HM_2
  clear hb HMS k0
  clear hE
  have HM_0 := HM.out.m0
  have HM_1 := HM.out.m1
  have HM_2 := HM.out.m2
  have k0 := HKC.out
  go_upto_region 4 with fail
  refine region_early (fun u => u.cell? ⟨w.heap.size, 0, none⟩ = some (.int .i64 r) ∧ u.cell? ⟨w.heap.size, 1, none⟩ = some (.int .i64 c) ∧ u.cell? ⟨w.heap.size + 1, 0, none⟩ = some (.int .i64 k)) 10 [0, 1, 2, 4, 5, 6] 4 hmix (by kernel_rfl) rfl (by kernel_rfl) (fun _ _ d _ _ h => by cases d <;> exact h) ⟨HM_0, HM_1, k0⟩ ?_
  iterate 6 (refine early_take rfl (by rfl) ?_; apply Exists.intro; refine ⟨fun u hu => ?_, ?_⟩; (obtain ⟨u_1, u_2, u_3⟩ := hu; go_simp; rfl); simp only [Act.put, List.getElem_toArray, List.getElem_cons_zero, List.getElem_cons_succ, List.setIfInBounds_toArray, List.set_cons_zero, List.set_cons_succ])
  refine early_done ?_
  simp only [marked]
  refine anyL_one (i := 3) (by kernel_rfl) rfl (by rfl) fun J hJ => ?_
  go_simp
  refine (HCR.out w1.drew).mono ?_
  rintro e w2 ⟨rfl, hb⟩
  have hb' := below_via (bl_drew w1) hb
  have hS := And.intro (cell_stays hb' HM_0) (And.intro (cell_stays hb' HM_1) (cell_stays hb' k0))
  refine hJ _ _ (fun _ => hS) ?_
  have HB2 := Lib.hid hb'
  clear hJ J hb hb'
  refine anyL_one (i := 7) (by kernel_rfl) rfl (by rfl) fun J hJ => ?_
  go_simp
  refine (HCC.out w2).mono ?_
  rintro e w3 ⟨rfl, hb⟩
  have hb' := below_via HB2.out hb
  have hS3 := And.intro (cell_stays hb' HM_0) (And.intro (cell_stays hb' HM_1) (cell_stays hb' k0))
  refine hJ _ _ (fun _ => hS3) ?_
  replace HRR := Lib.hid (HRR.out.below hb')
  replace HB := Lib.hid (below_via HB.out hb')
  replace HEE := Lib.hid (And.intro (cell_stays hb' HEE.out.1) (froz_stays hb' HEE.out.1 HEE.out.2))
  clear HM_0 HM_1 HM_2
  clear hJ J hb hb' hS k0 HCR HCC HB2 HM HKC
  refine anyL_one (i := 8) (by kernel_rfl) rfl (by rfl) fun J hJ => ?_
  go_simp
  refine hJ _ _ (fun _ => hS3) ?_
  clear hJ J
  refine anyL_one (i := 9) (by kernel_rfl) rfl (by rfl) fun J hJ => ?_
  go_simp
  refine hJ _ _ (fun _ => hS3) ?_
  clear hJ J
  refine anyL_done (by kernel_rfl) ?_ _
  clear hS3
  rcases HL.out with h | h
  · have h2 : (64 : Int) < ((bn R K : Nat) : Int) := by omega
    clear HL h
    have r0 := HRR.out.m0
    have r1 := HRR.out.m1
    have r2 := HRR.out.m2
    have r3 := HRR.out.f0
    have r4 := HRR.out.f1
    have r5 := HRR.out.f2
    have e0 := HEE.out.1
    have e1 := HEE.out.2
    have g1 := stored3_gb w3 (w.heap.size + 1 + 1) (.int .i64 0) (.int .i64 0) (.slice none 0 0)
    have hr1 := HRR.out.store (r' := 0) (c' := 0) (v' := .slice none 0 0)
    have hb1 := HB.out.grown g1 HB.out.size (fun b e => by cases e; omega)
    have he1 := g1.cell HEE.out.1 (fun e => by injection e with e; have e2 : w.heap.size + 1 + 1 + 1 = w.heap.size + 1 + 1 := e; omega)
    have hf1 := froz_grown g1 (show w.heap.size + 1 + 1 + 1 ≠ w.heap.size + 1 + 1 by omega) HEE.out.1 HEE.out.2
    have g2 : (stored3 w3 (w.heap.size + 1 + 1) (.int .i64 0) (.int .i64 0) (.slice none 0 0)).grownBy ((stored3 w3 (w.heap.size + 1 + 1) (.int .i64 0) (.int .i64 0) (.slice none 0 0)).setCell ⟨w.heap.size + 1 + 1 + 1, 0, none⟩ (.int .i64 5)) (some (w.heap.size + 1 + 1 + 1)) := gb_set _ _ _
    have hr2 := hr1.grown g2 (by omega)
    have HB2 := Lib.hid (hb1.grown g2 hb1.size (fun b e => by cases e; omega))
    have q0 := World.cell?_setCell_same _ _ (Value.int .i64 5) he1
    have p0 := hr2.m0
    have p1 := hr2.m1
    have p2 := hr2.m2
    unfold stored3 at he1 hf1 p0 p1 p2 q0 HB2
    clear g1 g2 hr1 hr2 hb1 HRR HEE HB
    go_wp2_with fail
    refine bodyPost_ret (v := .tuple #[.agg #[.int .i64 0, .int .i64 0, .slice none 0 0], .int .i64 5]) ?_ rfl ⟨rfl, HB2.out⟩
    simp [results, Try.results53, go_sem, p0, p1, p2, q0]
  · have h2 : (64 : Int) < ((bn C K : Nat) : Int) := by omega
    clear HL h
    by_cases h3 : (64 : Int) < ((bn R K : Nat) : Int)
    · skip
      have r0 := HRR.out.m0
      have r1 := HRR.out.m1
      have r2 := HRR.out.m2
      have r3 := HRR.out.f0
      have r4 := HRR.out.f1
      have r5 := HRR.out.f2
      have e0 := HEE.out.1
      have e1 := HEE.out.2
      have g1 := stored3_gb w3 (w.heap.size + 1 + 1) (.int .i64 0) (.int .i64 0) (.slice none 0 0)
      have hr1 := HRR.out.store (r' := 0) (c' := 0) (v' := .slice none 0 0)
      have hb1 := HB.out.grown g1 HB.out.size (fun b e => by cases e; omega)
      have he1 := g1.cell HEE.out.1 (fun e => by injection e with e; have e2 : w.heap.size + 1 + 1 + 1 = w.heap.size + 1 + 1 := e; omega)
      have hf1 := froz_grown g1 (show w.heap.size + 1 + 1 + 1 ≠ w.heap.size + 1 + 1 by omega) HEE.out.1 HEE.out.2
      have g2 : (stored3 w3 (w.heap.size + 1 + 1) (.int .i64 0) (.int .i64 0) (.slice none 0 0)).grownBy ((stored3 w3 (w.heap.size + 1 + 1) (.int .i64 0) (.int .i64 0) (.slice none 0 0)).setCell ⟨w.heap.size + 1 + 1 + 1, 0, none⟩ (.int .i64 5)) (some (w.heap.size + 1 + 1 + 1)) := gb_set _ _ _
      have hr2 := hr1.grown g2 (by omega)
      have HB2 := Lib.hid (hb1.grown g2 hb1.size (fun b e => by cases e; omega))
      have q0 := World.cell?_setCell_same _ _ (Value.int .i64 5) he1
      have p0 := hr2.m0
      have p1 := hr2.m1
      have p2 := hr2.m2
      unfold stored3 at he1 hf1 p0 p1 p2 q0 HB2
      clear g1 g2 hr1 hr2 hb1 HRR HEE HB
      go_wp2_with fail
      refine bodyPost_ret (v := .tuple #[.agg #[.int .i64 0, .int .i64 0, .slice none 0 0], .int .i64 5]) ?_ rfl ⟨rfl, HB2.out⟩
      simp [results, Try.results53, go_sem, p0, p1, p2, q0]
    · skip
      have r0 := HRR.out.m0
      have r1 := HRR.out.m1
      have r2 := HRR.out.m2
      have r3 := HRR.out.f0
      have r4 := HRR.out.f1
      have r5 := HRR.out.f2
      have e0 := HEE.out.1
      have e1 := HEE.out.2
      have g1 := stored3_gb w3 (w.heap.size + 1 + 1) (.int .i64 0) (.int .i64 0) (.slice none 0 0)
      have hr1 := HRR.out.store (r' := 0) (c' := 0) (v' := .slice none 0 0)
      have hb1 := HB.out.grown g1 HB.out.size (fun b e => by cases e; omega)
      have he1 := g1.cell HEE.out.1 (fun e => by injection e with e; have e2 : w.heap.size + 1 + 1 + 1 = w.heap.size + 1 + 1 := e; omega)
      have hf1 := froz_grown g1 (show w.heap.size + 1 + 1 + 1 ≠ w.heap.size + 1 + 1 by omega) HEE.out.1 HEE.out.2
      have g2 : (stored3 w3 (w.heap.size + 1 + 1) (.int .i64 0) (.int .i64 0) (.slice none 0 0)).grownBy ((stored3 w3 (w.heap.size + 1 + 1) (.int .i64 0) (.int .i64 0) (.slice none 0 0)).setCell ⟨w.heap.size + 1 + 1 + 1, 0, none⟩ (.int .i64 5)) (some (w.heap.size + 1 + 1 + 1)) := gb_set _ _ _
      have hr2 := hr1.grown g2 (by omega)
      have HB2 := Lib.hid (hb1.grown g2 hb1.size (fun b e => by cases e; omega))
      have q0 := World.cell?_setCell_same _ _ (Value.int .i64 5) he1
      have p0 := hr2.m0
      have p1 := hr2.m1
      have p2 := hr2.m2
      unfold stored3 at he1 hf1 p0 p1 p2 q0 HB2
      clear g1 g2 hr1 hr2 hb1 HRR HEE HB
      go_wp2_with fail
      refine bodyPost_ret (v := .tuple #[.agg #[.int .i64 0, .int .i64 0, .slice none 0 0], .int .i64 5]) ?_ rfl ⟨rfl, HB2.out⟩
      simp [results, Try.results53, go_sem, p0, p1, p2, q0]
end Go.Proofs.Ytejliecmdkmgiaa

namespace Go.Proofs.Ytejliecmdkmgiaa
open Go.RowKit Go.Shelf

set_option maxHeartbeats 1000000 in
theorem Sets14_all (K N : Nat) (w : World) (hN : N ≤ 64) (hK : K ≤ N) (hbn : bn N K ≤ 1000000) :
    Calls Try.prog 57 #[.int .i64 N, .int .i64 K] w fun e w' => Below w.heap.size w w' ∧ ∃ v, e = .returned v ∧ WLn w' w.heap.size v (bn N K) K N := by
  have HS := Lib.hid (Some_all K N w hN hK hbn)
  go_enter Try.func57, Try.ntmps57
  go_wp2_with fail
  (refine HS.out.mono ?_)
  rintro e w1 ⟨hb, v, rfl, hw⟩
  have HB := Lib.hid hb
  have HW := Lib.hid hw
  clear hb hw HS
  go_wp2_with fail
  go_ret
  exact ⟨HB.out, v, rfl, HW.out⟩
/-- an element of the list of choices -/
theorem WLn.get {w : World} {base t K N : Nat} {v : Value} (h : WLn w base v t K N) (hK : K ≤ 64) {i : Nat} (hi : i < t) : ∃ g cap u, v = .slice (some ⟨g, 0, none⟩) t cap ∧ w.cell? ⟨g, i, none⟩ = some u ∧ (∃ a n c, u = .slice a n c) ∧ RdI64 w u K (setS N K i) := by
  obtain ⟨F, h1, h2⟩ := h
  obtain ⟨g, cap, e, -, -, -, hc⟩ := OwnL.cell h1 (by omega)
  obtain ⟨a, c, e2, -, -⟩ := (h2 i hi).slice
  exact ⟨g, cap, F i, e, (hc i hi).1, ⟨a, K, c, e2⟩, (h2 i hi).read hK⟩
theorem OwnZ.lee {w : World} {base : Nat} {v : Value} {n : Nat} {E : Nat → Int} (h : OwnZ w base v n E) (hn : n ≤ 1048576) {S : Nat} (hS : S ≤ 274877906944) (hz : ∀ i, i < n → ZB S (E i)) : LeE w v n E := by
  obtain ⟨M, ⟨h0, h1⟩, h2⟩ := h
  rcases h1 with ⟨rfl, rfl⟩ | ⟨g, cap, cur, rfl, -, h3, h4, -, -, h5⟩
  · exact ⟨none, 0, rfl, Nat.le_refl _, hn, fun h => absurd h (by omega)⟩
  · refine ⟨some ⟨g, 0, none⟩, cap, rfl, h4, hn, fun _ => ⟨g, 0, rfl, fun i hi => ⟨decide (E i < 0), M i, ?_, ?_, (h2 i hi).le (hz i hi) hS⟩⟩⟩
    · have := (flatI_at (fun i => Value.bool (decide (E i < 0))) M n i hi).1
      rw [← h5, List.getElem?_take, if_pos (by omega)] at this
      rw [Nat.zero_add, cell_of_row _ _ _ _ _ _ h3]; simpa using this
    · have := (flatI_at (fun i => Value.bool (decide (E i < 0))) M n i hi).2
      rw [← h5, List.getElem?_take, if_pos (by omega)] at this
      rw [Nat.zero_add, cell_of_row _ _ _ _ _ _ h3]; simpa using this
theorem setS_one {N : Nat} (hN : 1 ≤ N) : ∀ t, t < N → setS N 1 t 0 = t
  | 0, _ => rfl
  | t + 1, h => by
    have ih := setS_one hN t (by omega)
    have hl : hiI N 1 (setS N 1 t) 1 = 1 := by
      show (if setS N 1 t 0 = N - 1 + 0 then _ else 0 + 1) = 1
      rw [ih, if_neg (by omega)]
    show nxtS N 1 (setS N 1 t) 0 = _
    unfold nxtS
    rw [hl, if_neg (by omega)]
    show setS N 1 t 0 + 1 + 0 = _
    rw [ih]
theorem cpE_one {A : Nat → Int} {R C : Nat} (hR : 1 ≤ R) (hC : 1 ≤ C) : ∀ q, q < R * C → cpE A R C 1 q = A q := fun q hq => by
  obtain ⟨h1, h2⟩ := idx_at hq
  unfold cpE
  rw [bn_one]
  have e : laZ.dt 1 (fun i j => A (setS R 1 (q / C) i * C + setS C 1 (q % C) j)) = A (setS R 1 (q / C) 0 * C + setS C 1 (q % C) 0) := by
    show (0 : Int) + laZ.sg 0 * A (setS R 1 (q / C) 0 * C + setS C 1 (q % C) 0) * 1 = _
    rw [show laZ.sg 0 = 1 from rfl, Int.zero_add, Int.one_mul, Int.mul_one]
  rw [e, setS_one hR _ h1, setS_one hC _ h2, Nat.mul_comm, Nat.div_add_mod]
theorem cpE_none {A : Nat → Int} {R C : Nat} (q : Nat) : cpE A R C 0 q = 1 := rfl
end Go.Proofs.Ytejliecmdkmgiaa

namespace Go.Proofs.Ytejliecmdkmgiaa
open Go.RowKit Go.Shelf

set_option maxHeartbeats 4000000 in
set_option maxRecDepth 100000 in
theorem Cm_bad (r c : Int) (a : Option Addr) (n cap : Nat) (k : Int) (hn : n ≤ 17592186044416) (h1 : checkE r c n = 1) (w : World) :
    Calls Try.prog 9 #[.agg #[.int .i64 r, .int .i64 c, .slice a n cap], .int .i64 k] w fun e w' => e = .returned (.bool true) ∧ Below w.heap.size w w' := by
  have HC := Lib.hid (fun (u : World) => Compound_err r c a n cap k 1 hn (by unfold mszE; rw [h1]; rfl) (by decide) u)
  have hck := fun (u : World) => Check09_all r c a n cap hn u
  rw [h1] at hck
  have HK := Lib.hid hck
  clear hck h1
  have HM := Lib.hid (MBox.new w r c (.slice a n cap))
  have HB := Lib.hid (bl_alloc w (.cells #[.int .i64 r, .int .i64 c, .slice a n cap] 24))
  have HM_0 := HM.out.m0
  have HM_1 := HM.out.m1
  have HM_2 := HM.out.m2
  go_enter Try.func9, Try.ntmps9
  go_upto_region 1 with fail
  generalize w.alloc (.cells #[.int .i64 r, .int .i64 c, .slice a n cap] 24) = W at *
  clear HM_0 HM_1 HM_2
  go_wp2_with fail
  (refine (awake14_any W).mono ?_)
  rintro e w1 ⟨rfl, hb⟩
  replace HM := Lib.hid (HM.out.below hb)
  replace HB := Lib.hid (below_via HB.out hb)
  clear hb
  go_upto_region 3 with fail
  have HM_0 := HM.out.m0
  have HM_1 := HM.out.m1
  have HM_2 := HM.out.m2
  go_wp2_with fail
  (refine (HC.out w1).mono ?_)
  rintro e w2 ⟨rfl, hb⟩
  have hbx := below_via hb (bl_alloc w2 (.cells #[.int .i64 0, .int .i64 0, .slice none 0 0] 24))
  replace HM := Lib.hid (HM.out.below hbx)
  replace HB := Lib.hid (below_via HB.out hbx)
  clear HM_0 HM_1 HM_2
  clear hb hbx HC
  go_upto_region 4 with fail
  generalize w2.alloc (.cells #[.int .i64 0, .int .i64 0, .slice none 0 0] 24) = w3 at *
  have HM_0 := HM.out.m0
  have HM_1 := HM.out.m1
  have HM_2 := HM.out.m2
  go_wp2_with fail
  (refine (HK.out w3).mono ?_)
  rintro e w4 ⟨rfl, hb⟩
  replace HB := Lib.hid (below_via HB.out hb)
  clear HM_0 HM_1 HM_2
  clear hb HK HM
  go_wp2_with fail
  refine bodyPost_ret (v := .bool true) ?_ rfl ⟨rfl, HB.out⟩
  simp [results, Try.results9, go_sem]

set_option maxHeartbeats 4000000 in
set_option maxRecDepth 100000 in
theorem Cm_arg (r c : Int) (a : Option Addr) (n cap : Nat) (k : Int) (hn : n ≤ 17592186044416) (h0 : checkE r c n = 0) (hk : k < 0 ∨ r < k ∨ c < k) (w : World) :
    Calls Try.prog 9 #[.agg #[.int .i64 r, .int .i64 c, .slice a n cap], .int .i64 k] w fun e w' => e = .returned (.bool true) ∧ Below w.heap.size w w' := by
  have HC := Lib.hid (fun (u : World) => Compound_err r c a n cap k 3 hn (by unfold mszE; rw [h0, if_pos rfl, if_pos hk]) (by decide) u)
  have hck := fun (u : World) => Check09_all r c a n cap hn u
  rw [h0] at hck
  have HK := Lib.hid hck
  have HKK := Lib.hid hk
  clear hck h0 hk
  have HM := Lib.hid (MBox.new w r c (.slice a n cap))
  have HB := Lib.hid (bl_alloc w (.cells #[.int .i64 r, .int .i64 c, .slice a n cap] 24))
  have HM_0 := HM.out.m0
  have HM_1 := HM.out.m1
  have HM_2 := HM.out.m2
  go_enter Try.func9, Try.ntmps9
  go_upto_region 1 with fail
  generalize w.alloc (.cells #[.int .i64 r, .int .i64 c, .slice a n cap] 24) = W at *
  clear HM_0 HM_1 HM_2
  go_wp2_with fail
  (refine (awake14_any W).mono ?_)
  rintro e w1 ⟨rfl, hb⟩
  replace HM := Lib.hid (HM.out.below hb)
  replace HB := Lib.hid (below_via HB.out hb)
  clear hb
  go_upto_region 3 with fail
  have HM_0 := HM.out.m0
  have HM_1 := HM.out.m1
  have HM_2 := HM.out.m2
  go_wp2_with fail
  (refine (HC.out w1).mono ?_)
  rintro e w2 ⟨rfl, hb⟩
  have hbx := below_via hb (bl_alloc w2 (.cells #[.int .i64 0, .int .i64 0, .slice none 0 0] 24))
  replace HM := Lib.hid (HM.out.below hbx)
  replace HB := Lib.hid (below_via HB.out hbx)
  clear HM_0 HM_1 HM_2
  clear hb hbx HC
  go_upto_region 4 with fail
  generalize w2.alloc (.cells #[.int .i64 0, .int .i64 0, .slice none 0 0] 24) = w3 at *
  have HM_0 := HM.out.m0
  have HM_1 := HM.out.m1
  have HM_2 := HM.out.m2
  go_wp2_with fail
  (refine (HK.out w3).mono ?_)
  rintro e w4 ⟨rfl, hb⟩
  replace HM := Lib.hid (HM.out.below hb)
  replace HB := Lib.hid (below_via HB.out hb)
  clear HM_0 HM_1 HM_2
  clear hb HK
  have HM_0 := HM.out.m0
  have HM_1 := HM.out.m1
  have HM_2 := HM.out.m2
  by_cases h1 : k < 0
  · clear HKK HM
    go_wp2_with fail
    refine bodyPost_ret (v := .bool true) ?_ rfl ⟨rfl, HB.out⟩
    simp [results, Try.results9, go_sem]
  · by_cases h2 : r < k
    · clear HKK HM
      go_wp2_with fail
      refine bodyPost_ret (v := .bool true) ?_ rfl ⟨rfl, HB.out⟩
      simp [results, Try.results9, go_sem]
    · have h3 : c < k := by have := HKK.out; omega
      clear HKK HM
      go_wp2_with fail
      refine bodyPost_ret (v := .bool true) ?_ rfl ⟨rfl, HB.out⟩
      simp [results, Try.results9, go_sem]

set_option maxHeartbeats 4000000 in
set_option maxRecDepth 100000 in
theorem Cm_large (R C K : Nat) (a : Option Addr) (n cap : Nat) (w : World) (hn : n = R * C) (hR : R ≤ 64) (hC : C ≤ 64) (hKR : K ≤ R) (hKC : K ≤ C) (hl : 64 < bn R K ∨ 64 < bn C K) :
    Calls Try.prog 9 #[.agg #[.int .i64 R, .int .i64 C, .slice a n cap], .int .i64 K] w fun e w' => e = .returned (.bool true) ∧ Below w.heap.size w w' := by
  have hK4 : R * C ≤ 4096 := Nat.mul_le_mul hR hC
  have h0 := checkE_ok hR hC hn
  have HC := Lib.hid (fun (u : World) => Compound_large R C K a n cap u (by omega) (by unfold mszE; rw [h0, if_pos rfl, if_neg (by omega)]) hR hC hKR hKC hl)
  have hck := fun (u : World) => Check09_all R C a n cap (by omega) u
  rw [h0] at hck
  have HK := Lib.hid hck
  have HL := Lib.hid hl
  have HSR := Lib.hid (fun (u : World) => size14_good R K u hR hKR)
  have HSC := Lib.hid (fun (u : World) => size14_good C K u hC hKC)
  obtain ⟨r, hr⟩ : ∃ r : Int, r = R := ⟨_, rfl⟩
  obtain ⟨c, hc⟩ : ∃ c : Int, c = C := ⟨_, rfl⟩
  obtain ⟨k, hk⟩ : ∃ k : Int, k = K := ⟨_, rfl⟩
  have l1 : ¬ k < 0 := by omega
  have l2 : ¬ r < k := by omega
  have l3 : ¬ c < k := by omega
  rw [← hr, ← hc] at HK
  rw [← hr, ← hc, ← hk] at HC ⊢
  rw [← hr, ← hk] at HSR
  rw [← hc, ← hk] at HSC
  clear hck h0 hl hr hc hk hn hKR hKC
  have HM := Lib.hid (MBox.new w r c (.slice a n cap))
  have HB := Lib.hid (bl_alloc w (.cells #[.int .i64 r, .int .i64 c, .slice a n cap] 24))
  have HM_0 := HM.out.m0
  have HM_1 := HM.out.m1
  have HM_2 := HM.out.m2
  go_enter Try.func9, Try.ntmps9
  go_upto_region 1 with fail
  generalize w.alloc (.cells #[.int .i64 r, .int .i64 c, .slice a n cap] 24) = W at *
  clear HM_0 HM_1 HM_2
  go_wp2_with fail
  (refine (awake14_any W).mono ?_)
  rintro e w1 ⟨rfl, hb⟩
  replace HM := Lib.hid (HM.out.below hb)
  replace HB := Lib.hid (below_via HB.out hb)
  clear hb
  go_upto_region 3 with fail
  have HM_0 := HM.out.m0
  have HM_1 := HM.out.m1
  have HM_2 := HM.out.m2
  go_wp2_with fail
  (refine (HC.out w1).mono ?_)
  rintro e w2 ⟨rfl, hb⟩
  have hbx := below_via hb (bl_alloc w2 (.cells #[.int .i64 0, .int .i64 0, .slice none 0 0] 24))
  replace HM := Lib.hid (HM.out.below hbx)
  replace HB := Lib.hid (below_via HB.out hbx)
  clear HM_0 HM_1 HM_2
  clear hb hbx HC
  go_upto_region 4 with fail
  generalize w2.alloc (.cells #[.int .i64 0, .int .i64 0, .slice none 0 0] 24) = w3 at *
  have HM_0 := HM.out.m0
  have HM_1 := HM.out.m1
  have HM_2 := HM.out.m2
  go_wp2_with fail
  (refine (HK.out w3).mono ?_)
  rintro e w4 ⟨rfl, hb⟩
  replace HM := Lib.hid (HM.out.below hb)
  replace HB := Lib.hid (below_via HB.out hb)
  clear HM_0 HM_1 HM_2
  clear hb HK
  have HM_0 := HM.out.m0
  have HM_1 := HM.out.m1
  have HM_2 := HM.out.m2
  go_wp2_with fail
  (refine (HSR.out w4).mono ?_)
  rintro e w5 ⟨rfl, hb⟩
  replace HM := Lib.hid (HM.out.below hb)
  replace HB := Lib.hid (below_via HB.out hb)
  clear HM_0 HM_1 HM_2
  clear hb HSR
  by_cases h1 : (64 : Int) < ((bn R K : Nat) : Int)
  · clear HL HSC HM
    go_wp2_with fail
    refine bodyPost_ret (v := .bool true) ?_ rfl ⟨rfl, HB.out⟩
    simp [results, Try.results9, go_sem]
  · have h2 : (64 : Int) < ((bn C K : Nat) : Int) := by have := HL.out; omega
    clear HL
    have HM_0 := HM.out.m0
    have HM_1 := HM.out.m1
    have HM_2 := HM.out.m2
    go_wp2_with fail
    (refine (HSC.out w5).mono ?_)
    rintro e w6 ⟨rfl, hb⟩
    replace HB := Lib.hid (below_via HB.out hb)
    clear HM_0 HM_1 HM_2
    clear hb HSC HM
    go_wp2_with fail
    refine bodyPost_ret (v := .bool true) ?_ rfl ⟨rfl, HB.out⟩
    simp [results, Try.results9, go_sem]
end Go.Proofs.Ytejliecmdkmgiaa
