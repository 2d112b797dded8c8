import Derived.Test.YtejliecmdkmgiaaGAD
import Derived.Test.YtejliecmdkmgiaaGAA
import Derived.Test.YtejliecmdkmgiaaGAC
import Derived.Test.YtejliecmdkmgiaaGX
import Derived.Test.YtejliecmdkmgiaaGE
set_option linter.unusedVariables false
set_option linter.unusedSimpArgs false
set_option maxHeartbeats 8000000
set_option maxRecDepth 100000
namespace Go.Proofs.Ytejliecmdkmgiaa
open Go.RowKit Go.Shelf
theorem Compound_large (R C K : Nat) (a : Option Addr) (n cap : Nat) (w : World) (hn : n ≤ 17592186044416) (hE : mszE R C n K = 0) (hR : R ≤ 64) (hC : C ≤ 64) (hKR : K ≤ R) (hKC : K ≤ C) (hl : 64 < bn R K ∨ 64 < bn C K) :
    Calls Try.prog 53 #[.agg #[.int .i64 R, .int .i64 C, .slice a n cap], .int .i64 K] w fun e w' => e = .returned (.tuple #[.agg #[.int .i64 0, .int .i64 0, .slice none 0 0], .int .i64 5]) ∧ Below w.heap.size w w' := by
  have hmix : Try.prog.follows .mixedOrders = true := by kernel_rfl
  obtain ⟨r, hr⟩ : ∃ r : Int, r = R := ⟨_, rfl⟩
  obtain ⟨c, hc⟩ : ∃ c : Int, c = C := ⟨_, rfl⟩
  obtain ⟨k, hk⟩ : ∃ k : Int, k = K := ⟨_, rfl⟩
  have HCR := Lib.hid (fun (u : World) => choices_good R K u hR hKR)
  have HCC := Lib.hid (fun (u : World) => choices_good C K u hC hKC)
  have HL := Lib.hid hl
  rw [← hr, ← hc, ← hk] at hE ⊢
  rw [← hr, ← hk] at HCR
  rw [← hc, ← hk] at HCC
  clear hr hc hk hl
  have HMS := Lib.hid (fun (u : World) => msize_any r c a n cap k hn u)
  obtain ⟨hm, hk, hrr, he, hb, hs⟩ := boxes_cp w r c (.slice a n cap) (.int .i64 k)
  have HM := Lib.hid hm
  have HKC := Lib.hid hk
  have HRR := Lib.hid hrr
  have HEE := Lib.hid he
  have HB := Lib.hid hb
  clear hm hk hrr he hb hs
  have HM_0 := HM.out.m0
  have HM_1 := HM.out.m1
  have HM_2 := HM.out.m2
  have k0 := HKC.out
  go_enter Try.func53, Try.ntmps53
  go_upto_region 1 with fail
  generalize (((w.alloc (.cells #[.int .i64 r, .int .i64 c, .slice a n cap] 24)).alloc (.cells #[.int .i64 k] 3)).alloc (.cells #[.int .i64 0, .int .i64 0, .slice none 0 0] 24)).alloc (.cells #[.int .i64 0] 26) = W at *
  go_wp2_with fail
  (refine (HMS.out W).mono ?_)
  rintro e w1 ⟨rfl, hb⟩
  rw [hE]
  replace HM := Lib.hid (HM.out.below hb)
  replace HRR := Lib.hid (HRR.out.below hb)
  replace HB := Lib.hid (below_via HB.out hb)
  replace HKC := Lib.hid (cell_stays hb HKC.out)
  replace HEE := Lib.hid (And.intro (cell_stays hb HEE.out.1) (froz_stays hb HEE.out.1 HEE.out.2))
  clear HM_0 HM_1 HM_2
  clear hb HMS k0
  clear hE
  have HM_0 := HM.out.m0
  have HM_1 := HM.out.m1
  have HM_2 := HM.out.m2
  have k0 := HKC.out
  go_upto_region 4 with fail
  refine region_early (fun u => u.cell? ⟨w.heap.size, 0, none⟩ = some (.int .i64 r) ∧ u.cell? ⟨w.heap.size, 1, none⟩ = some (.int .i64 c) ∧ u.cell? ⟨w.heap.size + 1, 0, none⟩ = some (.int .i64 k)) 10 [0, 1, 2, 4, 5, 6] 4 hmix (by kernel_rfl) rfl (by kernel_rfl) (fun _ _ d _ _ h => by cases d <;> exact h) ⟨HM_0, HM_1, k0⟩ ?_
  iterate 6 (refine early_take rfl (by rfl) ?_; apply Exists.intro; refine ⟨fun u hu => ?_, ?_⟩; (obtain ⟨u_1, u_2, u_3⟩ := hu; go_simp; rfl); simp only [Act.put, List.getElem_toArray, List.getElem_cons_zero, List.getElem_cons_succ, List.setIfInBounds_toArray, List.set_cons_zero, List.set_cons_succ])
  refine early_done ?_
  simp only [marked]
  refine anyL_one (i := 3) (by kernel_rfl) rfl (by rfl) fun J hJ => ?_
  go_simp
  refine (HCR.out w1.drew).mono ?_
  rintro e w2 ⟨rfl, hb⟩
  have hb' := below_via (bl_drew w1) hb
  have hS := And.intro (cell_stays hb' HM_0) (And.intro (cell_stays hb' HM_1) (cell_stays hb' k0))
  refine hJ _ _ (fun _ => hS) ?_
  have HB2 := Lib.hid hb'
  clear hJ J hb hb'
  refine anyL_one (i := 7) (by kernel_rfl) rfl (by rfl) fun J hJ => ?_
  go_simp
  refine (HCC.out w2).mono ?_
  rintro e w3 ⟨rfl, hb⟩
  have hb' := below_via HB2.out hb
  have hS3 := And.intro (cell_stays hb' HM_0) (And.intro (cell_stays hb' HM_1) (cell_stays hb' k0))
  refine hJ _ _ (fun _ => hS3) ?_
  replace HRR := Lib.hid (HRR.out.below hb')
  replace HB := Lib.hid (below_via HB.out hb')
  replace HEE := Lib.hid (And.intro (cell_stays hb' HEE.out.1) (froz_stays hb' HEE.out.1 HEE.out.2))
  clear HM_0 HM_1 HM_2
  clear hJ J hb hb' hS k0 HCR HCC HB2 HM HKC
  refine anyL_one (i := 8) (by kernel_rfl) rfl (by rfl) fun J hJ => ?_
  go_simp
  refine hJ _ _ (fun _ => hS3) ?_
  clear hJ J
  refine anyL_one (i := 9) (by kernel_rfl) rfl (by rfl) fun J hJ => ?_
  go_simp
  refine hJ _ _ (fun _ => hS3) ?_
  clear hJ J
  refine anyL_done (by kernel_rfl) ?_ _
  clear hS3
  rcases HL.out with h | h
  · have h2 : (64 : Int) < ((bn R K : Nat) : Int) := by omega
    clear HL h
    have r0 := HRR.out.m0
    have r1 := HRR.out.m1
    have r2 := HRR.out.m2
    have r3 := HRR.out.f0
    have r4 := HRR.out.f1
    have r5 := HRR.out.f2
    have e0 := HEE.out.1
    have e1 := HEE.out.2
    have g1 := stored3_gb w3 (w.heap.size + 1 + 1) (.int .i64 0) (.int .i64 0) (.slice none 0 0)
    have hr1 := HRR.out.store (r' := 0) (c' := 0) (v' := .slice none 0 0)
    have hb1 := HB.out.grown g1 HB.out.size (fun b e => by cases e; omega)
    have he1 := g1.cell HEE.out.1 (fun e => by injection e with e; have e2 : w.heap.size + 1 + 1 + 1 = w.heap.size + 1 + 1 := e; omega)
    have hf1 := froz_grown g1 (show w.heap.size + 1 + 1 + 1 ≠ w.heap.size + 1 + 1 by omega) HEE.out.1 HEE.out.2
    have g2 : (stored3 w3 (w.heap.size + 1 + 1) (.int .i64 0) (.int .i64 0) (.slice none 0 0)).grownBy ((stored3 w3 (w.heap.size + 1 + 1) (.int .i64 0) (.int .i64 0) (.slice none 0 0)).setCell ⟨w.heap.size + 1 + 1 + 1, 0, none⟩ (.int .i64 5)) (some (w.heap.size + 1 + 1 + 1)) := gb_set _ _ _
    have hr2 := hr1.grown g2 (by omega)
    have HB2 := Lib.hid (hb1.grown g2 hb1.size (fun b e => by cases e; omega))
    have q0 := World.cell?_setCell_same _ _ (Value.int .i64 5) he1
    have p0 := hr2.m0
    have p1 := hr2.m1
    have p2 := hr2.m2
    unfold stored3 at he1 hf1 p0 p1 p2 q0 HB2
    clear g1 g2 hr1 hr2 hb1 HRR HEE HB
    go_wp2_with fail
    refine bodyPost_ret (v := .tuple #[.agg #[.int .i64 0, .int .i64 0, .slice none 0 0], .int .i64 5]) ?_ rfl ⟨rfl, HB2.out⟩
    simp [results, Try.results53, go_sem, p0, p1, p2, q0]
  · have h2 : (64 : Int) < ((bn C K : Nat) : Int) := by omega
    clear HL h
    by_cases h3 : (64 : Int) < ((bn R K : Nat) : Int)
    · skip
      have r0 := HRR.out.m0
      have r1 := HRR.out.m1
      have r2 := HRR.out.m2
      have r3 := HRR.out.f0
      have r4 := HRR.out.f1
      have r5 := HRR.out.f2
      have e0 := HEE.out.1
      have e1 := HEE.out.2
      have g1 := stored3_gb w3 (w.heap.size + 1 + 1) (.int .i64 0) (.int .i64 0) (.slice none 0 0)
      have hr1 := HRR.out.store (r' := 0) (c' := 0) (v' := .slice none 0 0)
      have hb1 := HB.out.grown g1 HB.out.size (fun b e => by cases e; omega)
      have he1 := g1.cell HEE.out.1 (fun e => by injection e with e; have e2 : w.heap.size + 1 + 1 + 1 = w.heap.size + 1 + 1 := e; omega)
      have hf1 := froz_grown g1 (show w.heap.size + 1 + 1 + 1 ≠ w.heap.size + 1 + 1 by omega) HEE.out.1 HEE.out.2
      have g2 : (stored3 w3 (w.heap.size + 1 + 1) (.int .i64 0) (.int .i64 0) (.slice none 0 0)).grownBy ((stored3 w3 (w.heap.size + 1 + 1) (.int .i64 0) (.int .i64 0) (.slice none 0 0)).setCell ⟨w.heap.size + 1 + 1 + 1, 0, none⟩ (.int .i64 5)) (some (w.heap.size + 1 + 1 + 1)) := gb_set _ _ _
      have hr2 := hr1.grown g2 (by omega)
      have HB2 := Lib.hid (hb1.grown g2 hb1.size (fun b e => by cases e; omega))
      have q0 := World.cell?_setCell_same _ _ (Value.int .i64 5) he1
      have p0 := hr2.m0
      have p1 := hr2.m1
      have p2 := hr2.m2
      unfold stored3 at he1 hf1 p0 p1 p2 q0 HB2
      clear g1 g2 hr1 hr2 hb1 HRR HEE HB
      go_wp2_with fail
      refine bodyPost_ret (v := .tuple #[.agg #[.int .i64 0, .int .i64 0, .slice none 0 0], .int .i64 5]) ?_ rfl ⟨rfl, HB2.out⟩
      simp [results, Try.results53, go_sem, p0, p1, p2, q0]
    · skip
      have r0 := HRR.out.m0
      have r1 := HRR.out.m1
      have r2 := HRR.out.m2
      have r3 := HRR.out.f0
      have r4 := HRR.out.f1
      have r5 := HRR.out.f2
      have e0 := HEE.out.1
      have e1 := HEE.out.2
      have g1 := stored3_gb w3 (w.heap.size + 1 + 1) (.int .i64 0) (.int .i64 0) (.slice none 0 0)
      have hr1 := HRR.out.store (r' := 0) (c' := 0) (v' := .slice none 0 0)
      have hb1 := HB.out.grown g1 HB.out.size (fun b e => by cases e; omega)
      have he1 := g1.cell HEE.out.1 (fun e => by injection e with e; have e2 : w.heap.size + 1 + 1 + 1 = w.heap.size + 1 + 1 := e; omega)
      have hf1 := froz_grown g1 (show w.heap.size + 1 + 1 + 1 ≠ w.heap.size + 1 + 1 by omega) HEE.out.1 HEE.out.2
      have g2 : (stored3 w3 (w.heap.size + 1 + 1) (.int .i64 0) (.int .i64 0) (.slice none 0 0)).grownBy ((stored3 w3 (w.heap.size + 1 + 1) (.int .i64 0) (.int .i64 0) (.slice none 0 0)).setCell ⟨w.heap.size + 1 + 1 + 1, 0, none⟩ (.int .i64 5)) (some (w.heap.size + 1 + 1 + 1)) := gb_set _ _ _
      have hr2 := hr1.grown g2 (by omega)
      have HB2 := Lib.hid (hb1.grown g2 hb1.size (fun b e => by cases e; omega))
      have q0 := World.cell?_setCell_same _ _ (Value.int .i64 5) he1
      have p0 := hr2.m0
      have p1 := hr2.m1
      have p2 := hr2.m2
      unfold stored3 at he1 hf1 p0 p1 p2 q0 HB2
      clear g1 g2 hr1 hr2 hb1 HRR HEE HB
      go_wp2_with fail
      refine bodyPost_ret (v := .tuple #[.agg #[.int .i64 0, .int .i64 0, .slice none 0 0], .int .i64 5]) ?_ rfl ⟨rfl, HB2.out⟩
      simp [results, Try.results53, go_sem, p0, p1, p2, q0]
end Go.Proofs.Ytejliecmdkmgiaa
namespace Go.Proofs.Ytejliecmdkmgiaa
open Go.RowKit Go.Shelf
theorem WLn.get {w : World} {base t K N : Nat} {v : Value} (h : WLn w base v t K N) (hK : K ≤ 64) {i : Nat} (hi : i < t) : ∃ g cap u, v = .slice (some ⟨g, 0, none⟩) t cap ∧ w.cell? ⟨g, i, none⟩ = some u ∧ (∃ a n c, u = .slice a n c) ∧ RdI64 w u K (setS N K i) := by
  obtain ⟨F, h1, h2⟩ := h
  obtain ⟨g, cap, e, -, -, -, hc⟩ := OwnL.cell h1 (by omega)
  obtain ⟨a, c, e2, -, -⟩ := (h2 i hi).slice
  exact ⟨g, cap, F i, e, (hc i hi).1, ⟨a, K, c, e2⟩, (h2 i hi).read hK⟩
theorem OwnZ.lee {w : World} {base : Nat} {v : Value} {n : Nat} {E : Nat → Int} (h : OwnZ w base v n E) (hn : n ≤ 1048576) {S : Nat} (hS : S ≤ 274877906944) (hz : ∀ i, i < n → ZB S (E i)) : LeE w v n E := by
  obtain ⟨M, ⟨h0, h1⟩, h2⟩ := h
  rcases h1 with ⟨rfl, rfl⟩ | ⟨g, cap, cur, rfl, -, h3, h4, -, -, h5⟩
  · exact ⟨none, 0, rfl, Nat.le_refl _, hn, fun h => absurd h (by omega)⟩
  · refine ⟨some ⟨g, 0, none⟩, cap, rfl, h4, hn, fun _ => ⟨g, 0, rfl, fun i hi => ⟨decide (E i < 0), M i, ?_, ?_, (h2 i hi).le (hz i hi) hS⟩⟩⟩
    · have := (flatI_at (fun i => Value.bool (decide (E i < 0))) M n i hi).1
      rw [← h5, List.getElem?_take, if_pos (by omega)] at this
      rw [Nat.zero_add, cell_of_row _ _ _ _ _ _ h3]; simpa using this
    · have := (flatI_at (fun i => Value.bool (decide (E i < 0))) M n i hi).2
      rw [← h5, List.getElem?_take, if_pos (by omega)] at this
      rw [Nat.zero_add, cell_of_row _ _ _ _ _ _ h3]; simpa using this
end Go.Proofs.Ytejliecmdkmgiaa
namespace Go.Proofs.Ytejliecmdkmgiaa
open Go.RowKit Go.Shelf
end Go.Proofs.Ytejliecmdkmgiaa
