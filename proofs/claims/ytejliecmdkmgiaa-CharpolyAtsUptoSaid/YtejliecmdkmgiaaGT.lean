/- The walk of charpoly.Companion. trellislaw16.degree and monic. -/
import Derived.Test.YtejliecmdkmgiaaGR
import Derived.Test.YtejliecmdkmgiaaGS
set_option linter.unusedVariables false
set_option linter.unusedSimpArgs false
namespace Go.Proofs.Ytejliecmdkmgiaa
open Go.RowKit Go.Shelf

structure CoR (w wr : World) (n lb mb : Nat) (G : Nat → Int) : Prop where
  below : Below w.heap.size w wr
  r : MBox wr w.heap.size 0 0 (.slice none 0 0)
  m : MBox wr mb n n (.slice (some ⟨lb, 0, none⟩) (n * n) (n * n))
  g : PaE wr w.heap.size (fun b => b ≤ lb ∨ b = mb ∨ b = w.heap.size) lb (n * n) (n * n) G
  ne : w.heap.size < lb ∧ lb ≠ mb ∧ w.heap.size < mb ∧ mb < wr.heap.size
theorem CoR.on {w wr u : World} {n lb mb : Nat} {G : Nat → Int} (h : CoR w wr n lb mb G) (hu : Below wr.heap.size wr u) : CoR w u n lb mb G :=
  ⟨below_via h.below hu, h.r.below hu, h.m.below hu, h.g.below hu, h.ne.1, h.ne.2.1, h.ne.2.2.1, Nat.lt_of_lt_of_le h.ne.2.2.2 hu.size⟩
theorem CoR.congr {w wr : World} {n lb mb : Nat} {G F : Nat → Int} (h : CoR w wr n lb mb G) (e : ∀ q, q < n * n → G q = F q) : CoR w wr n lb mb F := { h with g := h.g.congr e }
theorem CoR.put {w wr u : World} {n lb mb : Nat} {G : Nat → Int} (h : CoR w wr n lb mb G) (hu : Below wr.heap.size wr u) {v : Value} {z : Int} {b : Nat} (hb : wr.heap.size ≤ b) (hf : FrZ u b v z) {S : Nat} (hz : ZB S z) (hS : S ≤ 274877906944) {j : Nat} (hj : j < n * n) :
    ∃ s a c d, v = .agg #[.bool s, .slice a c d] ∧ CoR w ((u.setCell ⟨lb, j * 2, none⟩ (.bool s)).setCell ⟨lb, j * 2 + 1, none⟩ (.slice a c d)) n lb mb (fun t => if t = j then z else G t) := by
  have h1 := h.on hu
  obtain ⟨n1, n2, n3, n4⟩ := h.ne
  have hlw := h.g.lt
  obtain ⟨s, a, c, d, rfl, hp⟩ := h1.g.putz hj (Or.inl (Nat.le_refl _)) hf hz hS (fun k k1 k2 k3 => by rcases k3 with k3 | k3 | k3 <;> omega)
  have hg := gb_two u lb (j * 2) (j * 2 + 1) (.bool s) (.slice a c d)
  exact ⟨s, a, c, d, rfl, h1.below.grown hg h1.below.size (fun k hk => by injection hk with hk; omega), h1.r.grown hg (by omega), h1.m.grown hg (fun e => n2 e.symm), hp, n1, n2, n3, Nat.lt_of_lt_of_le n4 (Nat.le_trans hu.size hg.size)⟩
theorem CoR.start {w w3 : World} {n lb : Nat} {G : Nat → Int} (h3 : Below (w.alloc (.cells #[.int .i64 0, .int .i64 0, .slice none 0 0] 24)).heap.size (w.alloc (.cells #[.int .i64 0, .int .i64 0, .slice none 0 0] 24)) w3) {base : Nat} (hbase : w.heap.size < base) (hf : FrE w3 base (fun b => b ≤ lb) lb (n * n) G) :
    CoR w (w3.alloc (.cells #[.int .i64 n, .int .i64 n, .slice (some ⟨lb, 0, none⟩) (n * n) (n * n)] 24)) n lb w3.heap.size G := by
  have hba := bl_alloc w (.cells #[.int .i64 0, .int .i64 0, .slice none 0 0] 24)
  have hbb := bl_alloc w3 (.cells #[.int .i64 n, .int .i64 n, .slice (some ⟨lb, 0, none⟩) (n * n) (n * n)] 24)
  have hs : (w.alloc (.cells #[.int .i64 0, .int .i64 0, .slice none 0 0] 24)).heap.size = w.heap.size + 1 := by simp
  have hs3 := h3.size
  have ho := hf.own
  have hl := hf.lt
  refine ⟨below_via hba (below_via h3 hbb), ((MBox.new w 0 0 _).below h3).below hbb, MBox.new w3 n n _, PaE.below ?_ hbb, by omega, by omega, by omega, by simp⟩
  exact (hf.mono (by omega)).turnD (fun b hb hn hd => by rcases hd with hd | hd | hd; exact hn hd; omega; exact hn (by omega))

end Go.Proofs.Ytejliecmdkmgiaa

namespace Go.Proofs.Ytejliecmdkmgiaa
open Go.RowKit Go.Shelf

set_option maxHeartbeats 1000000 in
set_option maxRecDepth 100000 in
theorem degree_any (a : Option Addr) (n cap : Nat) (hn : n ≤ 1048576) (w : World) :
    Calls Try.prog 25 #[.slice a n cap] w fun e w' => e = .returned (.int .i64 ((n : Int) - 1)) ∧ w = w' := by
  have w0 : IntKind.i64.wrap ((n : Int) - 1) = (n : Int) - 1 := IntWalk.i64_in _ (by omega)
  go_enter Try.func25, Try.ntmps25
  go_wp2_with fail
  go_ret
  exact ⟨rfl, rfl⟩

theorem cmp_one (z : Int) : ((cmpZ z 1 : Int) == 0) = decide (z = 1) := by
  unfold cmpZ
  by_cases e : z = 1
  · rw [e]; simp
  · rw [decide_eq_false e]
    split
    · rfl
    · split
      · rfl
      · omega
/-- is the last number a 1? -/
def monL (E : Nat → Int) (n : Nat) : Bool := decide (0 < n ∧ E (n - 1) = 1)
set_option maxHeartbeats 4000000 in
set_option maxRecDepth 100000 in
theorem monic16_any (x : Value) (n : Nat) (E : Nat → Int) (w : World) (hx : RdE w x n E) :
    Calls Try.prog 26 #[x] w fun e w' => e = .returned (.bool (monL E n)) ∧ Below w.heap.size w w' := by
  obtain ⟨a, cap, rfl, hcap⟩ := hx.slice
  have hmix : Try.prog.follows .mixedOrders = true := by kernel_rfl
  have hnb := hx.le_n
  obtain ⟨r, hr⟩ : ∃ r : Bool, r = monL E n := ⟨_, rfl⟩
  rw [← hr]
  have HX := Lib.hid hx
  have HR := Lib.hid hr
  clear hx hr
  go_enter Try.func26, Try.ntmps26
  by_cases h0 : n = 0
  · obtain rfl : r = false := by rw [HR.out, h0]; rfl
    subst h0
    go_wp2_with fail
    refine region_early (fun u => True) 14 [0, 1, 2, 3, 4, 5, 6, 7, 8, 9, 10, 11, 12, 13] 1 hmix (by kernel_rfl) rfl (by kernel_rfl) (fun _ _ d _ _ h => by cases d <;> exact h) trivial ?_
    iterate 4 (refine early_take rfl (by rfl) ?_; apply Exists.intro; refine ⟨fun u hu => ?_, ?_⟩; (go_simp; rfl); simp only [Act.put, List.getElem_toArray, List.getElem_cons_zero, List.getElem_cons_succ, List.setIfInBounds_toArray, List.set_cons_zero, List.set_cons_succ])
    iterate 9 (refine early_skip rfl (by rfl) ?_; simp only [Act.put, List.getElem_toArray, List.getElem_cons_zero, List.getElem_cons_succ, List.setIfInBounds_toArray, List.set_cons_zero, List.set_cons_succ])
    iterate 1 (refine early_take rfl (by rfl) ?_; apply Exists.intro; refine ⟨fun u hu => ?_, ?_⟩; (go_simp; rfl); simp only [Act.put, List.getElem_toArray, List.getElem_cons_zero, List.getElem_cons_succ, List.setIfInBounds_toArray, List.set_cons_zero, List.set_cons_succ])
    refine early_done ?_
    simp only [marked]
    refine anyL_one (i := 14) (by kernel_rfl) rfl (by rfl) fun J hJ => ?_
    go_simp
    refine hJ _ _ (fun e => absurd e (by decide)) ?_
    clear hJ J
    refine anyL_done (by kernel_rfl) ?_ _
    go_wp2_with fail
    go_ret
    exact ⟨rfl, bl_drew w⟩
  · have h0n : 0 < n := by omega
    obtain ⟨j, hj⟩ : ∃ j, j = n - 1 := ⟨_, rfl⟩
    have h1' : (j : Int) < (n : Int) := by omega
    have hw : IntKind.i64.wrap ((n : Int) - 1) = (j : Int) := by rw [show (n : Int) - 1 = (j : Int) by omega]; exact IntWalk.i64_in _ (by omega)
    obtain ⟨b, o, s, m, rfl, c1, c2, hz⟩ := HX.out.get (show j < n by omega)
    obtain ⟨am, ac, an, rfl⟩ := hz.agg
    have hr : ((cmpZ (E j) 1 : Int) == 0) = r := by
      rw [HR.out, cmp_one]
      unfold monL
      rw [← hj]
      by_cases e : E j = 1
      · rw [decide_eq_true e, decide_eq_true ⟨by omega, e⟩]
      · rw [decide_eq_false e, decide_eq_false (fun h => e h.2)]
    have HZ := Lib.hid hz
    clear hz hj h0 HR
    generalize hcz : cmpZ (E j) 1 = cz at *
    have HCZ := Lib.hid hcz
    clear hcz
    go_wp2_with fail
    refine region_early (fun u => u.cell? ⟨b, o + j * 2, none⟩ = some (.bool s) ∧ u.cell? ⟨b, o + j * 2 + 1, none⟩ = some (.slice am ac an)) 14 [0, 1, 2, 3, 4, 5, 6, 7, 8, 9] 5 hmix (by kernel_rfl) rfl (by kernel_rfl) (fun _ _ d _ _ h => by cases d <;> exact h) ⟨c1, c2⟩ ?_
    iterate 10 (refine early_take rfl (by rfl) ?_; apply Exists.intro; refine ⟨fun u hu => ?_, ?_⟩; (obtain ⟨u_1, u_2⟩ := hu; go_simp; rfl); simp only [Act.put, List.getElem_toArray, List.getElem_cons_zero, List.getElem_cons_succ, List.setIfInBounds_toArray, List.set_cons_zero, List.set_cons_succ])
    refine early_done ?_
    simp only [marked]
    refine anyL_one (i := 10) (by kernel_rfl) rfl (by rfl) fun J hJ => ?_
    go_simp
    refine (zOf_fr 1 (by omega) (by omega) w.drew).mono ?_
    rintro e w1 ⟨v1, rfl, hf1, hb1⟩
    have hb := below_via (bl_drew w) hb1
    have hcm := zCmp_any _ _ _ 1 w1 (HZ.out.below hb) (hf1.rd zb_ones (by omega))
    rw [HCZ.out] at hcm
    have HCM := Lib.hid hcm
    refine hJ _ _ (fun _ => ⟨cell_stays hb c1, cell_stays hb c2⟩) ?_
    have HB := Lib.hid hb
    clear hJ J hf1 hb1 hcm HZ
    refine anyL_one (i := 11) (by kernel_rfl) rfl (by rfl) fun J hJ => ?_
    go_simp
    refine HCM.out.mono ?_
    rintro e w2 ⟨rfl, hb2⟩
    have hb3 := below_via HB.out hb2
    have hS := And.intro (cell_stays hb3 c1) (cell_stays hb3 c2)
    refine hJ _ _ (fun _ => hS) ?_
    have HB2 := Lib.hid hb3
    clear hJ J hb2 hb3 HCM HB c1 c2
    refine anyL_yield (i := 12) rfl (by kernel_rfl) (by kernel_rfl) (by kernel_rfl) (by kernel_rfl) (fun _ _ d _ _ h => by cases d <;> exact h) (by rfl) hS ?_
    apply Exists.intro
    refine ⟨fun u => ?_, ?_⟩
    · go_simp
      rfl
    simp only [Act.put, List.getElem_toArray, List.getElem_cons_zero, List.getElem_cons_succ, List.setIfInBounds_toArray, List.set_cons_zero, List.set_cons_succ]
    refine anyL_yield (i := 13) rfl (by kernel_rfl) (by kernel_rfl) (by kernel_rfl) (by kernel_rfl) (fun _ _ d _ _ h => by cases d <;> exact h) (by rfl) hS ?_
    apply Exists.intro
    refine ⟨fun u => ?_, ?_⟩
    · go_simp
      rfl
    simp only [Act.put, List.getElem_toArray, List.getElem_cons_zero, List.getElem_cons_succ, List.setIfInBounds_toArray, List.set_cons_zero, List.set_cons_succ]
    refine anyL_one (i := 14) (by kernel_rfl) rfl (by rfl) fun J hJ => ?_
    go_simp
    refine hJ _ _ (fun e => absurd e (by decide)) ?_
    clear hJ J
    refine anyL_done (by kernel_rfl) ?_ _
    go_wp2_with fail
    go_ret
    exact ⟨rfl, HB2.out⟩
end Go.Proofs.Ytejliecmdkmgiaa
