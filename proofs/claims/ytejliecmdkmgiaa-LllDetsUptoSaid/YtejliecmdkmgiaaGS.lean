/- The helpers of the laws of layer 16: of, power, awake. A region that draws its order: what reads comes up behind a call. The walk of trellislaw16.awake. The walks of divnat.words, divnat.Gcd. The walk of divnat.Gcd. The walks of bezout.Gcd, GcdAll. The walk of relation.less. copy of a list of integers into a list of the call's own. What memory holds in the loops of charpoly.LeastPoly. The walk of charpoly.LeastPoly. -/
import Derived.Test.YtejliecmdkmgiaaGR
import Derived.Test.YtejliecmdkmgiaaGH
import Derived.Deep.LoopGhost
import Derived.Laws.IdiomCopy
set_option linter.unusedVariables false
set_option linter.unusedSimpArgs false
set_option maxHeartbeats 8000000
set_option maxRecDepth 100000
namespace Go.Proofs.Ytejliecmdkmgiaa
open Go.RowKit Go.Shelf
theorem of16_any (n : Int) (w : World) :
    Calls Try.prog 40 #[.int .u64 n] w fun e w' => ∃ b, e = .returned (.agg #[.bool false, .slice (some ⟨b, 0, none⟩) 1 1]) ∧ w'.cell? ⟨b, 0, none⟩ = some (.int .u64 n) ∧ w.heap.size ≤ b ∧ b < w'.heap.size ∧ Below w.heap.size w w' := by
  go_enter Try.func40, Try.ntmps40
  go_wp2_with fail
  refine bodyPost_ret (v := .agg #[.bool false, .slice (some ⟨w.heap.size + 1, 0, none⟩) 1 1]) (by simp [results, Try.results40, go_sem]) rfl ⟨w.heap.size + 1, rfl, ?_, by omega, ?_, ?_⟩
  · go_simp
  · simp
  · exact ((Below.refl _ _).alloc (Nat.le_refl _) _).alloc (by simp) _
theorem lez_word (w : World) (b : Nat) (n : Int) (h0 : 1 ≤ n) (h1 : n ≤ 18446744073709551615) (hc : w.cell? ⟨b, 0, none⟩ = some (.int .u64 n)) : LeZ w (.agg #[.bool false, .slice (some ⟨b, 0, none⟩) 1 1]) n := by
  refine ⟨rdz_word w b n (by omega) h1 hc, .slice (some ⟨b, 0, none⟩) 1 1, 1, fun _ => n, by rw [decide_eq_false (by omega)], ⟨_, 1, rfl, Nat.le_refl _, (by decide : (1 : Nat) ≤ 17592186044416), fun _ => ⟨b, 0, rfl, fun j hj => ?_⟩⟩, ⟨fun i _ => by omega, fun _ => by omega, ?_⟩⟩
  · obtain rfl : j = 0 := by omega
    exact hc
  · show (0 + n * 18446744073709551616 ^ 0 : Int) = (n.natAbs : Int)
    rw [Int.pow_zero]; omega
end Go.Proofs.Ytejliecmdkmgiaa
namespace Go.Proofs.Ytejliecmdkmgiaa
open Go.RowKit
theorem anyL_read {P : Program} {Q : Exit → Act → World → Prop} {md : Region.Mode} {ops : Array Oper} {S : World → Prop} {f i : Nat} {oi : Oper} {fuel : Nat} {listed : Array Bool} {a : Act} {w : World} (hi : ops[i]? = some oi)
    (hs : Region.noSelect ops = true) (hfr : Region.free md ops listed i = true) (hr : (Region.ready md ops listed).contains i = true) (hf : (waitsB md ops f i && tailOff f listed && decide (i < f)) = true)
    (hQ : ∀ c (a : Act) (d : Option Tmp) (v : Value) w, Q (.panic c) (a.put d v) w → Q (.panic c) a w) (hw : Region.wanted oi (yielded ops a.tmps) = true) (hS : S w)
    (h : ∃ v, (∀ w, S w → (execOp a.eval oi).run P w = .ok (.value v) w) ∧ wpAnyL P md ops Q S f fuel (listed.setIfInBounds i true) (a.put oi.dst v) w) : wpAnyL P md ops Q S f (fuel + 1) listed a w :=
  h.elim fun v h => anyL_take (v := v) hi hs hfr hr (by simpa using hf) (fun c a w => hQ c a _ _ w) (Or.inl ⟨hw, h.1⟩) hS h.2
end Go.Proofs.Ytejliecmdkmgiaa
namespace Go.Proofs.Ytejliecmdkmgiaa
open Go.RowKit Go.Shelf
theorem rde_one (w : World) (b : Nat) (n : Int) (h : RdZ w (.agg #[.bool false, .slice (some ⟨b, 0, none⟩) 1 1]) n) (E : Nat → Int) (e : E 0 = n) :
    RdE (w.alloc (.cells #[.bool false, .slice (some ⟨b, 0, none⟩) 1 1] 49)) (.slice (some ⟨w.heap.size, 0, none⟩) 1 1) 1 E := by
  refine ⟨_, 1, rfl, Nat.le_refl _, by omega, fun _ => ⟨w.heap.size, 0, rfl, fun i hi => ?_⟩⟩
  obtain rfl : i = 0 := by omega
  obtain ⟨k0, k1, -, -⟩ := two_cells w (.bool false) (.slice (some ⟨b, 0, none⟩) 1 1) 49
  exact ⟨false, _, k0, k1, by rw [e]; exact h.below (bl_alloc _ _)⟩
theorem seven_dig : Dig 18446744073709551616 1 (fun _ => 7) 7 := ⟨fun _ _ => by omega, fun _ => by decide, by decide⟩
theorem wake_neg : flq 1 (mtx 1 (fun _ => 7)) (1 - 0) = -7 := by decide
theorem wake_one : flq 1 (mtx 1 (fun _ => 7)) (1 - 1) = 1 := by decide
theorem awake16_any (w : World) : Calls Try.prog 15 #[] w fun e w' => e = .returned (.bool true) ∧ Below w.heap.size w w' := by
  have hmix : Try.prog.follows .mixedOrders = true := by kernel_rfl
  go_enter Try.func15, Try.ntmps15
  go_wp2_with fail
  (refine (of16_any 7 _).mono ?_)
  rintro e w1 ⟨b1, rfl, hc1, -, -, hb1⟩
  have hrd := rde_one w1 b1 7 (rdz_word w1 b1 7 (by omega) (by omega) hc1) (fun _ => 7) rfl
  have hba := bl_alloc w1 (.cells #[.bool false, .slice (some ⟨b1, 0, none⟩) 1 1] 49)
  have HB := Lib.hid (below_via hb1 hba)
  have HCH := Lib.hid (Char_good 1 1 _ (fun _ => 7) _ (by omega) (by omega) hrd (fun q _ => by unfold ZB; decide))
  clear hc1 hb1 hrd hba
  go_wp2_with fail
  (refine HCH.out.mono ?_)
  rintro e w2 ⟨lp, rfl, hf2, hb2⟩
  have HB2 := Lib.hid (below_via HB.out hb2)
  obtain ⟨s0, m0, c1, c2, c3, -⟩ := hf2.cells 0 (by omega)
  obtain ⟨s1, m1, d1, d2, d3, -⟩ := hf2.cells 1 (by omega)
  replace c3 : LeZ w2 (.agg #[.bool s0, m0]) (-7) := wake_neg ▸ c3
  replace d3 : LeZ w2 (.agg #[.bool s1, m1]) 1 := wake_one ▸ d3
  obtain ⟨-, m, nn, f, he, hra, hdig⟩ := c3
  obtain ⟨rfl, hff⟩ := seven_dig.unique (by decide) hdig
  simp only [Value.agg.injEq, Array.mk.injEq, List.cons.injEq, Value.bool.injEq, and_true] at he
  obtain ⟨rfl, rfl⟩ := he
  obtain ⟨am, cm, rfl, -⟩ := wd_get hra
  replace c1 : w2.cell? ⟨lp, 0, none⟩ = some (.bool true) := c1
  replace c2 : w2.cell? ⟨lp, 1, none⟩ = some (.slice am 1 cm) := c2
  replace d1 : w2.cell? ⟨lp, 2, none⟩ = some (.bool s1) := d1
  replace d2 : w2.cell? ⟨lp, 3, none⟩ = some m1 := d2
  have HRA := Lib.hid hra
  have HD := Lib.hid d3
  have HFF := Lib.hid hff
  clear hra d3 hff hdig hf2 hb2 HB HCH
  go_upto_region 2 with fail
  refine region_early (fun u => u.cell? ⟨lp, 0, none⟩ = some (.bool true) ∧ u.cell? ⟨lp, 1, none⟩ = some (.slice am 1 cm) ∧ u.cell? ⟨lp, 2, none⟩ = some (.bool s1) ∧ u.cell? ⟨lp, 3, none⟩ = some m1) 28 [0, 1, 2, 3, 4, 5, 6, 7, 8, 9, 10, 11, 12, 13, 14, 15, 16, 17] 11 hmix (by kernel_rfl) rfl (by kernel_rfl) (fun _ _ d _ _ h => by cases d <;> exact h) ⟨c1, c2, d1, d2⟩ ?_
  iterate 18 (refine early_take rfl (by rfl) ?_; apply Exists.intro; refine ⟨fun u hu => ?_, ?_⟩; (obtain ⟨u1, u2, u3, u4⟩ := hu; go_simp; rfl); simp only [Act.put, List.getElem_toArray, List.getElem_cons_zero, List.getElem_cons_succ, List.setIfInBounds_toArray, List.set_cons_zero, List.set_cons_succ])
  refine early_done ?_
  simp only [marked]
  refine anyL_one (i := 18) (by kernel_rfl) rfl (by rfl) fun K hK => ?_
  go_simp
  have hba := below_via (bl_drew w2) (bl_alloc w2.drew (.cells #[.int .u64 7] 62))
  refine hK _ _ (fun _ => ⟨cell_stays hba c1, cell_stays hba c2, cell_stays hba d1, cell_stays hba d2⟩) ?_
  have hk7 := (box1 w2.drew (.int .u64 7) 62).1
  have HSM := Lib.hid (Same_yes _ (.slice (some ⟨w2.heap.size, 0, none⟩) 1 1) 1 f (fun _ => 7) _ (HRA.out.below hba) ⟨_, 1, rfl, Nat.le_refl _, (by decide : (1 : Nat) ≤ 17592186044416), fun _ => ⟨w2.heap.size, 0, rfl, fun j hj => by
    obtain rfl : j = 0 := by omega
    exact hk7⟩⟩ (fun i hi => (HFF.out i hi).symm))
  clear hK K hk7
  refine anyL_one (i := 19) (by kernel_rfl) rfl (by rfl) fun K hK => ?_
  go_simp
  refine HSM.out.mono ?_
  rintro e w3 ⟨rfl, hb3⟩
  have hb3' := below_via hba hb3
  have hS3 : (let u := w3; u.cell? ⟨lp, 0, none⟩ = some (.bool true) ∧ u.cell? ⟨lp, 1, none⟩ = some (.slice am 1 cm) ∧ u.cell? ⟨lp, 2, none⟩ = some (.bool s1) ∧ u.cell? ⟨lp, 3, none⟩ = some m1) := ⟨cell_stays hb3' c1, cell_stays hb3' c2, cell_stays hb3' d1, cell_stays hb3' d2⟩
  replace HD := Lib.hid (HD.out.below hb3')
  replace HB2 := Lib.hid (below_via HB2.out hb3')
  refine hK _ _ (fun _ => hS3) ?_
  clear hK K hb3 hb3' hba HSM HRA HFF c1 c2 d1 d2
  refine anyL_yield (i := 20) rfl (by kernel_rfl) (by kernel_rfl) (by kernel_rfl) (by kernel_rfl) (fun _ _ d _ _ h => by cases d <;> exact h) (by rfl) hS3 ?_
  apply Exists.intro
  refine ⟨fun u => ?_, ?_⟩
  · go_simp
    rfl
  simp only [Act.put, List.getElem_toArray, List.getElem_cons_zero, List.getElem_cons_succ, List.setIfInBounds_toArray, List.set_cons_zero, List.set_cons_succ]
  refine anyL_yield (i := 21) rfl (by kernel_rfl) (by kernel_rfl) (by kernel_rfl) (by kernel_rfl) (fun _ _ d _ _ h => by cases d <;> exact h) (by rfl) hS3 ?_
  apply Exists.intro
  refine ⟨fun u => ?_, ?_⟩
  · go_simp
    rfl
  simp only [Act.put, List.getElem_toArray, List.getElem_cons_zero, List.getElem_cons_succ, List.setIfInBounds_toArray, List.set_cons_zero, List.set_cons_succ]
  refine anyL_yield (i := 22) rfl (by kernel_rfl) (by kernel_rfl) (by kernel_rfl) (by kernel_rfl) (fun _ _ d _ _ h => by cases d <;> exact h) (by rfl) hS3 ?_
  apply Exists.intro
  refine ⟨fun u => ?_, ?_⟩
  · go_simp
    rfl
  simp only [Act.put, List.getElem_toArray, List.getElem_cons_zero, List.getElem_cons_succ, List.setIfInBounds_toArray, List.set_cons_zero, List.set_cons_succ]
  refine anyL_yield (i := 23) rfl (by kernel_rfl) (by kernel_rfl) (by kernel_rfl) (by kernel_rfl) (fun _ _ d _ _ h => by cases d <;> exact h) (by rfl) hS3 ?_
  apply Exists.intro
  refine ⟨fun u => ?_, ?_⟩
  · go_simp
    rfl
  simp only [Act.put, List.getElem_toArray, List.getElem_cons_zero, List.getElem_cons_succ, List.setIfInBounds_toArray, List.set_cons_zero, List.set_cons_succ]
  refine anyL_read (i := 24) rfl (by kernel_rfl) (by kernel_rfl) (by kernel_rfl) (by kernel_rfl) (fun _ _ d _ _ h => by cases d <;> exact h) (by rfl) hS3 ?_
  apply Exists.intro
  refine ⟨fun u hu => ?_, ?_⟩
  · obtain ⟨u1, u2, u3, u4⟩ := hu
    go_simp
    rfl
  simp only [Act.put, List.getElem_toArray, List.getElem_cons_zero, List.getElem_cons_succ, List.setIfInBounds_toArray, List.set_cons_zero, List.set_cons_succ]
  refine anyL_one (i := 25) (by kernel_rfl) rfl (by rfl) fun K hK => ?_
  go_simp
  (refine (of16_any 1 w3).mono ?_)
  rintro e w4 ⟨b4, rfl, hc4, -, -, hb4⟩
  obtain ⟨e1, e2, e3, e4⟩ := hS3
  have hS4 : (let u := w4; u.cell? ⟨lp, 0, none⟩ = some (.bool true) ∧ u.cell? ⟨lp, 1, none⟩ = some (.slice am 1 cm) ∧ u.cell? ⟨lp, 2, none⟩ = some (.bool s1) ∧ u.cell? ⟨lp, 3, none⟩ = some m1) := ⟨cell_stays hb4 e1, cell_stays hb4 e2, cell_stays hb4 e3, cell_stays hb4 e4⟩
  have HSI := Lib.hid (SameInt_yes _ _ 1 w4 (HD.out.below hb4) (lez_word w4 b4 1 (by omega) (by omega) hc4))
  replace HB2 := Lib.hid (below_via HB2.out hb4)
  refine hK _ _ (fun _ => hS4) ?_
  clear hK K hc4 hb4 e1 e2 e3 e4 HD
  refine anyL_one (i := 26) (by kernel_rfl) rfl (by rfl) fun K hK => ?_
  go_simp
  refine HSI.out.mono ?_
  rintro e w5 ⟨rfl, hb5⟩
  obtain ⟨e1, e2, e3, e4⟩ := hS4
  have hS5 : (let u := w5; u.cell? ⟨lp, 0, none⟩ = some (.bool true) ∧ u.cell? ⟨lp, 1, none⟩ = some (.slice am 1 cm) ∧ u.cell? ⟨lp, 2, none⟩ = some (.bool s1) ∧ u.cell? ⟨lp, 3, none⟩ = some m1) := ⟨cell_stays hb5 e1, cell_stays hb5 e2, cell_stays hb5 e3, cell_stays hb5 e4⟩
  replace HB2 := Lib.hid (below_via HB2.out hb5)
  refine hK _ _ (fun _ => hS5) ?_
  clear hK K hb5 HSI
  refine anyL_yield (i := 27) rfl (by kernel_rfl) (by kernel_rfl) (by kernel_rfl) (by kernel_rfl) (fun _ _ d _ _ h => by cases d <;> exact h) (by rfl) hS5 ?_
  apply Exists.intro
  refine ⟨fun u => ?_, ?_⟩
  · go_simp
    rfl
  simp only [Act.put, List.getElem_toArray, List.getElem_cons_zero, List.getElem_cons_succ, List.setIfInBounds_toArray, List.set_cons_zero, List.set_cons_succ]
  refine anyL_one (i := 28) (by kernel_rfl) rfl (by rfl) fun K hK => ?_
  go_simp
  refine hK _ _ (fun e => absurd e (by decide)) ?_
  clear hK K
  refine anyL_done (by kernel_rfl) ?_ _
  go_wp2_with fail
  go_ret
  exact ⟨rfl, HB2.out⟩
end Go.Proofs.Ytejliecmdkmgiaa
namespace Go.Proofs.Ytejliecmdkmgiaa
open Go.RowKit Go.Shelf
theorem gcd_turn (x y : Nat) : Nat.gcd y (x % y) = Nat.gcd x y := by
  rw [Nat.gcd_comm y, ← Nat.gcd_rec, Nat.gcd_comm]
theorem words_any (x y : Nat) (hx : x < 18446744073709551616) (hy : y < 18446744073709551616) (h0 : 0 < Nat.gcd x y) (w : World) :
    Calls Try.prog 186 #[.int .u64 x, .int .u64 y] w fun e w' => ∃ v, e = .returned v ∧ FrN w' w.heap.size v (Nat.gcd x y : Nat) ∧ Below w.heap.size w w' := by
  obtain ⟨G, hG⟩ : ∃ G, G = Nat.gcd x y := ⟨_, rfl⟩
  rw [← hG] at h0 ⊢
  go_enter Try.func186, Try.ntmps186
  go_upto_region 1 with fail
  go_loopw [0, 1] (fun v0 v1 wr => ∃ a b : Nat, a < 18446744073709551616 ∧ b < 18446744073709551616 ∧ v0 = .int .u64 a ∧ v1 = .int .u64 b ∧ Nat.gcd a b = G ∧ wr.heap = w.heap ∧ Below w.heap.size w wr) (fun _ v1 _ => (intOf v1).toNat)
  case atStart => exact ⟨x, y, hx, hy, rfl, rfl, hG.symm, rfl, Below.refl _ _⟩
  case round =>
    obtain ⟨a, b, ha, hb, rfl, rfl, hg, hh, hbl⟩ := hrel
    by_cases h : b = 0
    · subst h
      rw [Nat.gcd_zero_right] at hg
      subst hg
      have hfr : FrN (wr.alloc (.cells #[.int .u64 a] 62)) w.heap.size (.slice (some ⟨w.heap.size, 0, none⟩) 1 1) (a : Nat) := by
        have hn := heap_alloc_new wr (.cells #[.int .u64 (a : Int)] 62)
        rw [hh] at hn
        refine ⟨1, fun _ => (a : Int), Or.inr ⟨w.heap.size, 1, rfl, Nat.le_refl _, by omega, Nat.le_refl _, ⟨_, hn, rfl⟩, fun i hi => ?_⟩, ⟨fun i hi => by omega, fun h => by omega, ?_⟩⟩
        · obtain rfl : i = 0 := by omega
          refine ⟨by rw [cell_of_row _ _ _ _ _ _ hn]; rfl, ?_⟩
          unfold World.frozen?
          simp only [hn]; simp
        · simp [dv]
      have HFR := Lib.hid hfr
      have HBL := Lib.hid (below_via hbl (bl_alloc wr (.cells #[.int .u64 (a : Int)] 62)))
      have hs : wr.heap.size = w.heap.size := by rw [hh]
      clear hfr hbl
      go_wp2_with fail
      go_ret
      rw [← hG]
      exact ⟨_, rfl, HFR.out, HBL.out⟩
    · have hne : ((b : Int) != 0) = true := by rw [bne_iff_ne]; omega
      have hw : IntKind.u64.wrap ((a : Int) % b) = ((a % b : Nat) : Int) := by
        rw [IntKind.wrap_u64]; have := Nat.mod_lt a (show 0 < b by omega); omega
      have hlt := Nat.mod_lt a (show 0 < b by omega)
      have hmix : Try.prog.follows .mixedOrders = true := by kernel_rfl
      have HH := Lib.hid hh
      have HBL := Lib.hid hbl
      clear hh hbl
      go_wp2_with fail
      refine region_early (fun _ => True) 5 [0, 1, 2, 3, 4] 1 hmix (by kernel_rfl) rfl (by kernel_rfl) (fun _ _ d _ _ h => by cases d <;> exact h) trivial ?_
      iterate 5 (refine early_take rfl (by rfl) ?_; apply Exists.intro; refine ⟨fun u hu => ?_, ?_⟩; (go_simp; rfl); simp only [Act.put, List.getElem_toArray, List.getElem_cons_zero, List.getElem_cons_succ, List.setIfInBounds_toArray, List.set_cons_zero, List.set_cons_succ])
      refine early_done ?_
      simp only [marked]
      refine anyL_one (i := 5) (by kernel_rfl) rfl (by rfl) fun K hK => ?_
      go_simp
      refine hK _ _ (fun e => absurd e (by decide)) ?_
      clear hK K
      refine anyL_done (by kernel_rfl) ?_ _
      rw [show (a : Int).tmod b = ((a % b : Nat) : Int) from rfl]
      go_wp2_with fail
      go_roundw
      case rel => exact ⟨b, a % b, hb, by omega, rfl, rfl, by rw [gcd_turn]; exact hg, HH.out, HBL.out.trans ((bl_drew wr).mono HBL.out.size)⟩
      case measure =>
        show (((a % b : Nat) : Int)).toNat < ((b : Int)).toNat
        omega
end Go.Proofs.Ytejliecmdkmgiaa
namespace Go.Proofs.Ytejliecmdkmgiaa
open Go.RowKit Go.Shelf
theorem FrN.parts {w : World} {base : Nat} {v : Value} {N : Nat} {S : Nat} (h : FrN w base v (N : Nat)) (hS : ZB S (N : Int)) :
    ∃ a n c f, v = .slice a n c ∧ RdW w (.slice a n c) n f ∧ natFrom f 0 n = (N : Int) ∧ n ≤ S ∧ (n = 0 ↔ N = 0) := by
  obtain ⟨a, n, c, f, rfl, h1, h2⟩ := h.nat
  refine ⟨a, n, c, f, rfl, ⟨h1.read, h2.words⟩, by rw [natFrom_dv0]; exact h2.val, h2.len (by omega) hS, ?_⟩
  rw [h2.zero_iff (by omega)]; omega
theorem RdW.one {w : World} {a : Option Addr} {c : Nat} {f : Nat → Int} {N : Nat} (h : RdW w (.slice a 1 c) 1 f) (hN : natFrom f 0 1 = (N : Int)) : ∃ b o, a = some ⟨b, o, none⟩ ∧ w.cell? ⟨b, o, none⟩ = some (.int .u64 N) ∧ N < 18446744073709551616 := by
  obtain ⟨a', c', he, -, -, h2⟩ := h.1
  injection he with e1 e2 e3
  subst e1
  obtain ⟨b, o, rfl, h3⟩ := h2 (by omega)
  have hw := h.2 0 (by omega)
  have hv : f 0 = (N : Int) := by rw [← hN, natFrom_dv0]; simp [dv]
  refine ⟨b, o, rfl, ?_, by omega⟩
  have := h3 0 (by omega)
  rw [hv] at this
  exact this
theorem natGcd_any (x y : Value) (n m : Nat) (f g : Nat → Int) (S : Nat) (w : World) (hS : S ≤ 274877906944) (hn : n ≤ S) (hm : m ≤ S) (hx : RdW w x n f) (hy : RdW w y m g) :
    Calls Try.prog 165 #[x, y] w fun e w' => ∃ v, e = .returned v ∧ FrN w' w.heap.size v (Int.gcd (natFrom f 0 n) (natFrom g 0 m) : Nat) ∧ Below w.heap.size w w' := by
  have hlx := natLeast_fr x n f w hx
  have hly := fun (u : World) (hu : Below w.heap.size w u) => natLeast_fr y m g u (hy.below hu)
  have hX := (dv_bd (B := 18446744073709551616) (n := n) (f := f) (by omega) (words_bd hx.2))
  have hY := (dv_bd (B := 18446744073709551616) (n := m) (f := g) (by omega) (words_bd hy.2))
  rw [← natFrom_dv0] at hX hY
  obtain ⟨X, hXe⟩ : ∃ X : Nat, natFrom f 0 n = (X : Int) := ⟨(natFrom f 0 n).toNat, by omega⟩
  obtain ⟨Y, hYe⟩ : ∃ Y : Nat, natFrom g 0 m = (Y : Int) := ⟨(natFrom g 0 m).toNat, by omega⟩
  rw [hXe] at hlx hX ⊢
  rw [hYe] at hY ⊢
  simp only [hYe] at hly
  have hXb : ZB S (X : Int) := Int.lt_of_lt_of_le hX.2 (pow_le' (by omega) hn)
  have hYb : ZB S (Y : Int) := Int.lt_of_lt_of_le hY.2 (pow_le' (by omega) hm)
  have hG : Int.gcd (X : Int) (Y : Int) = Nat.gcd X Y := rfl
  rw [hG]
  obtain ⟨G, hGe⟩ : ∃ G, G = Nat.gcd X Y := ⟨_, rfl⟩
  rw [← hGe]
  have HLX := Lib.hid hlx
  have HLY := Lib.hid hly
  have HXB := Lib.hid hXb
  have HYB := Lib.hid hYb
  have HGE := Lib.hid hGe
  clear hlx hly hXb hYb hX hY hG hGe hXe hYe hx hy hn hm
  go_enter Try.func165, Try.ntmps165
  go_wp2_with fail
  (refine HLX.out.mono ?_)
  rintro e w1 ⟨v1, rfl, hf1, hb1⟩
  have HF1 := Lib.hid hf1
  have HB1 := Lib.hid hb1
  clear hf1 hb1
  go_wp2_with fail
  (refine (HLY.out w1 HB1.out).mono ?_)
  rintro e w2 ⟨v2, rfl, hf2, hb2⟩
  have HF2 := Lib.hid (hf2.mono HB1.out.size)
  have HF1b := Lib.hid (HF1.out.below hb2)
  have HB2 := Lib.hid (below_via HB1.out hb2)
  clear hf2 hb2 HF1 HLX HLY
  go_upto_region 2 with fail
  go_loopg [5, 6] Y (fun gk v5 v6 wr => ∃ a : Nat, FrN wr w.heap.size v5 (a : Nat) ∧ FrN wr w.heap.size v6 (gk : Nat) ∧ Nat.gcd a gk = G ∧ Hid (ZB S (a : Int)) ∧ Hid (ZB S (gk : Int)) ∧ Below w.heap.size w wr)
  case atStart => exact ⟨X, HF1b.out, HF2.out, HGE.out.symm, HXB, HYB, HB2.out⟩
  case round =>
    obtain ⟨a, h5, h6, hg, ha, hb, hbl⟩ := hrel
    obtain ⟨a5, n5, c5, f5, rfl, r5, e5, l5, z5⟩ := h5.parts ha.out
    obtain ⟨a6, n6, c6, f6, rfl, r6, e6, l6, z6⟩ := h6.parts hb.out
    by_cases h0 : gk = 0
    · obtain rfl : n6 = 0 := z6.2 h0
      have hG : a = G := by rw [← hg, h0, Nat.gcd_zero_right]
      subst hG
      have H5 := Lib.hid h5
      have HBL := Lib.hid hbl
      clear r5 e5 l5 z5 r6 e6 l6 z6 h5 h6 hbl hg
      go_wp2_with fail
      go_ret
      exact ⟨_, rfl, H5.out, HBL.out⟩
    · have hn6 : 0 < n6 := Nat.pos_of_ne_zero fun e => h0 (z6.1 e)
      by_cases h11 : n5 = 1 ∧ n6 = 1
      · obtain ⟨rfl, rfl⟩ := h11
        obtain ⟨b5, o5, rfl, k5, w5⟩ := r5.one e5
        obtain ⟨b6, o6, rfl, k6, w6⟩ := r6.one e6
        have HW := Lib.hid (words_any a gk w5 w6 (Nat.gcd_pos_of_pos_right _ (by omega)) wr.drew)
        have hmix : Try.prog.follows .mixedOrders = true := by kernel_rfl
        have HG := Lib.hid hg
        have HBL := Lib.hid hbl
        clear r5 e5 l5 z5 r6 e6 l6 z6 h5 h6 hbl hg w5 w6 hn6
        go_wp2_with fail
        refine region_early (fun u => u.cell? ⟨b5, o5, none⟩ = some (.int .u64 a) ∧ u.cell? ⟨b6, o6, none⟩ = some (.int .u64 gk)) 7 [0, 1, 2, 3, 4, 5] 2 hmix (by kernel_rfl) rfl (by kernel_rfl) (fun _ _ d _ _ h => by cases d <;> exact h) ⟨k5, k6⟩ ?_
        iterate 6 (refine early_take rfl (by rfl) ?_; apply Exists.intro; refine ⟨fun u hu => ?_, ?_⟩; (obtain ⟨u1, u2⟩ := hu; go_simp; rfl); simp only [Act.put, List.getElem_toArray, List.getElem_cons_zero, List.getElem_cons_succ, List.setIfInBounds_toArray, List.set_cons_zero, List.set_cons_succ])
        refine early_done ?_
        simp only [marked]
        refine anyL_one (i := 6) (by kernel_rfl) rfl (by rfl) fun K hK => ?_
        go_simp
        refine HW.out.mono ?_
        rintro e w7 ⟨v, rfl, hf7, hb7⟩
        have hb := below_via (bl_drew wr) hb7
        refine hK _ _ (fun _ => ⟨cell_stays hb k5, cell_stays hb k6⟩) ?_
        clear hK K
        have HF7 := Lib.hid (hf7.mono (show w.heap.size ≤ wr.drew.heap.size from HBL.out.size))
        have HB7 := Lib.hid (below_via HBL.out hb)
        clear hf7 hb7 hb HW HBL k5 k6
        refine anyL_one (i := 7) (by kernel_rfl) rfl (by rfl) fun K hK => ?_
        go_simp
        refine hK _ _ (fun e => absurd e (by decide)) ?_
        clear hK K
        refine anyL_done (by kernel_rfl) ?_ _
        go_wp2_with fail
        go_ret
        exact ⟨_, rfl, by rw [← HG.out]; exact HF7.out, HB7.out⟩
      · have HDM := Lib.hid (DivMod_any _ _ n5 n6 f5 f6 wr (by omega) (by rw [e6]; omega) r5 r6)
        rw [e5, e6] at HDM
        have H6 := Lib.hid h6
        have HBL := Lib.hid hbl
        have HG := Lib.hid hg
        have hwm : (a : Int) % gk = ((a % gk : Nat) : Int) := rfl
        have hlt := Nat.mod_lt a (Nat.pos_of_ne_zero h0)
        have HMB := Lib.hid (show ZB S ((a % gk : Nat) : Int) from zb_le hb.out (by show a % gk ≤ gk; omega))
        rw [hwm] at HDM
        clear r5 e5 l5 z5 r6 e6 l6 z6 h5 h6 hbl hg hwm
        by_cases h5 : n5 = 1
        · subst h5
          have h6 : ((n6 : Int) == 1) = false := by rw [beq_eq_false_iff_ne]; exact fun e => h11 ⟨rfl, by omega⟩
          clear h11
          go_wp2_with fail
          (refine HDM.out.mono ?_)
          rintro e w7 ⟨q, r, rfl, -, hr, hb7⟩
          have HR := Lib.hid (hr.mono HBL.out.size)
          have H6b := Lib.hid (H6.out.below hb7)
          have HB7 := Lib.hid (below_via HBL.out hb7)
          clear hr hb7 H6 HBL HDM
          go_wp2_with fail
          go_roundg (a % gk)
          case measure => exact hlt
          case rel => exact ⟨gk, H6b.out, HR.out, by rw [gcd_turn]; exact HG.out, hb, HMB, HB7.out⟩
        · have h6 : ((n5 : Int) == 1) = false := by rw [beq_eq_false_iff_ne]; exact fun e => h5 (by omega)
          clear h11 h5
          go_wp2_with fail
          (refine HDM.out.mono ?_)
          rintro e w7 ⟨q, r, rfl, -, hr, hb7⟩
          have HR := Lib.hid (hr.mono HBL.out.size)
          have H6b := Lib.hid (H6.out.below hb7)
          have HB7 := Lib.hid (below_via HBL.out hb7)
          clear hr hb7 H6 HBL HDM
          go_wp2_with fail
          go_roundg (a % gk)
          case measure => exact hlt
          case rel => exact ⟨gk, H6b.out, HR.out, by rw [gcd_turn]; exact HG.out, hb, HMB, HB7.out⟩
end Go.Proofs.Ytejliecmdkmgiaa
namespace Go.Proofs.Ytejliecmdkmgiaa
open Go.RowKit Go.Shelf
theorem bGcd_any (x y : Value) (a b : Int) (w : World) (hx : RdZ w x a) (hy : RdZ w y b) :
    Calls Try.prog 114 #[x, y] w fun e w' => ∃ v, e = .returned v ∧ FrZ w' w.heap.size v (Int.gcd a b : Int) ∧ Below w.heap.size w w' := by
  obtain ⟨s, am, n, ca, f, rfl, hr, ha, hn⟩ := hx.parts
  obtain ⟨t, bm, m, cb, g, rfl, hs, hb, hm⟩ := hy.parts
  obtain ⟨⟨⟨x0, x1, y0, y1⟩, -, z0, z1, z2, z3⟩, hB, hsz⟩ := boxes3' w (.bool s) (.slice am n ca) (.bool t) (.slice bm m cb) (.bool false) (.slice none 0 0) 49
  have hval : Int.gcd a b = Int.gcd (natFrom f 0 n) (natFrom g 0 m) := by
    rw [ha, hb]; cases s <;> cases t <;> simp
  have hl := fun (u : World) (hu : Below w.heap.size w u) => natGcd_any _ _ n m f g 274877906944 u (Nat.le_refl _) hn hm (hr.below hu) (hs.below hu)
  rw [← hval] at hl
  obtain ⟨G, hG⟩ : ∃ G, G = Int.gcd a b := ⟨_, rfl⟩
  rw [← hG] at hl ⊢
  have HL := Lib.hid hl
  have HB := Lib.hid hB
  have HSZ := Lib.hid hsz
  clear hl hB hsz hr hs ha hb hx hy hval hG hn hm
  go_enter Try.func114, Try.ntmps114
  go_upto_region 1 with fail
  generalize ((w.alloc (.cells #[.bool s, .slice am n ca] 49)).alloc (.cells #[.bool t, .slice bm m cb] 49)).alloc (.cells #[.bool false, .slice none 0 0] 49) = W at *
  go_wp2_with fail
  (refine (HL.out W HB.out).mono ?_)
  rintro e w4 ⟨v, rfl, hf, hb4⟩
  obtain ⟨av, nv, cv, fv, rfl, hf1, hf2⟩ := hf.nat
  have u2 := froz_stays hb4 z0 z2
  have u3 := froz_stays hb4 z1 z3
  replace z0 := cell_stays hb4 z0
  replace z1 := cell_stays hb4 z1
  have hdec : decide ((G : Int) < 0) = false := by rw [decide_eq_false_iff_not]; omega
  have hz : FrZ w4 (w.heap.size + 1 + 1 + 1) (.agg #[.bool false, .slice av nv cv]) (G : Int) := ⟨_, nv, fv, by rw [hdec], hf1.mono (by have := HSZ.out; omega), hf2⟩
  have hg := stored2_gb w4 (w.heap.size + 1 + 1) (.bool false) (.slice av nv cv)
  have hst := hz.far hg (by omega)
  have hbl := (HB.out.trans (hb4.mono HB.out.size)).grown hg (by have := HB.out.size; have := hb4.size; omega) (fun k hk => by injection hk with hk; omega)
  have HST := Lib.hid (hst.mono (show w.heap.size ≤ w.heap.size + 1 + 1 + 1 by omega))
  have HBL := Lib.hid hbl
  clear hf hf1 hf2 hb4 hst hbl x0 x1 y0 y1 z2 z3 HL hz hg
  go_wp2_with fail
  refine bodyPost_ret (v := .agg #[.bool false, .slice av nv cv]) ?_ rfl ⟨_, rfl, HST.out, HBL.out⟩
  simp [results, Try.results114, go_sem, z0, z1]
theorem gcdS_zb {S : Nat} : ∀ {n : Nat} {v : Nat → Int}, (∀ c, c < n → ZB S (v c)) → ZB S (gcdS n v : Int)
  | 0, _, _ => zb_nil S
  | n + 1, v, h => by
    have ih := gcdS_zb (n := n) (v := v) fun c hc => h c (by omega)
    show ZB S ((Int.gcd (gcdS n v : Int) (v n) : Nat) : Int)
    by_cases e : gcdS n v = 0
    · rw [e]
      refine zb_le (h n (by omega)) ?_
      show Int.gcd 0 (v n) ≤ _
      rw [Int.gcd_zero_left]; exact Nat.le_refl _
    · refine zb_le ih ?_
      show Int.gcd _ _ ≤ _
      exact Nat.le_of_dvd (by omega) (Int.ofNat_dvd.1 (Int.gcd_dvd_left ..))
theorem GcdAll_any (x : Value) (n : Nat) (E : Nat → Int) (w : World) (hx : RdE w x n E) :
    Calls Try.prog 62 #[x] w fun e w' => ∃ v, e = .returned v ∧ FrZ w' w.heap.size v (gcdS n E : Int) ∧ Below w.heap.size w w' := by
  obtain ⟨a, cap, rfl, hcap⟩ := hx.slice
  have hnb := hx.le_n
  obtain ⟨W, hW⟩ : ∃ W, W = (w.alloc (.cells #[.bool false, .slice none 0 0] 49)).alloc (.cells #[.bool false, .slice none 0 0] 49) := ⟨_, rfl⟩
  obtain ⟨⟨x0, x1, y0, y1, v0, v1⟩, hb, hsz⟩ := boxes2 w (.bool false) (.slice none 0 0) (.bool false) (.slice none 0 0) 49
  have k2 := two_cells w (.bool false) (.slice none 0 0) 49
  have x2 : W.frozen? ⟨w.heap.size, 0, none⟩ = false := by rw [hW]; exact froz_stays (bl_alloc _ _) k2.1 k2.2.2.1
  have x3 : W.frozen? ⟨w.heap.size, 1, none⟩ = false := by rw [hW]; exact froz_stays (bl_alloc _ _) k2.2.1 k2.2.2.2
  rw [← hW] at x0 x1 y0 y1 v0 v1 hb hsz
  have hZ : ∀ k, k ≤ n → ZB 274877906944 (gcdS k E : Int) := fun k hk => gcdS_zb fun c hc => by
    obtain ⟨b, o, s, m, -, -, -, hz⟩ := hx.get (show c < n by omega)
    exact hz.zb
  have HX := Lib.hid hx
  have HZ := Lib.hid hZ
  have HBW := Lib.hid hb
  have HSZ := Lib.hid hsz
  clear hx hZ hb hsz k2
  go_enter Try.func62, Try.ntmps62
  go_upto_region 2 with fail
  rw [← hW]
  clear hW
  go_wp2_with fail
  go_loopw [8] (fun kv wr => ∃ (k : Nat) (am : Option Addr) (an ac : Nat), k ≤ n ∧ kv = .int .i64 k ∧ Below (w.heap.size + 1) W wr ∧
    (wr.cell? ⟨w.heap.size + 1, 0, none⟩ = some (.bool (decide ((gcdS k E : Int) < 0))) ∧ wr.cell? ⟨w.heap.size + 1, 1, none⟩ = some (.slice am an ac) ∧ wr.frozen? ⟨w.heap.size + 1, 0, none⟩ = false ∧ wr.frozen? ⟨w.heap.size + 1, 1, none⟩ = false) ∧
    FrZ wr (w.heap.size + 2) (.agg #[.bool (decide ((gcdS k E : Int) < 0)), .slice am an ac]) (gcdS k E : Int) ∧ w.heap.size + 2 ≤ wr.heap.size) (fun kv _ => n - (intOf kv).toNat)
  case atStart => exact ⟨0, none, 0, 0, Nat.zero_le _, rfl, Below.refl _ _, ⟨y0, y1, v0, v1⟩, frz_nil _ _, by rw [HSZ.out]; exact Nat.le_refl _⟩
  case round =>
    clear y0 y1 v0 v1
    obtain ⟨k, am, an, ac, hkn, rfl, hbl, ⟨y0, y1, v0, v1⟩, hf, hs⟩ := hrel
    have hbw := HBW.out.trans (hbl.mono (Nat.le_succ _))
    by_cases hk : k < n
    · have hz := hf.rd (HZ.out k hkn) (by omega)
      obtain ⟨z, hzz⟩ : ∃ z, z = (gcdS k E : Int) := ⟨_, rfl⟩
      have hz' : (gcdS (k + 1) E : Int) = (Int.gcd z (E k) : Int) := by rw [hzz]; rfl
      rw [← hzz] at hz y0
      obtain ⟨sg, hsg⟩ : ∃ sg, sg = decide (z < 0) := ⟨_, rfl⟩
      rw [← hsg] at hz y0
      have hk1 : (k : Int) < (n : Int) := by omega
      obtain ⟨b, o, s, m, rfl, c0, c1, hzk⟩ := (HX.out.below hbw).get hk
      obtain ⟨amk, ank, ack, rfl⟩ := hzk.agg
      obtain ⟨q0, q1, -, -⟩ := two_cells wr (.bool s) (.slice amk ank ack) 49
      have hba := bl_alloc wr (.cells #[.bool s, .slice amk ank ack] 49)
      obtain ⟨qb, hqb⟩ : ∃ qb, qb = wr.heap.size := ⟨_, rfl⟩
      rw [← hqb] at q0 q1
      have y2 := cell_stays hba y0
      have y3 := cell_stays hba y1
      have u0 := froz_stays hba y0 v0
      have u1 := froz_stays hba y1 v1
      have HCA := Lib.hid (bGcd_any _ _ z (E k) _ (hz.below hba) (hzk.below hba))
      have HS4 := Lib.hid (show w.heap.size + 2 ≤ (wr.alloc (.cells #[.bool s, .slice amk ank ack] 49)).heap.size from Nat.le_trans hs hba.size)
      have HBA := Lib.hid (hbl.trans (hba.mono (by omega)))
      rw [← hz'] at HCA
      obtain ⟨z1, hz1⟩ : ∃ z1, z1 = (gcdS (k + 1) E : Int) := ⟨_, rfl⟩
      rw [← hz1] at HCA
      have HZ1 := Lib.hid hz1
      clear hz1 hz' hz hf hbl hbw hzz hsg hzk hba hs
      go_upto_region 5 with fail
      rw [← hqb]
      clear hqb y0 y1 v0 v1 c0 c1
      generalize wr.alloc (.cells #[.bool s, .slice amk ank ack] 49) = w4 at *
      go_wp2_with fail
      (refine HCA.out.mono ?_)
      rintro e w5 ⟨v, rfl, hf5, hb5⟩
      replace u0 := froz_stays hb5 y2 u0
      replace u1 := froz_stays hb5 y3 u1
      replace y2 := cell_stays hb5 y2
      replace y3 := cell_stays hb5 y3
      obtain ⟨am5, an5, ac5, rfl, -⟩ := (hf5.mono (show w.heap.size + 1 + 1 ≤ w4.heap.size from HS4.out)).stored
      have hg5 := stored2_gb w5 (w.heap.size + 1) (.bool (decide (z1 < 0))) (.slice am5 an5 ac5)
      have HF6 := Lib.hid ((hf5.mono (show w.heap.size + 2 ≤ w4.heap.size from HS4.out)).far hg5 (by omega))
      have hs5 := hb5.size
      have hs4 := HS4.out
      have HB6 := Lib.hid ((HBA.out.trans (hb5.mono (by omega))).grown hg5 (by omega) (fun k hk => by injection hk with hk; omega))
      have HS6 := Lib.hid (show w.heap.size + 2 ≤ (stored2 w5 (w.heap.size + 1) (.bool (decide (z1 < 0))) (.slice am5 an5 ac5)).heap.size from Nat.le_trans (by omega) hg5.size)
      obtain ⟨n0, n1⟩ := two_own (x0 := .bool (decide (z1 < 0))) (x1 := .slice am5 an5 ac5) y2 y3
      have n2 : (stored2 w5 (w.heap.size + 1) (.bool (decide (z1 < 0))) (.slice am5 an5 ac5)).frozen? ⟨w.heap.size + 1, 0, none⟩ = false := by unfold stored2; rw [World.frozen?_setCell, World.frozen?_setCell]; exact u0
      have n3 : (stored2 w5 (w.heap.size + 1) (.bool (decide (z1 < 0))) (.slice am5 an5 ac5)).frozen? ⟨w.heap.size + 1, 1, none⟩ = false := by unfold stored2; rw [World.frozen?_setCell, World.frozen?_setCell]; exact u1
      have HN := Lib.hid (And.intro n0 (And.intro n1 (And.intro n2 n3)))
      have wk : IntKind.i64.wrap ((k : Int) + 1) = (k : Int) + 1 := IntWalk.i64_in _ (by omega)
      clear hf5 hb5 hg5 hs5 n0 n1 n2 n3 HCA HBA q0 q1
      go_wp2_with fail
      go_roundw
      case rel => exact ⟨k + 1, am5, an5, ac5, by omega, by go_num, HB6.out, by rw [← HZ1.out]; exact HN.out, by rw [← HZ1.out]; exact HF6.out, HS6.out⟩
      case measure => simp [intOf]; omega
    · obtain rfl : k = n := by omega
      obtain ⟨z1, hz1⟩ : ∃ z1, z1 = (gcdS k E : Int) := ⟨_, rfl⟩
      rw [← hz1] at hf y0
      have HZ1 := Lib.hid hz1
      clear hz1
      replace x2 := (hbl.frozen (p := ⟨w.heap.size, 0, none⟩) (by show w.heap.size < _; omega)).trans x2
      replace x3 := (hbl.frozen (p := ⟨w.heap.size, 1, none⟩) (by show w.heap.size < _; omega)).trans x3
      replace x0 := below_keep hbl (by omega) x0
      replace x1 := below_keep hbl (by omega) x1
      obtain ⟨am', an', ac', he, f1, f2⟩ := det_fin (b := w.heap.size) (w := w) hf (by omega) (Nat.le_refl _) hbw
      injection he with he
      injection he with he
      injection he with _ he
      injection he with he
      injection he with e1 e2 e3
      subst e1 e2 e3
      have F1 := Lib.hid f1
      have F2 := Lib.hid f2
      clear hf hbw hbl f1 f2 HX
      go_wp2_with fail
      refine bodyPost_ret (v := .agg #[.bool (decide (z1 < 0)), .slice am an ac]) ?_ rfl ⟨_, rfl, by rw [← HZ1.out]; exact F1.out, F2.out⟩
      simp [results, Try.results62, go_sem, x0, x1]
end Go.Proofs.Ytejliecmdkmgiaa
namespace Go.Proofs.Ytejliecmdkmgiaa
open Go.RowKit Go.Shelf
def offE (R V : Nat → Int) (h : Nat) (c : Nat) : Int := R h * V c - V h * R c
theorem bl_two_d (W : World) (o1 o2 : Obj) : Below W.heap.size W ((W.alloc o1).alloc o2).drew := below_via (below_via (bl_alloc W o1) (bl_alloc (W.alloc o1) o2)) (bl_drew _)
theorem two_boxes_d (W : World) (x0 x1 y0 y1 : Value) :
    let U := ((W.alloc (.cells #[x0, x1] 49)).alloc (.cells #[y0, y1] 49)).drew
    U.cell? ⟨W.heap.size, 0, none⟩ = some x0 ∧ U.cell? ⟨W.heap.size, 1, none⟩ = some x1 ∧ U.cell? ⟨W.heap.size + 1, 0, none⟩ = some y0 ∧ U.cell? ⟨W.heap.size + 1, 1, none⟩ = some y1 := by
  intro U
  have k1 := two_cells W x0 x1 49
  have k2 := two_cells (W.alloc (.cells #[x0, x1] 49)) y0 y1 49
  have hs : (W.alloc (.cells #[x0, x1] 49)).heap.size = W.heap.size + 1 := by simp
  have hb := bl_alloc (W.alloc (.cells #[x0, x1] 49)) (.cells #[y0, y1] 49)
  rw [hs] at k2
  exact ⟨cell_stays (bl_drew _) (cell_stays hb k1.1), cell_stays (bl_drew _) (cell_stays hb k1.2.1), cell_stays (bl_drew _) k2.1, cell_stays (bl_drew _) k2.2.1⟩
theorem less_any (L hd lb rb base baseR T : Nat) (D DR : Nat → Prop) (V R : Nat → Int) (w : World) (hL : L ≤ 1048576) (hv : PaE w base D lb L L V) (hr : PaE w baseR DR rb L L R) (hne : rb ≠ lb) (hD : D lb) (hDR : DR lb)
    (hDl : ∀ b, D b → b < w.heap.size) (hhd : hd < L) (hT : T + T + 1 ≤ 274877906944) (h1 : ∀ c, c < L → ZB T (R hd * V c)) (h2 : ∀ c, c < L → ZB T (V hd * R c)) (hg : V hd ≠ 0 → gcdS L (offE R V hd) ≠ 0) :
    Calls Try.prog 97 #[.agg #[.slice (some ⟨rb, 0, none⟩) L L, .int .i64 hd], .slice (some ⟨lb, 0, none⟩) L L] w fun e w' => e = .returned (.tuple #[]) ∧
      PaE w' base D lb L L (if V hd = 0 then V else fun c => offE R V hd c / (gcdS L (offE R V hd) : Int)) ∧ w.grownBy w' (some lb) := by
  have hmix : Try.prog.follows .mixedOrders = true := by kernel_rfl
  obtain ⟨sx, mx, cx0, cx1, hzx, hox⟩ := hr.cells hd hhd
  obtain ⟨ax, nx, px, rfl⟩ := hzx.agg
  obtain ⟨sy, my, cy0, cy1, hzy, hoy⟩ := hv.cells hd hhd
  obtain ⟨ay, ny, py, rfl⟩ := hzy.agg
  have hlbw := hv.lt
  have hrbw := hr.lt
  have hb0 := bl_alloc w (.cells #[.slice (some ⟨rb, 0, none⟩) L L, .int .i64 hd] 108)
  obtain ⟨b0, b1, -, -⟩ := two_cells w (.slice (some ⟨rb, 0, none⟩) L L) (.int .i64 hd) 108
  have hs0 : (w.alloc (.cells #[.slice (some ⟨rb, 0, none⟩) L L, .int .i64 hd] 108)).heap.size = w.heap.size + 1 := by simp
  have hh1 : (hd : Int) < (L : Int) := by omega
  have e0 := cell_stays hb0 cx0
  have e1 := cell_stays hb0 cx1
  have e2 := cell_stays hb0 cy0
  have e3 := cell_stays hb0 cy1
  have HV := Lib.hid (hv.below hb0)
  have HR := Lib.hid (hr.below hb0)
  have HXZ := Lib.hid (hzx.1.below hb0)
  have HYZ := Lib.hid (hzy.1.below hb0)
  have HOX := Lib.hid (show (Value.slice ax nx px).ownBlock ≠ some lb from fun e => (hox lb e).2 hDR)
  have HOY := Lib.hid (show (Value.slice ay ny py).ownBlock ≠ some lb from fun e => (hoy lb e).2 hD)
  have HG0 := Lib.hid (gb_below hb0 (some lb))
  have HDL := Lib.hid hDl
  have H1 := Lib.hid h1
  have H2 := Lib.hid h2
  have HT := Lib.hid hT
  have HGG := Lib.hid hg
  have HD := Lib.hid hD
  have HDR := Lib.hid hDR
  clear hv hr hzx hzy hox hoy hDl h1 h2 hT hg hD hDR hb0 cx0 cx1 cy0 cy1
  go_enter Try.func97, Try.ntmps97
  go_upto_region 1 with fail
  have HSW := Lib.hid hs0
  clear hs0
  generalize w.alloc (.cells #[.slice (some ⟨rb, 0, none⟩) L L, .int .i64 hd] 108) = W at *
  go_cut [4, 5] (fun v4 v5 wx => ∃ p q, v4 = .pointer (some ⟨p, 0, none⟩) ∧ v5 = .pointer (some ⟨q, 0, none⟩) ∧ W.heap.size ≤ p ∧ W.heap.size ≤ q ∧ wx.cell? ⟨p, 0, none⟩ = some (.bool sx) ∧ wx.cell? ⟨p, 1, none⟩ = some (.slice ax nx px) ∧ wx.cell? ⟨q, 0, none⟩ = some (.bool sy) ∧ wx.cell? ⟨q, 1, none⟩ = some (.slice ay ny py) ∧ Below W.heap.size W wx)
  case first =>
    refine region_early (fun u => u.cell? ⟨w.heap.size, 0, none⟩ = some (.slice (some ⟨rb, 0, none⟩) L L) ∧ u.cell? ⟨w.heap.size, 1, none⟩ = some (.int .i64 hd) ∧ u.cell? ⟨rb, hd * 2, none⟩ = some (.bool sx) ∧ u.cell? ⟨rb, hd * 2 + 1, none⟩ = some (.slice ax nx px) ∧ u.cell? ⟨lb, hd * 2, none⟩ = some (.bool sy) ∧ u.cell? ⟨lb, hd * 2 + 1, none⟩ = some (.slice ay ny py)) 14 [0, 1, 2, 3, 4, 5, 6, 7, 8, 9, 10] 4 hmix (by kernel_rfl) rfl (by kernel_rfl) (fun _ _ d _ _ h => by cases d <;> exact h) ⟨b0, b1, e0, e1, e2, e3⟩ ?_
    iterate 11 (refine early_take rfl (by rfl) ?_; apply Exists.intro; refine ⟨fun u hu => ?_, ?_⟩; (obtain ⟨u1, u2, u3, u4, u5, u6⟩ := hu; go_simp; rfl); simp only [Act.put, List.getElem_toArray, List.getElem_cons_zero, List.getElem_cons_succ, List.setIfInBounds_toArray, List.set_cons_zero, List.set_cons_succ])
    refine early_done ?_
    simp only [marked]
    have hd1 := below_via (bl_drew W) (bl_alloc W.drew (.cells #[.bool false, .slice none 0 0] 49))
    have hd2 := below_via hd1 (bl_alloc (W.drew.alloc (.cells #[.bool false, .slice none 0 0] 49)) (.cells #[.bool false, .slice none 0 0] 49))
    refine anyL_two (i := 11) (j := 12) (by kernel_rfl) rfl (by rfl) rfl (by rfl) (fun K hK => ?_) (fun K hK => ?_)
    · go_simp
      refine hK _ _ (fun _ => ⟨cell_stays hd1 b0, cell_stays hd1 b1, cell_stays hd1 e0, cell_stays hd1 e1, cell_stays hd1 e2, cell_stays hd1 e3⟩) ?_
      clear hK K
      refine anyL_one (i := 12) (by kernel_rfl) rfl (by rfl) fun K hK => ?_
      go_simp
      refine hK _ _ (fun _ => ⟨cell_stays hd2 b0, cell_stays hd2 b1, cell_stays hd2 e0, cell_stays hd2 e1, cell_stays hd2 e2, cell_stays hd2 e3⟩) ?_
      clear hK K
      refine anyL_one (i := 13) (by kernel_rfl) rfl (by rfl) fun K hK => ?_
      go_simp
      refine hK _ _ (fun _ => ⟨cell_stays (bl_two_d W _ _) b0, cell_stays (bl_two_d W _ _) b1, cell_stays (bl_two_d W _ _) e0, cell_stays (bl_two_d W _ _) e1, cell_stays (bl_two_d W _ _) e2, cell_stays (bl_two_d W _ _) e3⟩) ?_
      clear hK K
      refine anyL_one (i := 14) (by kernel_rfl) rfl (by rfl) fun K hK => ?_
      go_simp
      refine hK _ _ (fun e => absurd e (by decide)) ?_
      clear hK K
      refine anyL_done (by kernel_rfl) ?_ _
      go_wp2_with fail
      go_meet
      obtain ⟨k0, k1, k2, k3⟩ := two_boxes_d W (.bool sx) (.slice ax nx px) (.bool sy) (.slice ay ny py)
      exact ⟨W.heap.size, W.heap.size + 1, rfl, rfl, Nat.le_refl _, Nat.le_succ _, k0, k1, k2, k3, bl_two_d W _ _⟩
    · go_simp
      refine hK _ _ (fun _ => ⟨cell_stays hd1 b0, cell_stays hd1 b1, cell_stays hd1 e0, cell_stays hd1 e1, cell_stays hd1 e2, cell_stays hd1 e3⟩) ?_
      clear hK K
      refine anyL_one (i := 11) (by kernel_rfl) rfl (by rfl) fun K hK => ?_
      go_simp
      refine hK _ _ (fun _ => ⟨cell_stays hd2 b0, cell_stays hd2 b1, cell_stays hd2 e0, cell_stays hd2 e1, cell_stays hd2 e2, cell_stays hd2 e3⟩) ?_
      clear hK K
      refine anyL_one (i := 13) (by kernel_rfl) rfl (by rfl) fun K hK => ?_
      go_simp
      refine hK _ _ (fun _ => ⟨cell_stays (bl_two_d W _ _) b0, cell_stays (bl_two_d W _ _) b1, cell_stays (bl_two_d W _ _) e0, cell_stays (bl_two_d W _ _) e1, cell_stays (bl_two_d W _ _) e2, cell_stays (bl_two_d W _ _) e3⟩) ?_
      clear hK K
      refine anyL_one (i := 14) (by kernel_rfl) rfl (by rfl) fun K hK => ?_
      go_simp
      refine hK _ _ (fun e => absurd e (by decide)) ?_
      clear hK K
      refine anyL_done (by kernel_rfl) ?_ _
      go_wp2_with fail
      go_meet
      obtain ⟨k0, k1, k2, k3⟩ := two_boxes_d W (.bool sy) (.slice ay ny py) (.bool sx) (.slice ax nx px)
      exact ⟨W.heap.size + 1, W.heap.size, rfl, rfl, Nat.le_succ _, Nat.le_refl _, k2, k3, k0, k1, bl_two_d W _ _⟩
  case rest =>
  obtain ⟨p, q, rfl, rfl, hp, hq, k0, k1, k2, k3, hbx⟩ := hcut
  have hgx := gb_trans HG0.out (gb_below hbx (some lb))
  have HVX := Lib.hid (HV.out.below hbx)
  have HRX := Lib.hid (HR.out.below hbx)
  have HXX := Lib.hid (HXZ.out.below hbx)
  have HYX := Lib.hid (HYZ.out.below hbx)
  have HGX := Lib.hid hgx
  replace b0 := cell_stays hbx b0
  clear hbx hgx HV HR HXZ HYZ HG0 e0 e1 e2 e3 b1
  have HP := Lib.hid (show w.heap.size < p by have := HSW.out; omega)
  have HQ := Lib.hid (show w.heap.size < q by have := HSW.out; omega)
  clear hp hq HSW
  by_cases hy0 : V hd = 0
  · have hsg : sgZ (V hd) = 0 := by unfold sgZ; rw [if_pos hy0]
    have HSI := Lib.hid (zSign_any _ _ wc HYX.out)
    rw [hsg] at HSI
    have HY0 := Lib.hid hy0
    clear hsg hy0
    go_wp2_with fail
    (refine HSI.out.mono ?_)
    rintro e w4 ⟨rfl, hb4⟩
    have HV4 := Lib.hid (HVX.out.below hb4)
    have HG4 := Lib.hid (gb_trans HGX.out (gb_below hb4 (some lb)))
    clear hb4 HSI
    go_wp2_with fail
    (try simp only [Exit.inBlock, Exit.then])
    refine bodyPost_ret (results_none rfl _ _ _) rfl ?_
    exact ⟨rfl, by first | exact HV4.out | (rw [if_pos HY0.out]; exact HV4.out), HG4.out⟩
  · have hsg : (sgZ (V hd) == 0) = false := by
      rw [beq_eq_false_iff_ne]; unfold sgZ; rw [if_neg hy0]; split <;> decide
    have HSI := Lib.hid (zSign_any _ _ wc HYX.out)
    have HY0 := Lib.hid hy0
    obtain ⟨sg, hsg2⟩ : ∃ sg, sg = sgZ (V hd) := ⟨_, rfl⟩
    rw [← hsg2] at HSI hsg
    clear hy0 hsg2
    go_wp2_with fail
    (refine HSI.out.mono ?_)
    rintro e w4 ⟨rfl, hb4⟩
    have HV4 := Lib.hid (HVX.out.below hb4)
    have HR4 := Lib.hid (HRX.out.below hb4)
    have HX4 := Lib.hid (HXX.out.below hb4)
    have HY4 := Lib.hid (HYX.out.below hb4)
    have HG4 := Lib.hid (gb_trans HGX.out (gb_below hb4 (some lb)))
    replace k0 := cell_stays hb4 k0
    replace k1 := cell_stays hb4 k1
    replace k2 := cell_stays hb4 k2
    replace k3 := cell_stays hb4 k3
    replace b0 := cell_stays hb4 b0
    have hw4 := HV4.out.lt
    clear hb4 HSI HVX HRX HXX HYX HGX
    go_upto_region 4 with fail
    go_loopw [25] (fun iv wr => ∃ i : Nat, i ≤ L ∧ iv = .int .i64 i ∧ PaE wr base D lb L L (fun c => if c < i then offE R V hd c else V c) ∧ w4.grownBy wr (some lb)) (fun iv _ => L - (intOf iv).toNat)
    case atStart => exact ⟨0, Nat.zero_le _, rfl, HV4.out.congr (fun c _ => by rw [if_neg (by omega)]), gb_refl _ _⟩
    case round =>
      obtain ⟨i, hi, rfl, hpa, hgr⟩ := hrel
      have hne1 : some p ≠ some lb := fun e => by injection e with e; have := HP.out; omega
      have hne2 : some q ≠ some lb := fun e => by injection e with e; have := HQ.out; omega
      have hne3 : some w.heap.size ≠ some lb := fun e => by injection e with e; omega
      by_cases hiL : i < L
      · replace k0 := hgr.cell k0 hne1
        replace k1 := hgr.cell k1 hne1
        replace k2 := hgr.cell k2 hne2
        replace k3 := hgr.cell k3 hne2
        replace b0 := hgr.cell b0 hne3
        obtain ⟨s1, m1, c1, c2, c3, c4⟩ := hpa.cells i hiL
        rw [if_neg (Nat.lt_irrefl i)] at c3
        obtain ⟨a1, n1, p1, rfl⟩ := c3.agg
        obtain ⟨s2, m2, d1, d2, d3, d4⟩ := (HR4.out.grown hgr hne HDR.out).cells i hiL
        obtain ⟨a2, n2, p2, rfl⟩ := d3.agg
        have hi1 : (i : Int) < (L : Int) := by omega
        have HM1 := Lib.hid (zMul_any _ _ (R hd) (V i) wr.drew ((HX4.out.gb hgr HOX.out).below (bl_drew _)) (c3.1.below (bl_drew _)))
        have HYW := Lib.hid (HY4.out.gb hgr HOY.out)
        have HDW := Lib.hid d3.1
        have HPA := Lib.hid hpa
        have HGR := Lib.hid hgr
        clear hpa hgr c3 c4 d3 d4 hne1 hne2 hne3
        go_wp2_with fail
        refine region_early (fun u => u.cell? ⟨p, 0, none⟩ = some (.bool sx) ∧ u.cell? ⟨p, 1, none⟩ = some (.slice ax nx px) ∧ u.cell? ⟨q, 0, none⟩ = some (.bool sy) ∧ u.cell? ⟨q, 1, none⟩ = some (.slice ay ny py) ∧ u.cell? ⟨w.heap.size, 0, none⟩ = some (.slice (some ⟨rb, 0, none⟩) L L) ∧ u.cell? ⟨lb, i * 2, none⟩ = some (.bool s1) ∧ u.cell? ⟨lb, i * 2 + 1, none⟩ = some (.slice a1 n1 p1) ∧ u.cell? ⟨rb, i * 2, none⟩ = some (.bool s2) ∧ u.cell? ⟨rb, i * 2 + 1, none⟩ = some (.slice a2 n2 p2)) 16 [0, 1, 2, 3, 4, 5, 6, 8, 9, 10, 11, 12, 13] 5 hmix (by kernel_rfl) rfl (by kernel_rfl) (fun _ _ d _ _ h => by cases d <;> exact h) ⟨k0, k1, k2, k3, b0, c1, c2, d1, d2⟩ ?_
        iterate 13 (refine early_take rfl (by rfl) ?_; apply Exists.intro; refine ⟨fun u hu => ?_, ?_⟩; (obtain ⟨u1, u2, u3, u4, u5, u6, u7, u8, u9⟩ := hu; go_simp; rfl); simp only [Act.put, List.getElem_toArray, List.getElem_cons_zero, List.getElem_cons_succ, List.setIfInBounds_toArray, List.set_cons_zero, List.set_cons_succ])
        refine early_done ?_
        simp only [marked]
        refine anyL_one (i := 7) (by kernel_rfl) rfl (by rfl) fun K hK => ?_
        go_simp
        refine HM1.out.mono ?_
        rintro e w5 ⟨v5, rfl, hf5, hb5⟩
        have hb5' := below_via (bl_drew wr) hb5
        have hz5 := hf5.rd (H1.out i hiL) (by have := HT.out; omega)
        refine hK _ _ (fun _ => ⟨cell_stays hb5' k0, cell_stays hb5' k1, cell_stays hb5' k2, cell_stays hb5' k3, cell_stays hb5' b0, cell_stays hb5' c1, cell_stays hb5' c2, cell_stays hb5' d1, cell_stays hb5' d2⟩) ?_
        have HB5 := Lib.hid hb5'
        have HZ5 := Lib.hid hz5
        clear hK K hf5 hb5 hz5 hb5' HM1
        refine anyL_one (i := 14) (by kernel_rfl) rfl (by rfl) fun K hK => ?_
        go_simp
        refine (zMul_any _ _ (V hd) (R i) w5 (HYW.out.below HB5.out) (HDW.out.below HB5.out)).mono ?_
        rintro e w6 ⟨v6, rfl, hf6, hb6⟩
        have hb6' := below_via HB5.out hb6
        have hz6 := hf6.rd (H2.out i hiL) (by have := HT.out; omega)
        refine hK _ _ (fun _ => ⟨cell_stays hb6' k0, cell_stays hb6' k1, cell_stays hb6' k2, cell_stays hb6' k3, cell_stays hb6' b0, cell_stays hb6' c1, cell_stays hb6' c2, cell_stays hb6' d1, cell_stays hb6' d2⟩) ?_
        have HZ5b := Lib.hid (HZ5.out.below hb6)
        have HB6 := Lib.hid hb6'
        have HZ6 := Lib.hid hz6
        clear hK K hf6 hb6 hz6 hb6' HZ5 HYW HDW HB5
        refine anyL_one (i := 15) (by kernel_rfl) rfl (by rfl) fun K hK => ?_
        go_simp
        refine (zSub_any _ _ (R hd * V i) (V hd * R i) w6 HZ5b.out HZ6.out).mono ?_
        rintro e w7 ⟨v7, rfl, hf7, hb7⟩
        have hb7' := below_via HB6.out hb7
        have hp7 := HPA.out.below hb7'
        obtain ⟨g1, g2, g3, g4, g5, g6⟩ := hp7.ready hiL
        obtain ⟨s7, a7, n7, p7, rfl, hp8⟩ := hp7.putz hiL HD.out hf7 ((H1.out i hiL).sub (H2.out i hiL)) HT.out (fun k h1 h2 h3 => by have := HDL.out k h3; have := HB6.out.size; have := HGR.out.size; have := HG4.out.size; omega)
        refine hK _ _ (fun _ => ⟨cell_stays hb7' k0, cell_stays hb7' k1, cell_stays hb7' k2, cell_stays hb7' k3, cell_stays hb7' b0, cell_stays hb7' c1, cell_stays hb7' c2, cell_stays hb7' d1, cell_stays hb7' d2⟩) ?_
        have HP8 := Lib.hid (hp8.congr (F := fun c => if c < i + 1 then offE R V hd c else V c) (fun c hc => by
          by_cases e : c = i
          · rw [if_pos e, if_pos (by omega), e]; rfl
          · rw [if_neg e]
            by_cases e2 : c < i
            · rw [if_pos e2, if_pos (by omega)]
            · rw [if_neg e2, if_neg (by omega)]))
        have HG8 := Lib.hid (gb_trans (gb_trans HGR.out (gb_below hb7' _)) (gb_two w7 lb (i * 2) (i * 2 + 1) (.bool s7) (.slice a7 n7 p7)))
        clear hK K hf7 hb7 hp7 hp8 hb7' HZ5b HZ6 HB6
        refine anyL_one (i := 16) (by kernel_rfl) rfl (by rfl) fun K hK => ?_
        go_simp
        refine hK _ _ (fun e => absurd e (by decide)) ?_
        clear hK K
        refine anyL_one (i := 17) (by kernel_rfl) rfl (by rfl) fun K hK => ?_
        go_simp
        refine hK _ _ (fun e => absurd e (by decide)) ?_
        clear hK K
        refine anyL_done (by kernel_rfl) ?_ _
        have wk : IntKind.i64.wrap ((i : Int) + 1) = (i : Int) + 1 := IntWalk.i64_in _ (by omega)
        clear HPA HGR k0 k1 k2 k3 b0 c1 c2 d1 d2 g3 g4 g5 g6
        go_wp2_with fail
        go_roundw
        case rel => exact ⟨i + 1, by omega, by go_num, HP8.out, HG8.out⟩
        case measure => simp [intOf]; omega
      · obtain rfl : i = L := by omega
        have hu := hpa.congr (F := offE R V hd) (fun c hc => by rw [if_pos hc])
        have hg0 := HGG.out HY0.out
        obtain ⟨U, hU⟩ : ∃ U, U = offE R V hd := ⟨_, rfl⟩
        have hUz : ∀ c, c < i → ZB (T + T + 1) (U c) := fun c hc => by rw [hU]; exact (H1.out c hc).sub (H2.out c hc)
        rw [← hU] at hu hg0
        have HU := Lib.hid hU
        have HUZ := Lib.hid hUz
        have HGC := Lib.hid (GcdAll_any _ i U wr (hu.rd (Nat.le_refl _) hL))
        have hgz := gcdS_zb hUz
        have hgd := fun c (hc : c < i) => gcdS_dvd (v := U) hc
        obtain ⟨g, hg⟩ : ∃ g : Int, g = (gcdS i U : Int) := ⟨_, rfl⟩
        have hgn : g ≠ 0 := by omega
        rw [← hg] at HGC hgz
        simp only [← hg] at hgd
        have HGE := Lib.hid hg
        have HGZ := Lib.hid hgz
        have HGD := Lib.hid hgd
        have HUP := Lib.hid hu
        have HGR := Lib.hid hgr
        have hne1 : w.heap.size ≤ w4.heap.size := by have := HG4.out.size; omega
        have HLE := Lib.hid hne1
        clear hpa hgr hu hg0 hU hUz hgz hgd hg hne1 k0 k1 k2 k3 b0 HX4 HY4 HR4 HV4 HP HQ HOX HOY HDR
        go_wp2_with fail
        (refine HGC.out.mono ?_)
        rintro e w5 ⟨v, rfl, hf5, hb5⟩
        have hz5 := hf5.rd HGZ.out HT.out
        obtain ⟨ag, ng, pg, rfl, -⟩ := hf5.agg
        have hb6 := bl_alloc w5 (.cells #[.bool (decide (g < 0)), .slice ag ng pg] 49)
        obtain ⟨y0, y1, -, -⟩ := two_cells w5 (.bool (decide (g < 0))) (.slice ag ng pg) 49
        have hb56 := below_via hb5 hb6
        have HZ6 := Lib.hid (hz5.below hb6)
        have HUP6 := Lib.hid (HUP.out.below hb56)
        have HG6 := Lib.hid (gb_trans HG4.out (gb_trans HGR.out (gb_below hb56 (some lb))))
        have hown : (Value.slice ag ng pg).ownBlock ≠ some lb := fun e => by
          obtain ⟨a', n', c', he, ho⟩ := hf5.agg
          injection he with he
          injection he with he
          injection he with _ he
          injection he with he _
          have := ho lb (by rw [← he]; exact e)
          have := HUP.out.lt
          omega
        obtain ⟨q, hq⟩ : ∃ q, q = w5.heap.size := ⟨_, rfl⟩
        have hql : lb < q := by rw [hq]; exact Nat.lt_of_lt_of_le HUP.out.lt hb5.size
        have HQL := Lib.hid hql
        have HOG := Lib.hid hown
        rw [← hq] at y0 y1
        clear hf5 hb5 hz5 hb6 hb56 hown hql HUP HGR HG4
        go_upto_region 9 with fail
        rw [← hq]
        clear hq
        generalize w5.alloc (.cells #[.bool (decide (g < 0)), .slice ag ng pg] 49) = w6 at *
        have hsg : (sgZ g == 0) = false := by
          rw [beq_eq_false_iff_ne]; unfold sgZ; rw [if_neg hgn]; split <;> decide
        have HSI := Lib.hid (zSign_any _ _ w6 HZ6.out)
        obtain ⟨sg, hsg2⟩ : ∃ sg, sg = sgZ g := ⟨_, rfl⟩
        rw [← hsg2] at HSI hsg
        have HGN := Lib.hid hgn
        clear hsg2 hgn
        go_wp2_with fail
        (refine HSI.out.mono ?_)
        rintro e w7 ⟨rfl, hb7⟩
        have HUP7 := Lib.hid (HUP6.out.below hb7)
        have HZ7 := Lib.hid (HZ6.out.below hb7)
        have HG7 := Lib.hid (gb_trans HG6.out (gb_below hb7 (some lb)))
        replace y0 := cell_stays hb7 y0
        replace y1 := cell_stays hb7 y1
        clear hb7 HSI HUP6 HZ6 HG6
        go_upto_region 11 with fail
        go_loopw [53] (fun jv wr => ∃ j : Nat, j ≤ i ∧ jv = .int .i64 j ∧ PaE wr base D lb i i (fun c => if c < j then U c / g else U c) ∧ w7.grownBy wr (some lb)) (fun jv _ => i - (intOf jv).toNat)
        case atStart => exact ⟨0, Nat.zero_le _, rfl, HUP7.out.congr (fun c _ => by rw [if_neg (by omega)]), gb_refl _ _⟩
        case round =>
          obtain ⟨j, hj, rfl, hpa, hgr⟩ := hrel
          have hne1 : some q ≠ some lb := fun e => by injection e with e; have := HQL.out; omega
          by_cases hji : j < i
          · replace y0 := hgr.cell y0 hne1
            replace y1 := hgr.cell y1 hne1
            obtain ⟨s1, m1, c1, c2, c3, c4⟩ := hpa.cells j hji
            rw [if_neg (Nat.lt_irrefl j)] at c3
            obtain ⟨a1, n1, p1, rfl⟩ := c3.agg
            have hi1 : (j : Int) < (i : Int) := by omega
            have HEX := Lib.hid (zExact_any _ _ (U j) g wr.drew HGN.out (HGD.out j hji) (c3.1.below (bl_drew _)) ((HZ7.out.gb hgr HOG.out).below (bl_drew _)))
            have HQZ := Lib.hid (show ZB (T + T + 1) (U j / g) from zb_le (HUZ.out j hji) (Int.natAbs_ediv_le_natAbs _ _))
            have HPA := Lib.hid hpa
            have HGR := Lib.hid hgr
            clear hpa hgr c3 c4 hne1
            go_wp2_with fail
            refine region_early (fun u => u.cell? ⟨q, 0, none⟩ = some (.bool (decide (g < 0))) ∧ u.cell? ⟨q, 1, none⟩ = some (.slice ag ng pg) ∧ u.cell? ⟨lb, j * 2, none⟩ = some (.bool s1) ∧ u.cell? ⟨lb, j * 2 + 1, none⟩ = some (.slice a1 n1 p1)) 11 [0, 1, 2, 3, 4, 5, 6] 6 hmix (by kernel_rfl) rfl (by kernel_rfl) (fun _ _ d _ _ h => by cases d <;> exact h) ⟨y0, y1, c1, c2⟩ ?_
            iterate 7 (refine early_take rfl (by rfl) ?_; apply Exists.intro; refine ⟨fun u hu => ?_, ?_⟩; (obtain ⟨u1, u2, u3, u4⟩ := hu; go_simp; rfl); simp only [Act.put, List.getElem_toArray, List.getElem_cons_zero, List.getElem_cons_succ, List.setIfInBounds_toArray, List.set_cons_zero, List.set_cons_succ])
            refine early_done ?_
            simp only [marked]
            refine anyL_one (i := 7) (by kernel_rfl) rfl (by rfl) fun K hK => ?_
            go_simp
            refine HEX.out.mono ?_
            rintro e w8 ⟨v8, rfl, hf8, hb8⟩
            have hb8' := below_via (bl_drew wr) hb8
            have hp8 := HPA.out.below hb8'
            obtain ⟨g1, g2, g3, g4, g5, g6⟩ := hp8.ready hji
            obtain ⟨s9, a9, n9, p9, rfl, hp9⟩ := hp8.putz hji HD.out hf8 HQZ.out HT.out (fun k h1 h2 h3 => by have := HDL.out k h3; have := HGR.out.size; have := HG7.out.size; have h1 : wr.heap.size ≤ k := h1; omega)
            have hS8 : (w8.cell? ⟨q, 0, none⟩ = some (.bool (decide (g < 0))) ∧ w8.cell? ⟨q, 1, none⟩ = some (.slice ag ng pg) ∧ w8.cell? ⟨lb, j * 2, none⟩ = some (.bool s1) ∧ w8.cell? ⟨lb, j * 2 + 1, none⟩ = some (.slice a1 n1 p1)) := ⟨cell_stays hb8' y0, cell_stays hb8' y1, cell_stays hb8' c1, cell_stays hb8' c2⟩
            refine hK _ _ (fun _ => hS8) ?_
            have HP9 := Lib.hid (hp9.congr (F := fun c => if c < j + 1 then U c / g else U c) (fun c hc => by
              by_cases e : c = j
              · rw [if_pos e, if_pos (by omega), e]
              · rw [if_neg e]
                by_cases e2 : c < j
                · rw [if_pos e2, if_pos (by omega)]
                · rw [if_neg e2, if_neg (by omega)]))
            have HG9 := Lib.hid (gb_trans (gb_trans HGR.out (gb_below hb8' _)) (gb_two w8 lb (j * 2) (j * 2 + 1) (.bool s9) (.slice a9 n9 p9)))
            have HS8 := Lib.hid hS8
            clear hK K hf8 hb8 hp8 hp9 hb8' HEX hS8 c1 c2 HPA HGR
            refine anyL_yield (i := 8) rfl (by kernel_rfl) (by kernel_rfl) (by kernel_rfl) (by kernel_rfl) (fun _ _ d _ _ h => by cases d <;> exact h) (by rfl) HS8.out ?_
            apply Exists.intro
            refine ⟨fun u => ?_, ?_⟩
            · go_simp
              rfl
            simp only [Act.put, List.getElem_toArray, List.getElem_cons_zero, List.getElem_cons_succ, List.setIfInBounds_toArray, List.set_cons_zero, List.set_cons_succ]
            refine anyL_yield (i := 9) rfl (by kernel_rfl) (by kernel_rfl) (by kernel_rfl) (by kernel_rfl) (fun _ _ d _ _ h => by cases d <;> exact h) (by rfl) HS8.out ?_
            apply Exists.intro
            refine ⟨fun u => ?_, ?_⟩
            · go_simp
              rfl
            simp only [Act.put, List.getElem_toArray, List.getElem_cons_zero, List.getElem_cons_succ, List.setIfInBounds_toArray, List.set_cons_zero, List.set_cons_succ]
            refine anyL_yield (i := 10) rfl (by kernel_rfl) (by kernel_rfl) (by kernel_rfl) (by kernel_rfl) (fun _ _ d _ _ h => by cases d <;> exact h) (by rfl) HS8.out ?_
            apply Exists.intro
            refine ⟨fun u => ?_, ?_⟩
            · go_simp
              rfl
            simp only [Act.put, List.getElem_toArray, List.getElem_cons_zero, List.getElem_cons_succ, List.setIfInBounds_toArray, List.set_cons_zero, List.set_cons_succ]
            refine anyL_one (i := 11) (by kernel_rfl) rfl (by rfl) fun K hK => ?_
            go_simp
            refine hK _ _ (fun e => absurd e (by decide)) ?_
            clear hK K
            refine anyL_one (i := 12) (by kernel_rfl) rfl (by rfl) fun K hK => ?_
            go_simp
            refine hK _ _ (fun e => absurd e (by decide)) ?_
            clear hK K
            refine anyL_done (by kernel_rfl) ?_ _
            have wk : IntKind.i64.wrap ((j : Int) + 1) = (j : Int) + 1 := IntWalk.i64_in _ (by omega)
            clear g3 g4 g5 g6 y0 y1
            go_wp2_with fail
            go_roundw
            case rel => exact ⟨j + 1, by omega, by go_num, HP9.out, HG9.out⟩
            case measure => simp [intOf]; omega
          · obtain rfl : j = i := by omega
            have HPL := Lib.hid (hpa.congr (F := fun c => U c / g) (fun c hc => by rw [if_pos hc]))
            have HGL := Lib.hid (gb_trans HG7.out hgr)
            clear hpa hgr hne1 y0 y1
            go_wp2_with fail
            go_end0
            refine ⟨rfl, ?_, HGL.out⟩
            have hy := HY0.out
            try rw [if_neg hy]
            rw [← HU.out]
            refine HPL.out.congr fun c _ => by rw [HGE.out]
end Go.Proofs.Ytejliecmdkmgiaa
namespace Go.Proofs.Ytejliecmdkmgiaa
open Go.RowKit Go.Shelf
theorem run_copy_wide {P : Program} (w : World) (dT sT ty elem : TypeId) (b o dLen dCap : Nat) (a : Addr) (sLen sCap k sz : Nat) (cs : List Value)
    (hu : P.underlying dT = some (.slice elem)) (hs : (P.info? elem).map (·.size) = some sz) (hk : Nat.min sLen dLen = k) (hn : cs.length = k * sz)
    (hsrc : ∀ j v, cs[j]? = some v → w.cell? (a.add j) = some v) (hc : ∀ j, j < cs.length → (w.cell? ⟨b, o + j, none⟩).isSome = true) (hf : ∀ j, j < cs.length → w.frozen? ⟨b, o + j, none⟩ = false) (h1 : ∀ v ∈ cs, v.oneCell' = true) :
    (Builtin.copy_ #[dT, sT] ty #[.slice (some ⟨b, o, none⟩) dLen dCap, .slice (some a) sLen sCap]).run P w = .ok (goInt k) (w.setCells b o cs) := by
  have hl := run_loadCells_list (P := P) w a cs hsrc
  have hst := run_storeCells_cells (P := P) b o cs 0 w (by simpa using hc) (by simpa using hf) h1
  rw [hn] at hl
  cases hq : P.info? elem with
  | none => simp [hq] at hs
  | some i =>
    have hi : i.size = sz := by simpa [hq] using hs
    simp [Builtin.copy_, run_underlying hu, Builtin.lenOf, Builtin.firstCells, sizeOf, typeInfo, hq, hi, hk, hl, hst]
theorem addr_at (b j : Nat) : (⟨b, 0, none⟩ : Addr).add j = ⟨b, j, none⟩ := by unfold Addr.add; split <;> simp_all
theorem gb_setCells (b : Nat) : ∀ (vs : List Value) (o : Nat) (w : World), w.grownBy (w.setCells b o vs) (some b)
  | [], _, w => gb_refl w _
  | v :: r, o, w => gb_trans (gb_set w ⟨b, o, none⟩ v) (gb_setCells b r (o + 1) _)
theorem blk_setCells {lb n : Nat} {e : TypeId} : ∀ (vs : List Value) (o : Nat) (w : World), Blk w lb n e → Blk (w.setCells lb o vs) lb n e
  | [], _, _, h => h
  | v :: r, o, w, h => blk_setCells r (o + 1) _ (h.set _ _)
theorem copy_pae {w : World} {base base' lb l2 L N c2 : Nat} {D : Nat → Prop} {Z G : Nat → Int} (hv : PaE w base D lb L L Z) (hm : PaE w base' D l2 N N G) (hN : N ≤ L) (hD : D lb) (hne : l2 ≠ lb) {d2 : Nat} {ty : TypeId} :
    ∃ w', (Builtin.copy_ #[22, 22] ty #[.slice (some ⟨lb, 0, none⟩) L d2, .slice (some ⟨l2, 0, none⟩) N c2]).run Try.prog w = .ok (goInt N) w' ∧
      PaE w' base D lb L L (fun c => if c < N then G c else Z c) ∧ w.grownBy w' (some lb) := by
  obtain ⟨cs, hcs⟩ : ∃ cs, cs = (List.range (N * 2)).map (fun j => (w.cell? ⟨l2, j, none⟩).getD undef) := ⟨_, rfl⟩
  have hlen : cs.length = N * 2 := by rw [hcs]; simp
  have hget : ∀ j, j < N * 2 → cs[j]? = some ((w.cell? ⟨l2, j, none⟩).getD undef) := fun j hj => by rw [hcs]; simp [hj]
  have hcell : ∀ j, j < N * 2 → ∃ v, w.cell? ⟨l2, j, none⟩ = some v ∧ v.oneCell' = true := fun j hj => by
    obtain ⟨s, m, c1, c2', c3, -⟩ := hm.cells (j / 2) (by omega)
    rcases Nat.mod_two_eq_zero_or_one j with e | e
    · rw [show j / 2 * 2 = j by omega] at c1
      exact ⟨_, c1, rfl⟩
    · rw [show j / 2 * 2 + 1 = j by omega] at c2'
      obtain ⟨a, n, c, rfl⟩ := c3.agg
      exact ⟨_, c2', rfl⟩
  have hat : ∀ j v, cs[j]? = some v → w.cell? ⟨l2, j, none⟩ = some v := fun j v h => by
    have hj : j < N * 2 := by rw [← hlen]; exact (List.getElem?_eq_some_iff.1 h).1
    obtain ⟨u, hu, -⟩ := hcell j hj
    rw [hget j hj, hu] at h
    rw [hu]; simpa using h
  obtain ⟨i0, hi0, hz0, hz1, hz2⟩ := info_parts infoI
  have hrun := run_copy_wide (P := Try.prog) w 22 22 ty 49 lb 0 L d2 ⟨l2, 0, none⟩ N c2 N 2 cs Try.underlying22 (by rw [hi0]; show some i0.size = some 2; rw [hz1]) (Nat.min_eq_left hN) hlen
    (fun j v h => by
      have h2 := hat j v h
      rw [addr_at]; exact h2)
    (fun j hj => by simpa using (hv.blk.cell (i := j) (by omega)).1) (fun j hj => by simpa using (hv.blk.cell (i := j) (by omega)).2) (fun v hv => by
      obtain ⟨j, hj, e⟩ := List.getElem_of_mem hv
      have h := hat j v (by rw [← e]; exact List.getElem?_eq_getElem hj)
      obtain ⟨u, hu, h1⟩ := hcell j (by omega)
      have h2 : u = v := Option.some.inj (hu.symm.trans h)
      rw [← h2]; exact h1)
  refine ⟨_, hrun, ?_, gb_setCells _ _ _ _⟩
  have hg := gb_setCells lb cs 0 w
  have hin : ∀ j v, cs[j]? = some v → (w.setCells lb 0 cs).cell? ⟨lb, j, none⟩ = some v := fun j v h => by
    obtain ⟨hj, e⟩ := List.getElem?_eq_some_iff.1 h
    have h2 := World.cell?_setCells_in lb cs 0 w (fun i hi => by simpa using (hv.blk.cell (i := i) (by omega)).1) j hj
    rw [e, Nat.zero_add] at h2
    exact h2
  refine ⟨hv.own, blk_setCells _ _ _ hv.blk, fun i hi => ?_⟩
  by_cases e : i < N
  · obtain ⟨s, m, c1, c2', c3, c4⟩ := hm.cells i e
    have h1 := hin (i * 2) _ (hget _ (by omega))
    have h2 := hin (i * 2 + 1) _ (hget _ (by omega))
    rw [c1] at h1
    rw [c2'] at h2
    refine ⟨s, m, by simpa using h1, by simpa using h2, by simp only [if_pos e]; exact c3.gb hg (fun e' => (c4 lb e').2 hD), fun b hb => ⟨Nat.lt_of_lt_of_le (c4 b hb).1 hg.size, (c4 b hb).2⟩⟩
  · obtain ⟨s, m, c1, c2', c3, c4⟩ := hv.cells i hi
    refine ⟨s, m, ?_, ?_, by simp only [if_neg e]; exact c3.gb hg (fun e' => (c4 lb e').2 hD), fun b hb => ⟨Nat.lt_of_lt_of_le (c4 b hb).1 hg.size, (c4 b hb).2⟩⟩
    · rw [World.cell?_setCells_out lb cs 0 w _ (fun j hj => Or.inr (by simp; omega))]; exact c1
    · rw [World.cell?_setCells_out lb cs 0 w _ (fun j hj => Or.inr (by simp; omega))]; exact c2'
end Go.Proofs.Ytejliecmdkmgiaa
namespace Go.Proofs.Ytejliecmdkmgiaa
open Go.RowKit Go.Shelf
theorem unit_cases {y : Int} (h : y ∣ 1) : y = 1 ∨ y = -1 := by
  have h2 : y.natAbs ∣ 1 := by
    have := Int.natAbs_dvd_natAbs.2 h
    simpa using this
  have h3 : y.natAbs = 1 := by simpa using h2
  omega
theorem unit_div {y : Int} (h : y ∣ 1) (x : Int) : x / y = x * y := by
  rcases unit_cases h with rfl | rfl
  · simp
  · rw [Int.ediv_neg, Int.ediv_one]; omega
theorem unit_abs {y : Int} (h : y ∣ 1) (x : Int) : (x * y).natAbs ≤ x.natAbs := by
  rcases unit_cases h with rfl | rfl
  · simp
  · simp
theorem infoRel : (Try.prog.info? 108).map (fun i => (i.zero, i.size, i.bytes)) = some (some (.agg #[.slice none 0 0, .int .i64 0]), 2, 32) := by kernel_rfl
theorem tagRel : 49 ≠ 108 := by decide
theorem MBox.grow {w w' : World} {mb : Nat} {r c : Int} {v : Value} (h : MBox w mb r c v) {o : Option Nat} (hg : w.grownBy w' o) (hd : ∀ d, o = some d → mb ≠ d) : MBox w' mb r c v := by
  cases o with
  | none => exact h.below ⟨hg.os, hg.tape, hg.output, hg.size, fun k hk => hg.block k hk (by simp)⟩
  | some d => exact h.grown hg (hd d rfl)
theorem PaE.rel {w : World} {base lb n k B N : Nat} {D : Nat → Prop} {E : Nat → Int} {sv : Value} {xs : List Value} (h : PaE w base D lb n k E) (ho : w.ownsRow B 108 2 sv N xs) : sv.ownBlock ≠ some lb := by
  obtain ⟨cur, hc, -⟩ := h.blk
  exact own_tag ho hc tagRel
structure LsR (w wr : World) (n L mb lM : Nat) (sl sv : Value) (D : Nat → Prop) (k : Nat) (B : Nat → Nat) (R : Nat → Nat → Int) (hd : Nat → Nat) (G : Nat → Int) : Prop where
  below : Below w.heap.size w wr
  mbw : w.heap.size < mb ∧ mb < wr.heap.size
  a : MBox wr w.heap.size n n sl
  m : MBox wr mb n n (.slice (some ⟨lM, 0, none⟩) (n * n) (n * n))
  own : wr.ownsRow (mb + 1) 108 2 sv k (flatI (fun i => .slice (some ⟨B i, 0, none⟩) L L) (fun i => .int .i64 (hd i)) k)
  row : ∀ i, i < k → PaE wr (w.heap.size + 1) D (B i) L L (R i) ∧ D (B i) ∧ mb ≠ B i
  g : PaE wr (w.heap.size + 1) D lM (n * n) (n * n) G
  dm : D mb ∧ D lM ∧ mb ≠ lM
  dsv : ∀ b, sv.ownBlock = some b → D b
  dl : ∀ b, D b → b < wr.heap.size
structure LsW (w wr : World) (n L mb lM : Nat) (sl sv : Value) (D : Nat → Prop) (k : Nat) (B : Nat → Nat) (R : Nat → Nat → Int) (hd : Nat → Nat) (G : Nat → Int) (lv : Nat) (V : Nat → Int) : Prop where
  r : LsR w wr n L mb lM sl sv D k B R hd G
  v : PaE wr (w.heap.size + 1) D lv L L V
  dv : D lv ∧ mb ≠ lv ∧ lM ≠ lv ∧ ∀ i, i < k → B i ≠ lv
section
variable {w wr w' W1 : World} {n L mb lM k lv : Nat} {sl sv : Value} {D : Nat → Prop} {B hd : Nat → Nat} {R : Nat → Nat → Int} {G V : Nat → Int}
theorem LsR.on (h : LsR w wr n L mb lM sl sv D k B R hd G) (hb : Below wr.heap.size wr w') : LsR w w' n L mb lM sl sv D k B R hd G :=
  ⟨below_via h.below hb, ⟨h.mbw.1, Nat.lt_of_lt_of_le h.mbw.2 hb.size⟩, h.a.below hb, h.m.below hb, own_below h.own hb, fun i hi => ⟨(h.row i hi).1.below hb, (h.row i hi).2⟩, h.g.below hb, h.dm, h.dsv, fun b hd => Nat.lt_of_lt_of_le (h.dl b hd) hb.size⟩
theorem LsW.on (h : LsW w wr n L mb lM sl sv D k B R hd G lv V) (hb : Below wr.heap.size wr w') : LsW w w' n L mb lM sl sv D k B R hd G lv V := ⟨h.r.on hb, h.v.below hb, h.dv⟩
theorem LsW.congr (h : LsW w wr n L mb lM sl sv D k B R hd G lv V) {V' : Nat → Int} (e : ∀ c, c < L → V c = V' c) : LsW w wr n L mb lM sl sv D k B R hd G lv V' := ⟨h.r, h.v.congr e, h.dv⟩
theorem LsR.congr (h : LsR w wr n L mb lM sl sv D k B R hd G) {G' : Nat → Int} (e : ∀ c, c < n * n → G c = G' c) : LsR w wr n L mb lM sl sv D k B R hd G' := { h with g := h.g.congr e }
theorem LsW.turn (h : LsW w wr n L mb lM sl sv D k B R hd G lv V) (hg : wr.grownBy w' (some lv)) {V' : Nat → Int} (hv : PaE w' (w.heap.size + 1) D lv L L V') : LsW w w' n L mb lM sl sv D k B R hd G lv V' := by
  have ho := h.v.own
  obtain ⟨d1, d2, d3, d4⟩ := h.dv
  refine ⟨⟨h.r.below.grown hg h.r.below.size (fun k hk => by injection hk with hk; omega), ⟨h.r.mbw.1, Nat.lt_of_lt_of_le h.r.mbw.2 hg.size⟩, h.r.a.grown hg (by omega), h.r.m.grown hg d2, h.r.own.kept hg (Or.inr (h.v.rel h.r.own)), fun i hi => ⟨(h.r.row i hi).1.grown hg (d4 i hi) d1, (h.r.row i hi).2⟩, h.r.g.grown hg d3 d1, h.r.dm, h.r.dsv, fun b hb => Nat.lt_of_lt_of_le (h.r.dl b hb) hg.size⟩, hv, h.dv⟩
theorem LsR.newV (h : LsR w wr n L mb lM sl sv D k B R hd G) :
    LsW w (wr.alloc (.cells (madeCells #[.bool false, .slice none 0 0] (L * 2)) 49)) n L mb lM sl sv (fun b => D b ∨ b = wr.heap.size) k B R hd G wr.heap.size (fun _ => 0) := by
  have hb := bl_alloc wr (.cells (madeCells #[.bool false, .slice none 0 0] (L * 2)) 49)
  have hs : (wr.alloc (.cells (madeCells #[.bool false, .slice none 0 0] (L * 2)) 49)).heap.size = wr.heap.size + 1 := by simp
  have hz := PaE.zeros wr (w.heap.size + 1) L (fun b => D b ∨ b = wr.heap.size) (by have := h.mbw; omega)
  have ht : ∀ b, b < wr.heap.size → ¬ D b → ¬ (D b ∨ b = wr.heap.size) := fun b hb hn hd => hd.elim hn (fun e => by omega)
  have h1 := h.on hb
  refine ⟨⟨h1.below, h1.mbw, h1.a, h1.m, h1.own, fun i hi => ⟨((h.row i hi).1.turnD ht).below hb, Or.inl (h.row i hi).2.1, (h.row i hi).2.2⟩, (h.g.turnD ht).below hb, ⟨Or.inl h.dm.1, Or.inl h.dm.2.1, h.dm.2.2⟩, fun b hb => Or.inl (h.dsv b hb), fun b hb => hb.elim (h1.dl b) (fun e => by omega)⟩, hz, Or.inr rfl, ?_, ?_, fun i hi => ?_⟩
  · have := h.mbw; omega
  · have := h.g.lt; omega
  · have := (h.row i hi).1.lt; omega
theorem LsW.push (h : LsW w wr n L mb lM sl sv D k B R hd G lv V) {q g cap : Nat} 
    (ho : w'.ownsRow (mb + 1) 108 2 (.slice (some ⟨g, 0, none⟩) (k + 1) cap) (k + 1) (flatI (fun i => .slice (some ⟨B i, 0, none⟩) L L) (fun i => .int .i64 (hd i)) k ++ [.slice (some ⟨lv, 0, none⟩) L L, .int .i64 q]))
    (hg : wr.grownBy w' sv.ownBlock) (hat : sv.ownBlock = some g ∨ wr.heap.size ≤ g) (hlt : g < w'.heap.size) :
    LsR w w' n L mb lM sl (.slice (some ⟨g, 0, none⟩) (k + 1) cap) (fun b => D b ∨ b = g) (k + 1) (fun i => if i = k then lv else B i) (fun i => if i = k then V else R i) (fun i => if i = k then q else hd i) G := by
  have hol := h.r.own.lt
  have ht : ∀ b, b < wr.heap.size → ¬ D b → ¬ (D b ∨ b = g) := fun b hb hn hd => hd.elim hn (fun e => by
    rcases hat with e2 | e2
    · exact hn (h.r.dsv b (e ▸ e2))
    · omega)
  have hgr : ∀ {lb N : Nat} {E : Nat → Int}, PaE wr (w.heap.size + 1) D lb N N E → PaE w' (w.heap.size + 1) (fun b => D b ∨ b = g) lb N N E := fun hp => (hp.turnD ht).grow hg (fun d hd => ⟨fun e => hp.rel h.r.own (by rw [hd, e]), Or.inl (h.r.dsv d hd)⟩)
  refine ⟨h.r.below.grown hg h.r.below.size (fun k hk => by have := hol k hk; have := h.r.mbw; omega), ⟨h.r.mbw.1, Nat.lt_of_lt_of_le h.r.mbw.2 hg.size⟩, h.r.a.grow hg (fun d hd => by have := hol d hd; have := h.r.mbw; omega), h.r.m.grow hg (fun d hd => by have := hol d hd; omega), ?_, fun i hi => ?_, hgr h.r.g, ⟨Or.inl h.r.dm.1, Or.inl h.r.dm.2.1, h.r.dm.2.2⟩, fun b hb => Or.inr (by simpa [Value.ownBlock] using hb.symm), fun b hb => hb.elim (fun e => Nat.lt_of_lt_of_le (h.r.dl b e) hg.size) (fun e => e ▸ hlt)⟩
  · show w'.ownsRow _ _ 2 _ (k + 1) (flatI _ _ k ++ [_, _])
    rw [flatI_congr (b' := fun i => .slice (some ⟨B i, 0, none⟩) L L) (m' := fun i => .int .i64 (hd i)) (fun i hi => ⟨by simp only [if_neg (Nat.ne_of_lt hi)], by simp only [if_neg (Nat.ne_of_lt hi)]⟩)]
    simp only [if_true]
    exact ho
  · by_cases e : i = k
    · simp only [if_pos e]
      exact ⟨hgr h.v, Or.inl h.dv.1, h.dv.2.1⟩
    · simp only [if_neg e]
      obtain ⟨r1, r2, r3⟩ := h.r.row i (by omega)
      exact ⟨hgr r1, Or.inl r2, r3⟩
theorem LsR.mul (h : LsR w wr n L mb lM sl sv D k B R hd G) {l2 : Nat} {G' : Nat → Int} (hb : Below wr.heap.size wr W1) (hf : FrE W1 wr.heap.size (fun b => b ≤ l2) l2 (n * n) G') :
    LsR w (stored3 W1 mb (.int .i64 n) (.int .i64 n) (.slice (some ⟨l2, 0, none⟩) (n * n) (n * n))) n L mb l2 sl sv (fun b => D b ∨ b = l2) k B R hd G' := by
  have hg := stored3_gb W1 mb (.int .i64 n) (.int .i64 n) (.slice (some ⟨l2, 0, none⟩) (n * n) (n * n))
  have hl := hf.own
  have hl2 := hf.lt
  have hbw := below_via h.below hb
  have hmw := h.mbw
  have ht : ∀ b, b < wr.heap.size → ¬ D b → ¬ (D b ∨ b = l2) := fun b hb hn hd => hd.elim hn (fun e => by omega)
  refine ⟨hbw.grown hg hbw.size (fun k hk => by injection hk with hk; omega), ⟨hmw.1, Nat.lt_of_lt_of_le hmw.2 (Nat.le_trans hb.size hg.size)⟩, (h.a.below hb).grown hg (by omega), (h.m.below hb).store, (own_below h.own hb).kept hg (Or.inr fun e => by have := h.own.lt _ e; omega), fun i hi => ⟨(((h.row i hi).1.turnD ht).below hb).grown hg (fun e => (h.row i hi).2.2 e.symm) (Or.inl h.dm.1), Or.inl (h.row i hi).2.1, (h.row i hi).2.2⟩, ?_, ⟨Or.inl h.dm.1, Or.inr rfl, by omega⟩, fun b hb => Or.inl (h.dsv b hb), fun b hd => Nat.lt_of_lt_of_le (hd.elim (fun e => Nat.lt_of_lt_of_le (h.dl b e) hb.size) (fun e => e ▸ hl2)) hg.size⟩
  refine PaE.grown ?_ hg (by omega) (Or.inl h.dm.1)
  exact (hf.mono (show w.heap.size + 1 ≤ wr.heap.size by omega)).turnD (D' := fun b => D b ∨ b = l2) (fun b _ hn hd => hn (hd.elim (fun e => by have := h.dl b e; omega) (fun e => by omega)))
theorem LsR.start {w6 w7 : World} {lb : Nat} (h6 : Below w.heap.size w w6) (hs6 : w.heap.size < w6.heap.size) (a6 : MBox w6 w.heap.size n n sl) (h7 : Below w6.heap.size w6 w7) (f7 : FrE w7 w6.heap.size (fun b => b ≤ lb) lb (n * n) G) :
    LsR w (w7.alloc (.cells #[.int .i64 n, .int .i64 n, .slice (some ⟨lb, 0, none⟩) (n * n) (n * n)] 24)) n L w7.heap.size lb sl (.slice none 0 0) (fun b => b = w7.heap.size ∨ b = lb) 0 B R hd G := by
  have hb8 := bl_alloc w7 (.cells #[.int .i64 n, .int .i64 n, .slice (some ⟨lb, 0, none⟩) (n * n) (n * n)] 24)
  have hs8 : (w7.alloc (.cells #[.int .i64 n, .int .i64 n, .slice (some ⟨lb, 0, none⟩) (n * n) (n * n)] 24)).heap.size = w7.heap.size + 1 := by simp
  have hl2 := f7.own
  have hl3 := f7.lt
  have hs7 := h7.size
  have h68 := below_via h7 hb8
  refine ⟨below_via h6 h68, ⟨by omega, by omega⟩, a6.below h68, MBox.new w7 n n _, World.ownsRow_nil _ _ _ _, fun i hi => absurd hi (by omega), PaE.below ?_ hb8, ⟨Or.inl rfl, Or.inr rfl, by omega⟩, fun b hb => by simp [Value.ownBlock] at hb, fun b hb => by omega⟩
  exact (f7.mono (show w.heap.size + 1 ≤ w6.heap.size by omega)).turnD (fun b hbl hn hd => by
    rcases hd with hd | hd
    · omega
    · exact hn (by omega))
theorem LsR.relat (h : LsR w wr n L mb lM sl sv D k B R hd G) {i : Nat} (hi : i < k) : ∃ gb cap, sv = .slice (some ⟨gb, 0, none⟩) k cap ∧ wr.cell? ⟨gb, i * 2, none⟩ = some (.slice (some ⟨B i, 0, none⟩) L L) ∧ wr.cell? ⟨gb, i * 2 + 1, none⟩ = some (.int .i64 (hd i)) := by
  obtain ⟨gb, cap, rfl, -, -⟩ := h.own.form (by omega)
  have h2 := flatI_at (fun i => Value.slice (some ⟨B i, 0, none⟩) L L) (fun i => Value.int .i64 (hd i)) k i hi
  refine ⟨gb, cap, rfl, ?_, ?_⟩
  · rw [h.own.cellAt (i * 2) (by omega)]; exact h2.1
  · rw [h.own.cellAt (i * 2 + 1) (by omega)]; exact h2.2
end
theorem wp_pushRel {wr : World} {ops : Array Oper} {rest : List Oper} {o : Oper} {a : Act} {Q : Exit → Act → World → Prop} (hgd : o.guard = none) (s x : Operand)
    (ho : o.op = .call { callee := .builtin .append, args := #[s, x], argTypes := #[106, 106] })
    {w : World} {n L mb lM k lv q nb : Nat} {sl sv : Value} {D : Nat → Prop} {B hd : Nat → Nat} {R : Nat → Nat → Int} {G V : Nat → Int} (hw : LsW w wr n L mb lM sl sv D k B R hd G lv V) (hs : a.eval s = sv) (hx : a.eval x = .slice (some ⟨nb, 0, none⟩) 1 1) (hnb : nb = wr.heap.size) (hk : k ≤ 1048576)
    (h : ∀ g cap w', LsR w w' n L mb lM sl (.slice (some ⟨g, 0, none⟩) (k + 1) cap) (fun b => D b ∨ b = g) (k + 1) (fun i => if i = k then lv else B i) (fun i => if i = k then V else R i) (fun i => if i = k then q else hd i) G → wpList Try.prog ops Q rest (a.put o.dst (.slice (some ⟨g, 0, none⟩) (k + 1) cap)) w') :
    wpList Try.prog ops Q (o :: rest) a (wr.alloc (.cells #[.slice (some ⟨lv, 0, none⟩) L L, .int .i64 q] 108)) := by
  subst hnb
  obtain ⟨i0, hi, hz0, hz1, hz2⟩ := info_parts infoRel
  have hba := bl_alloc wr (.cells #[.slice (some ⟨lv, 0, none⟩) L L, .int .i64 q] 108)
  have h1 := hw.on hba
  refine wpList_append_lies _ hgd s x _ ho (mb + 1) 108 i0 (.agg #[.slice none 0 0, .int .i64 0]) 2 32 Try.underlying106 hi hz0 hz1 hz2 rfl (by decide) sv k _ hs h1.r.own ⟨wr.heap.size, 0, none⟩ 1 1 [.slice (some ⟨lv, 0, none⟩) L L, .int .i64 q] hx rfl ?_ ?_ (by omega) (by unfold maxLen; omega) (by omega) (by have := h1.r.mbw; omega) _ rfl fun g cap w' g1 g2 g3 g4 => h g cap w' (h1.push g1 g2 (g3.imp id fun e => by omega) g4)
  · intro j y hj
    match j, hj with
    | 0, hj => simp at hj; subst hj; simp [Addr.add]
    | 1, hj => simp at hj; subst hj; simp [Addr.add]
  · intro y hy
    simp at hy
    rcases hy with rfl | rfl <;> rfl
end Go.Proofs.Ytejliecmdkmgiaa
namespace Go.Proofs.Ytejliecmdkmgiaa
open Go.RowKit Go.Shelf
theorem LpV.bound2 {n k t : Nat} {A : Nat → Nat → Int} {R : Nat → Nat → Int} {h : Nat → Nat} {v : Nat → Int} (hv : LpV n A k t R h v) (hR : LpR n A k R h) (hk : k ≤ n) (htk : t ≤ k) {S : Nat} (hS : ∀ j c, j ≤ k → c < n * n + n + 1 → ZB S (vecW n A j c)) {c : Nat} (hc : c < n * n + n + 1) (hn : t ≤ 64 := by omega) : ZB ((t + 1) * (S + 1) + 1) (v c) :=
  hR.r.bound htk hv.comb hv.top hv.clr hv.prm (by omega) (fun j c hj hc => hS j c (by omega) hc) (fun c hc => hS k c (Nat.le_refl _) hc) hc
theorem LeastPoly_good (n S : Nat) (sl : Value) (E : Nat → Int) (w : World) (hn : n ≤ 64) (hS : S ≤ 16000000) (hr : RdE w sl (n * n) E) (hE : ∀ q, q < n * n → ZB S (E q)) :
    Calls Try.prog 22 #[.agg #[.int .i64 n, .int .i64 n, sl]] w fun e w' => ∃ (lb k : Nat) (μ : Nat → Int), e = .returned (.tuple #[.slice (some ⟨lb, 0, none⟩) (k + 1) (k + 1), .int .i64 0]) ∧ k ≤ n ∧
      MinP n (mtx n E) k μ ∧ (∀ j, j ≤ k → ZB ((k + 1) * (64 * (S + 1) + 1 + 1) + 1) (μ j)) ∧ FrE w' w.heap.size (fun b => b ≤ lb) lb (k + 1) μ ∧ Below w.heap.size w w' := by
  have hmix : Try.prog.follows .mixedOrders = true := by kernel_rfl
  have hK4 : n * n ≤ 4096 := Nat.mul_le_mul hn hn
  have hA := mtx_zb hE
  have hpw := fun k (hk : k ≤ n) => pw_zb hn hA k
  have hvw := fun k (hk : k ≤ n) c => vecW_zb hn hA hk c
  obtain ⟨a, cap, rfl, hcap⟩ := hr.slice
  obtain ⟨N, hN⟩ : ∃ N, N = n * n := ⟨_, rfl⟩
  obtain ⟨L, hL⟩ : ∃ L, L = n * n + n + 1 := ⟨_, rfl⟩
  have hL2 : (N : Int) + (n : Int) + 1 = (L : Int) := by rw [hN, hL]; omega
  have hL5 : L ≤ 5000 := by omega
  have hN5 : N ≤ 4096 := by omega
  have hsq := fun (u : World) => square_any n n a N cap (by omega) u
  rw [sqE_ok hn hN] at hsq
  have hb0 := bl_alloc w (.cells #[.int .i64 n, .int .i64 n, .slice a N cap] 24)
  have hbx := MBox.new w n n (.slice a N cap)
  have hs0 : (w.alloc (.cells #[.int .i64 n, .int .i64 n, .slice a N cap] 24)).heap.size = w.heap.size + 1 := by simp
  have HSQ := Lib.hid hsq
  have HB := Lib.hid hb0
  have HBX := Lib.hid hbx
  have HS0 := Lib.hid hs0
  have HR := Lib.hid hr
  have HE := Lib.hid hE
  have HPW := Lib.hid hpw
  have HVW := Lib.hid hvw
  have HN := Lib.hid hN
  have HL := Lib.hid hL
  have x0 := hbx.m0
  have x1 := hbx.m1
  have x2 := hbx.m2
  rw [← hN]
  clear hsq hb0 hbx hr hE hA hpw hvw hN hL hs0 hK4
  go_enter Try.func22, Try.ntmps22
  go_upto_region 1 with fail
  generalize w.alloc (.cells #[.int .i64 n, .int .i64 n, .slice a N cap] 24) = W at *
  go_wp2_with fail
  (refine (HSQ.out W).mono ?_)
  rintro e w3 ⟨rfl, hb3⟩
  have HB3 := Lib.hid (below_via HB.out hb3)
  have HX3 := Lib.hid (HBX.out.below hb3)
  have HS3 := Lib.hid (show w.heap.size + 1 ≤ w3.heap.size by have := HS0.out; have := hb3.size; omega)
  replace x0 := HX3.out.m0
  replace x1 := HX3.out.m1
  replace x2 := HX3.out.m2
  clear hb3 HB HBX HSQ HS0
  go_upto_region 4 with fail
  go_cut [5, 6] (fun v5 v6 wx => v5 = .int .i64 n ∧ v6 = .int .i64 N ∧ Below w3.heap.size w3 wx)
  case first =>
    go_region
    all_goals
      go_wp2_with fail
      go_meet
      exact ⟨rfl, rfl, bl_drew _⟩
  case rest =>
  obtain ⟨rfl, rfl, hb4⟩ := hcut
  have HS4 := Lib.hid (show w.heap.size + 1 ≤ _ from Nat.le_trans HS3.out hb4.size)
  have HX4 := Lib.hid (HX3.out.below hb4)
  have HB4 := Lib.hid (below_via HB3.out hb4)
  clear hb4 HB3 HX3 HS3 x0 x1 x2
  go_wp2_with fail
  (refine (Unit_good n _ hn).mono ?_)
  rintro e w7 ⟨lb, rfl, hf7, hb7⟩
  have hst := LsR.start (L := L) (B := fun _ => 0) (R := fun _ _ => 0) (hd := fun _ => 0) HB4.out (by have := HS4.out; omega) HX4.out hb7 hf7
  have HST := Lib.hid (hst.congr (G' := flat n (pw n (mtx n E) 0)) (fun q hq => by
    show unitE (q / n) (q % n) = laZ.idm (q / n) (q % n)
    unfold unitE laZ.idm
    by_cases e : q / n = q % n
    · rw [if_pos e, if_pos e.symm]
    · rw [if_neg e, if_neg (fun e' => e e'.symm)]))
  clear hst hf7 hb7 HB4 HX4 HS4
  go_upto_region 7 with fail
  obtain ⟨mb, hmb⟩ : ∃ mb, mb = w7.heap.size := ⟨_, rfl⟩
  rw [← hmb] at HST ⊢
  clear hmb
  have wN : IntKind.i64.wrap ((N : Int) + (n : Int)) = (N : Int) + (n : Int) := IntWalk.i64_in _ (by omega)
  have wL : IntKind.i64.wrap ((N : Int) + (n : Int) + 1) = (L : Int) := by rw [hL2]; exact IntWalk.i64_in _ (by omega)
  have mk : ∀ u : World, (Instr.makeSlice 22 (.int .i64 (L : Int)) (.int .i64 (L : Int))).run Try.prog u = .ok (.slice (some ⟨u.heap.size, 0, none⟩) L L) (u.alloc (.cells (madeCells #[.bool false, .slice none 0 0] (L * 2)) 49)) := mk_intsN L L (Nat.le_refl _) (by omega)
  obtain ⟨Z, hZ⟩ : ∃ Z, Z = 65 * (64 * (S + 1) + 1 + 1) + 1 := ⟨_, rfl⟩
  have hZ5 : Z ≤ 66560004291 := by omega
  have HZ := Lib.hid hZ
  clear hZ
  go_wp2_with fail
  go_loopw [7, 10] (fun sv kv wr => ∃ (k lM : Nat) (D : Nat → Prop) (B hd : Nat → Nat) (R : Nat → Nat → Int), k ≤ n ∧ kv = .int .i64 k ∧ LsR w wr n L mb lM (.slice a N cap) sv D k B R hd (flat n (pw n (mtx n E) k)) ∧ LpR n (mtx n E) k R hd ∧ ∀ i, i < k → ∀ c, c < L → ZB Z (R i c)) (fun _ kv _ => n + 1 - (intOf kv).toNat)
  case atStart => exact ⟨0, lb, _, _, _, _, Nat.zero_le _, rfl, HST.out, LpR.start _ _ _ _, fun i hi => absurd hi (by omega)⟩
  case round =>
    clear HST
    obtain ⟨k, lM, D, B, hd, R, hk, rfl, hrel, hlr, hrz⟩ := hrel
    obtain ⟨sa, sc, rfl⟩ := own_slice hrel.own
    have hnv := hrel.newV
    have HLR := Lib.hid hlr
    have HRZ := Lib.hid hrz
    clear hrel hlr hrz
    go_upto_region 10 with fail
    obtain ⟨lv, hlv⟩ : ∃ lv, lv = wr.heap.size := ⟨_, rfl⟩
    rw [← hlv] at hnv ⊢
    obtain ⟨D1, hD1⟩ : ∃ D1 : Nat → Prop, D1 = fun b => D b ∨ b = lv := ⟨_, rfl⟩
    rw [← hD1] at hnv
    clear hD1 hlv
    generalize wr.alloc (.cells (madeCells #[.bool false, .slice none 0 0] (L * 2)) 49) = wa at *
    have m0 := hnv.r.m.m0
    have m1 := hnv.r.m.m1
    have m2 := hnv.r.m.m2
    have hgm := hnv.r.g
    rw [← HN.out] at m2 hgm
    obtain ⟨wb, hrun, hpb, hgb⟩ := copy_pae (d2 := L) (c2 := N) (ty := 3) hnv.v hgm (by omega) hnv.dv.1 hnv.dv.2.2.1
    have HWB := Lib.hid (hnv.turn hgb hpb)
    clear hnv hgm hpb hgb
    go_upto_region 11 with fail
    obtain ⟨q, hq⟩ : ∃ q, q = N + k := ⟨_, rfl⟩
    have wq : IntKind.i64.wrap ((N : Int) + (k : Int)) = (q : Int) := by rw [show (N : Int) + (k : Int) = (q : Int) by omega]; exact IntWalk.i64_in _ (by omega)
    have hqL : (q : Int) < (L : Int) := by omega
    have hqL2 : q < L := by omega
    have HQ := Lib.hid hq
    clear hq hrun m0 m1 m2
    go_wp2_with fail
    (refine (zOf_fr 1 (by omega) (by omega) wb).mono ?_)
    rintro e w5 ⟨v, rfl, hf5, hb5⟩
    have hp5 := HWB.out.v.below hb5
    obtain ⟨q1, q2, k1, k2, k3, k4⟩ := hp5.ready hqL2
    obtain ⟨s5, a5, c5, d5, rfl, hp6⟩ := hp5.putz hqL2 HWB.out.dv.1 hf5 zb_ones (by omega) (fun j h1 h2 h3 => by have := HWB.out.r.dl j h3; omega)
    have hg6 := gb_two w5 lv (q * 2) (q * 2 + 1) (.bool s5) (.slice a5 c5 d5)
    have HW6 := Lib.hid (((HWB.out.on hb5).turn hg6 hp6).congr (V' := vecW n (mtx n E) k) (fun c hc => by
      have hN := HN.out
      have hq := HQ.out
      unfold vecW
      by_cases e : c = q
      · rw [if_pos e, if_neg (by omega), if_pos (by omega)]
      · rw [if_neg e]
        by_cases e2 : c < N
        · rw [if_pos e2, if_pos (by omega)]; rfl
        · rw [if_neg e2, if_neg (by omega), if_neg (by omega)]))
    clear hp5 hp6 hg6 hf5 hb5 HWB
    go_upto_region 12 with fail
    generalize (w5.setCell ⟨lv, q * 2, none⟩ (.bool s5)).setCell ⟨lv, q * 2 + 1, none⟩ (.slice a5 c5 d5) = w6 at *
    clear k1 k2 k3 k4
    go_wp2_with fail
    go_loopw [51] (fun tv wr => ∃ (t : Nat) (V : Nat → Int), t ≤ k ∧ tv = .int .i64 t ∧ LsW w wr n L mb lM (.slice a N cap) (.slice sa k sc) D1 k B R hd (flat n (pw n (mtx n E) k)) lv V ∧ LpV n (mtx n E) k t R hd V) (fun tv _ => k - (intOf tv).toNat)
    case atStart => exact ⟨0, _, Nat.zero_le _, rfl, HW6.out, LpV.start hk⟩
    case round =>
      clear HW6
      obtain ⟨t, V, ht, rfl, hw, hv⟩ := hrel
      have hvz : ∀ c, c < L → ZB Z (V c) := fun c hc => by
        rw [HZ.out]
        exact hv.bound HLR.out hk ht hn (fun j c hj _ => HVW.out j (by omega) c) (by rw [HL.out] at hc; exact hc)
      by_cases htk : t < k
      · obtain ⟨gb, cap2, he, r0, r1⟩ := hw.r.relat htk
        injection he with he1 _ he2
        subst he1
        have htk1 : (t : Int) < (k : Int) := by omega
        have hdL : hd t < L := by have := HLR.out.hd t htk; have := HL.out; omega
        have hba := bl_alloc wr (.cells #[.slice (some ⟨B t, 0, none⟩) L L, .int .i64 (hd t)] 108)
        have hw' := hw.on hba
        obtain ⟨hg0, hv'⟩ := hv.less HLR.out hk htk
        rw [← HL.out] at hg0 hv'
        have hls := less_any L (hd t) lv (B t) (w.heap.size + 1) (w.heap.size + 1) (Z + Z) D1 D1 V (R t) _ (by omega) hw'.v (hw'.r.row t htk).1 (hw'.dv.2.2.2 t htk) hw'.dv.1 hw'.dv.1 hw'.r.dl hdL (by omega) (fun c hc => (HRZ.out t htk _ hdL).mul (hvz c hc)) (fun c hc => (hvz _ hdL).mul (HRZ.out t htk c hc)) (fun _ => hg0)
        have hvn : LpV n (mtx n E) k (t + 1) R hd (if V (hd t) = 0 then V else fun c => offE (R t) V (hd t) c / (gcdS L (offE (R t) V (hd t)) : Int)) := by
          by_cases e : V (hd t) = 0
          · rw [if_pos e]; exact hv.keep hk htk e
          · rw [if_neg e]; exact hv'
        have HLS := Lib.hid hls
        have HW := Lib.hid hw'
        have HVN := Lib.hid hvn
        obtain ⟨x, hx⟩ : ∃ x, x = hd t := ⟨_, rfl⟩
        rw [← hx] at HLS HW HVN r1
        clear hls hw hw' hvn hv hv' hg0 hba hdL hvz he2 hx
        obtain ⟨y0, y1, -, -⟩ := two_cells wr (.slice (some ⟨B t, 0, none⟩) L L) (.int .i64 x) 108
        go_upto_region 15 with fail
        generalize wr.alloc (.cells #[.slice (some ⟨B t, 0, none⟩) L L, .int .i64 x] 108) = wc at *
        go_wp2_with fail
        (refine HLS.out.mono ?_)
        rintro e w8 ⟨rfl, hp8, hg8⟩
        have HW8 := Lib.hid (HW.out.turn hg8 hp8)
        clear hp8 hg8 HLS HW
        go_wp2_with fail
        go_roundw
        case rel => exact ⟨t + 1, _, by omega, by go_num, HW8.out, HVN.out⟩
        case measure => simp [intOf]; omega
      · obtain rfl : k = t := by omega
        have HV := Lib.hid hv
        have HVZ := Lib.hid hvz
        have HW := Lib.hid hw
        clear hv hvz hw
        go_wp2_with fail
        go_loopw [14] (fun hv wr => ∃ h : Nat, h ≤ N ∧ hv = .int .i64 h ∧ (∀ c, c < h → V c = 0) ∧ LsW w wr n L mb lM (.slice a N cap) (.slice sa k sc) D1 k B R hd (flat n (pw n (mtx n E) k)) lv V) (fun hv _ => N - (intOf hv).toNat)
        case atStart => exact ⟨0, Nat.zero_le _, rfl, fun c hc => absurd hc (by omega), HW.out⟩
        case round =>
          clear HW
          obtain ⟨h, hh, rfl, hz, hw⟩ := hrel
          have HZZ := Lib.hid hz
          clear hz
          by_cases hhN : h < N
          · have hhN1 : (h : Int) < (N : Int) := by omega
            have hhL1 : (h : Int) < (L : Int) := by omega
            obtain ⟨s1, m1, c1, c2, c3, c4⟩ := hw.v.cells h (by omega)
            obtain ⟨a1, n1, p1, rfl⟩ := c3.agg
            have hsg := zSign_any _ (V h) wr c3.1
            have HW := Lib.hid hw
            clear hw c3 c4
            by_cases he : V h = 0
            · rw [show sgZ (V h) = 0 by unfold sgZ; rw [if_pos he]] at hsg
              have HSG := Lib.hid hsg
              have HE0 := Lib.hid he
              clear hsg he
              go_wp2_with (go_at_call 39; refine HSG.out.mono ?_; rintro e w9 ⟨rfl, hb9⟩)
              have HW9 := Lib.hid (HW.out.on hb9)
              clear hb9 HSG HW
              go_wp2_with fail
              go_roundw
              case rel => exact ⟨h + 1, by omega, by go_num, fun c hc => by
                by_cases e : c = h
                · rw [e]; exact HE0.out
                · exact HZZ.out c (by omega), HW9.out⟩
              case measure => simp [intOf]; omega
            · have hs0 : (sgZ (V h) == 0) = false := by rw [beq_eq_false_iff_ne]; unfold sgZ; rw [if_neg he]; split <;> omega
              obtain ⟨sg, hsg2⟩ : ∃ sg, sg = sgZ (V h) := ⟨_, rfl⟩
              rw [← hsg2] at hsg hs0
              have HSG := Lib.hid hsg
              have HE0 := Lib.hid he
              have hne : ((h : Int) == (N : Int)) = false := by rw [beq_eq_false_iff_ne]; omega
              clear hsg he hsg2
              have hkn : k < n := by
                refine Nat.lt_of_le_of_ne hk fun e => HE0.out ?_
                subst e
                exact HV.out.full HLR.out (by rw [← HN.out]; exact hhN)
              go_upto_region 29 with (first
                | (go_at_call 39; refine HSG.out.mono ?_; rintro e w9 ⟨rfl, hb9⟩; have HW9 := Lib.hid (HW.out.on hb9); clear hb9 HSG HW)
                | (at_builtin; refine wp_pushRel rfl _ _ rfl HW9.out rfl rfl rfl (by omega) ?_; intro g cap3 wf hr))
              have hlp := HV.out.push HLR.out hkn (show h < n * n by rw [← HN.out]; exact hhN) HE0.out
              have hrz2 : ∀ i, i < k + 1 → ∀ c, c < L → ZB Z ((if i = k then V else R i) c) := fun i hi c hc => by
                by_cases e : i = k
                · rw [if_pos e]; exact HVZ.out c hc
                · rw [if_neg e]; exact HRZ.out i (by omega) c hc
              have x0 := hr.a.m0
              have x1 := hr.a.m1
              have x2 := hr.a.m2
              have m0 := hr.m.m0
              have m1 := hr.m.m1
              have m2 := hr.m.m2
              rw [← HN.out] at m2
              have hmul := Mul_good n n n (64 * (S + 1) + 1) S _ _ (flat n (pw n (mtx n E) k)) E wf hn hn hn (by omega) (hr.g.rd (Nat.le_refl _) (by rw [← HN.out]; omega)) (HR.out.below hr.below) (flat_zb fun i j hi hj => (HPW.out k hk i j hi hj).mono (Nat.succ_le_succ (Nat.mul_le_mul_right _ (by omega)))) HE.out
              rw [← HN.out] at hmul
              have HMUL := Lib.hid hmul
              have HLP := Lib.hid hlp
              have HRZ2 := Lib.hid hrz2
              have HRR := Lib.hid hr
              clear hmul hlp hrz2 hr HV HVZ HZZ HE0
              go_wp2_with fail
              (refine HMUL.out.mono ?_)
              rintro e wg ⟨l2, rfl, hf9, hb9⟩
              rw [HN.out] at hf9
              have hr2 := HRR.out.mul hb9 hf9
              have hr3 := hr2.congr (fun q hq => mul_flat' hq E (pw n (mtx n E) k))
              have hm9 := HRR.out.m.below hb9
              have m0 := hm9.m0
              have m1 := hm9.m1
              have m2 := hm9.m2
              have f0 := hm9.f0
              have f1 := hm9.f1
              have f2 := hm9.f2
              rw [← HN.out] at m2
              rw [← HN.out] at hr3
              obtain ⟨wh, hwh⟩ : ∃ wh, wh = ((wg.setCell ⟨mb, 0, none⟩ (.int .i64 n)).setCell ⟨mb, 1, none⟩ (.int .i64 n)).setCell ⟨mb, 2, none⟩ (.slice (some ⟨l2, 0, none⟩) N N) := ⟨_, rfl⟩
              have HR3 := Lib.hid (show LsR w wh n L mb l2 (.slice a N cap) (.slice (some ⟨g, 0, none⟩) (k + 1) cap3) _ (k + 1) _ _ _ (flat n (pw n (mtx n E) (k + 1))) by rw [hwh]; exact hr3)
              clear hr2 hr3 hm9 hf9 hb9 HRR HMUL x0 x1 x2
              go_upto_region 8 with fail
              rw [← hwh]
              clear hwh m0 m1 m2 f0 f1 f2
              have wk : IntKind.i64.wrap ((k : Int) + 1) = (k : Int) + 1 := IntWalk.i64_in _ (by omega)
              go_wp2_with fail
              go_roundw
              case rel => exact ⟨k + 1, l2, _, _, _, _, hkn, by go_num, HR3.out, HLP.out, HRZ2.out⟩
              case measure => simp [intOf]; omega
          · obtain rfl : N = h := by omega
            obtain ⟨hu, hmin⟩ := HV.out.min HLR.out (fun c hc => HZZ.out c (by rw [HN.out]; exact hc))
            rw [← HN.out] at hu hmin
            obtain ⟨μ, hμ⟩ : ∃ μ : Nat → Int, μ = fun j => if j ≤ k then V (N + j) * V (N + k) else 0 := ⟨_, rfl⟩
            rw [← hμ] at hmin
            have hμq : ∀ j, j ≤ k → V (N + j) / V (N + k) = μ j := fun j hj => by rw [hμ]; show _ = if j ≤ k then _ else _; rw [if_pos hj]; exact unit_div hu _
            have hμ2 : ∀ j, j ≤ k → ZB ((k + 1) * (64 * (S + 1) + 1 + 1) + 1) (μ j) := fun j hj => by
              rw [hμ]; show ZB _ (if j ≤ k then _ else _); rw [if_pos hj]
              exact zb_le (HV.out.bound2 HLR.out hk (Nat.le_refl _) (fun i c hi _ => HVW.out i (by omega) c) (by have := HL.out; rw [← HN.out]; omega)) (unit_abs hu _)
            have hμz : ∀ j, j ≤ k → ZB Z (μ j) := fun j hj => (hμ2 j hj).mono (by rw [HZ.out]; exact Nat.succ_le_succ (Nat.mul_le_mul_right _ (by omega)))
            have hu0 : V (N + k) ≠ 0 := fun e => by rw [e] at hu; exact absurd (Int.zero_dvd.1 hu) (by decide)
            have hud : ∀ j, V (N + k) ∣ V (N + j) := fun j => Int.dvd_trans hu (Int.one_dvd _)
            have hpz := PaE.zeros wr w.heap.size (k + 1) (fun b => b ≤ wr.heap.size) hw.r.below.size
            have hba := bl_alloc wr (.cells (madeCells #[.bool false, .slice none 0 0] ((k + 1) * 2)) 49)
            have hvp := (hw.v.turnD (D' := fun b => D1 b ∨ b = wr.heap.size) (fun b hb hn hd => hd.elim hn (fun e => by omega))).below hba
            have hvl := hw.v.lt
            have hbe := below_via hw.r.below hba
            have wk : IntKind.i64.wrap ((k : Int) + 1) = (k : Int) + 1 := IntWalk.i64_in _ (by omega)
            have mk2 : ∀ u : World, (Instr.makeSlice 22 (.int .i64 ((k : Int) + 1)) (.int .i64 ((k : Int) + 1))).run Try.prog u = .ok (.slice (some ⟨u.heap.size, 0, none⟩) (k + 1) (k + 1)) (u.alloc (.cells (madeCells #[.bool false, .slice none 0 0] ((k + 1) * 2)) 49)) := mk_intsN (k + 1) (k + 1) (Nat.le_refl _) (by omega)
            obtain ⟨pb, hpb⟩ : ∃ pb, pb = wr.heap.size := ⟨_, rfl⟩
            rw [← hpb] at hpz hvp hvl
            have HPZ := Lib.hid hpz
            have HVP := Lib.hid hvp
            have HBE := Lib.hid hbe
            have HMI := Lib.hid hmin
            have HMQ := Lib.hid hμq
            have HMZ := Lib.hid hμz
            have HM2 := Lib.hid hμ2
            have HUD := Lib.hid hud
            have HU0 := Lib.hid hu0
            have HWB := Lib.hid (show w.heap.size ≤ pb by rw [hpb]; exact hw.r.below.size)
            clear hpz hvp hbe hmin hμ hμq hμz hμ2 hud hu0 hu hw hba HV HZZ
            go_upto_region 22 with fail
            rw [← hpb]
            clear hpb
            generalize wr.alloc (.cells (madeCells #[.bool false, .slice none 0 0] ((k + 1) * 2)) 49) = wa at *
            go_wp2_with fail
            go_loopw [80] (fun iv wr => ∃ i : Nat, i ≤ k + 1 ∧ iv = .int .i64 i ∧ PaE wr w.heap.size (fun b => b ≤ pb) pb (k + 1) (k + 1) (fun c => if c < i then μ c else 0) ∧ PaE wr (w.heap.size + 1) (fun b => D1 b ∨ b = pb) lv L L V ∧ Below w.heap.size w wr) (fun iv _ => k + 1 - (intOf iv).toNat)
            case atStart => exact ⟨0, Nat.zero_le _, rfl, HPZ.out.congr (fun c _ => by rw [if_neg (by omega)]), HVP.out, HBE.out⟩
            case round =>
              clear HPZ HVP HBE
              obtain ⟨i, hi, rfl, hp, hv, hbe⟩ := hrel
              by_cases hik : i < k + 1
              · obtain ⟨qi, hqi⟩ : ∃ qi, qi = N + i := ⟨_, rfl⟩
                have hqk := HQ.out
                have wi : IntKind.i64.wrap ((N : Int) + (i : Int)) = (qi : Int) := by rw [show (N : Int) + (i : Int) = (qi : Int) by omega]; exact IntWalk.i64_in _ (by omega)
                have hqi1 : (qi : Int) < (L : Int) := by omega
                have hi1 : (i : Int) < (k : Int) + 1 := by omega
                obtain ⟨s1, m1, c1, c2, c3, c4⟩ := hv.cells qi (by omega)
                obtain ⟨a1, n1, p1, rfl⟩ := c3.agg
                obtain ⟨s2, m2, d1, d2, d3, d4⟩ := hv.cells q (by omega)
                obtain ⟨a2, n2, p2, rfl⟩ := d3.agg
                have hex := zExact_any _ _ (V qi) (V q) wr.drew (by rw [hqk]; exact HU0.out) (by rw [hqi, hqk]; exact HUD.out i) (c3.1.below (bl_drew _)) (d3.1.below (bl_drew _))
                rw [show V qi / V q = μ i by rw [hqi, hqk]; exact HMQ.out i (by omega)] at hex
                have HEX := Lib.hid hex
                have HP := Lib.hid hp
                have HV := Lib.hid hv
                have HBE := Lib.hid hbe
                clear hex hp hv hbe c3 c4 d3 d4 hqi hqk
                go_wp2_with fail
                refine region_early (fun u => u.cell? ⟨lv, qi * 2, none⟩ = some (.bool s1) ∧ u.cell? ⟨lv, qi * 2 + 1, none⟩ = some (.slice a1 n1 p1) ∧ u.cell? ⟨lv, q * 2, none⟩ = some (.bool s2) ∧ u.cell? ⟨lv, q * 2 + 1, none⟩ = some (.slice a2 n2 p2)) 18 [0, 1, 2, 3, 4, 5, 6, 7, 8, 9, 10, 11, 12, 13] 6 hmix (by kernel_rfl) rfl (by kernel_rfl) (fun _ _ d _ _ h => by cases d <;> exact h) ⟨c1, c2, d1, d2⟩ ?_
                iterate 14 (refine early_take rfl (by rfl) ?_; apply Exists.intro; refine ⟨fun u hu => ?_, ?_⟩; (obtain ⟨u1, u2, u3, u4⟩ := hu; go_simp; rfl); simp only [Act.put, List.getElem_toArray, List.getElem_cons_zero, List.getElem_cons_succ, List.setIfInBounds_toArray, List.set_cons_zero, List.set_cons_succ])
                refine early_done ?_
                simp only [marked]
                refine anyL_one (i := 14) (by kernel_rfl) rfl (by rfl) fun K hK => ?_
                go_simp
                refine HEX.out.mono ?_
                rintro e w8 ⟨v8, rfl, hf8, hb8⟩
                have hb8' := below_via (bl_drew wr) hb8
                have hp8 := HP.out.below hb8'
                obtain ⟨g1, g2, g3, g4, g5, g6⟩ := hp8.ready hik
                obtain ⟨s9, a9, n9, p9, rfl, hp9⟩ := hp8.putz hik (Nat.le_refl _) hf8 (HMZ.out i (by omega)) (by omega) (fun j h1 h2 h3 => by have := HP.out.lt; have h1 : wr.heap.size ≤ j := h1; omega)
                have hS8 : (w8.cell? ⟨lv, qi * 2, none⟩ = some (.bool s1) ∧ w8.cell? ⟨lv, qi * 2 + 1, none⟩ = some (.slice a1 n1 p1) ∧ w8.cell? ⟨lv, q * 2, none⟩ = some (.bool s2) ∧ w8.cell? ⟨lv, q * 2 + 1, none⟩ = some (.slice a2 n2 p2)) := ⟨cell_stays hb8' c1, cell_stays hb8' c2, cell_stays hb8' d1, cell_stays hb8' d2⟩
                refine hK _ _ (fun _ => hS8) ?_
                have HP9 := Lib.hid (hp9.congr (F := fun c => if c < i + 1 then μ c else 0) (fun c hc => by
                  by_cases e : c = i
                  · rw [if_pos e, if_pos (by omega), e]
                  · rw [if_neg e]
                    by_cases e2 : c < i
                    · rw [if_pos e2, if_pos (by omega)]
                    · rw [if_neg e2, if_neg (by omega)]))
                have hg9 := gb_two w8 pb (i * 2) (i * 2 + 1) (.bool s9) (.slice a9 n9 p9)
                have HV9 := Lib.hid ((HV.out.below hb8').grown hg9 (by omega) (Or.inr rfl))
                have hb9 := HBE.out.trans (hb8'.mono HBE.out.size)
                have HB9 := Lib.hid (hb9.grown hg9 hb9.size (fun j hj => by injection hj with hj; have := HWB.out; omega))
                have HS8 := Lib.hid hS8
                clear hK K hf8 hb8 hp8 hp9 hb8' HEX hS8 hg9 hb9 c1 c2 d1 d2 HP HV HBE
                refine anyL_yield (i := 15) rfl (by kernel_rfl) (by kernel_rfl) (by kernel_rfl) (by kernel_rfl) (fun _ _ d _ _ h => by cases d <;> exact h) (by rfl) HS8.out ?_
                apply Exists.intro
                refine ⟨fun u => ?_, ?_⟩
                · go_simp
                  rfl
                simp only [Act.put, List.getElem_toArray, List.getElem_cons_zero, List.getElem_cons_succ, List.setIfInBounds_toArray, List.set_cons_zero, List.set_cons_succ]
                refine anyL_yield (i := 16) rfl (by kernel_rfl) (by kernel_rfl) (by kernel_rfl) (by kernel_rfl) (fun _ _ d _ _ h => by cases d <;> exact h) (by rfl) HS8.out ?_
                apply Exists.intro
                refine ⟨fun u => ?_, ?_⟩
                · go_simp
                  rfl
                simp only [Act.put, List.getElem_toArray, List.getElem_cons_zero, List.getElem_cons_succ, List.setIfInBounds_toArray, List.set_cons_zero, List.set_cons_succ]
                refine anyL_yield (i := 17) rfl (by kernel_rfl) (by kernel_rfl) (by kernel_rfl) (by kernel_rfl) (fun _ _ d _ _ h => by cases d <;> exact h) (by rfl) HS8.out ?_
                apply Exists.intro
                refine ⟨fun u => ?_, ?_⟩
                · go_simp
                  rfl
                simp only [Act.put, List.getElem_toArray, List.getElem_cons_zero, List.getElem_cons_succ, List.setIfInBounds_toArray, List.set_cons_zero, List.set_cons_succ]
                refine anyL_one (i := 18) (by kernel_rfl) rfl (by rfl) fun K hK => ?_
                go_simp
                refine hK _ _ (fun e => absurd e (by decide)) ?_
                clear hK K
                refine anyL_one (i := 19) (by kernel_rfl) rfl (by rfl) fun K hK => ?_
                go_simp
                refine hK _ _ (fun e => absurd e (by decide)) ?_
                clear hK K
                refine anyL_done (by kernel_rfl) ?_ _
                have wk2 : IntKind.i64.wrap ((i : Int) + 1) = (i : Int) + 1 := IntWalk.i64_in _ (by omega)
                clear g3 g4 g5 g6
                go_wp2_with fail
                go_roundw
                case rel => exact ⟨i + 1, by omega, by go_num, HP9.out, HV9.out, HB9.out⟩
                case measure => simp [intOf]; omega
              · obtain rfl : i = k + 1 := by omega
                have HP := Lib.hid hp
                have HBE := Lib.hid hbe
                clear hp hv hbe
                go_wp2_with fail
                refine bodyPost_ret (v := .tuple #[.slice (some ⟨pb, 0, none⟩) (k + 1) (k + 1), .int .i64 0]) ?_ rfl ⟨pb, k, μ, rfl, hk, HMI.out, HM2.out, HP.out.congr (fun c hc => if_pos hc), HBE.out⟩
                simp [results, Try.results22, go_sem]
end Go.Proofs.Ytejliecmdkmgiaa
