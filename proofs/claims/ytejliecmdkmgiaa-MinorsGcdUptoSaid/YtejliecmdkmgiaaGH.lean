import Derived.Test.YtejliecmdkmgiaaGG
import Derived.Test.YtejliecmdkmgiaaGF
import Derived.Test.YtejliecmdkmgiaaRows
import Derived.Test.YtejliecmdkmgiaaGA
import Derived.ProofKit
import Derived.OpenShut
import Derived.Deep.Slices
import Derived.Lib.SmallJoins
import Derived.Below
import Derived.ChangeSame
set_option linter.unusedVariables false
set_option linter.unusedSimpArgs false
set_option maxHeartbeats 8000000
set_option maxRecDepth 100000
namespace Go.Proofs.Ytejliecmdkmgiaa
open Go.RowKit
theorem OwnL.frm {w w' : World} {base N base' : Nat} {e : TypeId} {v : Value} {n : Nat} {F : Nat → Value} (h : OwnL w base' e v n F) (hN : N ≤ base') (hf : Frm base N w w') : OwnL w' base' e v n F := by
  obtain ⟨h0, h⟩ := h
  rcases h with h | ⟨g, cap, cur, h1, h2, h3, h4⟩
  · exact ⟨h0, Or.inl h⟩
  · exact ⟨h0, Or.inr ⟨g, cap, cur, h1, h2, (hf.high g (by omega) (Array.getElem?_eq_some_iff.1 h3).1).trans h3, h4⟩⟩
theorem wp_pushL {P : Program} {wr : World} {ops : Array Oper} {rest : List Oper} {o : Oper} {a : Act} {Q : Exit → Act → World → Prop} (hgd : o.guard = none) (s x : Operand) (t : TypeId)
    (ho : o.op = .call { callee := .builtin .append, args := #[s, x], argTypes := #[t, t] }) {e : TypeId} {z : Value} (ht : P.underlying t = some (.slice e)) (hi : (P.info? e).map (fun i => (i.zero, i.size, i.bytes)) = some (some z, 1, 8)) (hz : z.cells.size = 1)
    {base : Nat} {v : Value} {n : Nat} {xs : List Value} (hown : wr.ownsRow base e 1 v n xs) (hs : a.eval s = v) {u : Value} (hx : a.eval x = .slice (some ⟨wr.heap.size, 0, none⟩) 1 1) (hu : u.oneCell' = true) (hb : base ≤ wr.heap.size) (hn : n ≤ 17592186044415)
    (h : ∀ g cap w', w'.ownsRow base e 1 (.slice (some ⟨g, 0, none⟩) (n + 1) cap) (n + 1) (xs ++ [u]) → wr.grownBy w' v.ownBlock → (v.ownBlock = some g ∨ wr.heap.size ≤ g) → g < w'.heap.size → wpList P ops Q rest (a.put o.dst (.slice (some ⟨g, 0, none⟩) (n + 1) cap)) w') : wpList P ops Q (o :: rest) a (wr.alloc (.cells #[u] e)) := by
  obtain ⟨i0, hi, hz0, hz1, hz2⟩ := info_parts hi
  refine wpList_append_lies _ hgd s x t ho base e i0 z 1 8 ht hi hz0 hz1 hz2 hz (by omega) v n xs hs (hown.alloc _) ⟨wr.heap.size, 0, none⟩ 1 1 [u] hx rfl ?_ ?_ (by omega) (by unfold maxLen; omega) (by omega) (by simp; omega) _ rfl fun g cap w' h1 h2 h3 h4 => h g cap w' h1 (gb_trans (gb_below ((Below.refl _ _).alloc (Nat.le_refl _) _) _) h2) (h3.imp id fun e => by simp at e; omega) h4
  · intro j y hj
    match j, hj with
    | 0, hj => simp at hj; subst hj; simp [Addr.add]
  · intro y hy; simp at hy; subst hy; exact hu
def RunS (X : Nat → Prop) (base N fb m C S : Nat) (A : Nat → Nat → Int) (rs ns : Value) (c k : Nat) (P : Nat → Nat) (W : World) : Prop :=
  ∃ B σ G last tn, Fl X W base fb m C B G tn last k rs ns ∧ BrZ m C k c P σ A G last tn ∧ ∀ b, DF fb m B rs ns b → b < N
section
variable {X : Nat → Prop} {base N fb m C S c k : Nat} {A : Nat → Nat → Int} {rs ns : Value} {P : Nat → Nat} {W W' : World}
theorem RunS.kle (h : RunS X base N fb m C S A rs ns c k P W) : k ≤ m := by
  obtain ⟨B, σ, G, last, tn, -, h2, -⟩ := h; exact h2.kle
theorem RunS.bW (h : RunS X base N fb m C S A rs ns c k P W) : base ≤ W.heap.size := by
  obtain ⟨B, σ, G, last, tn, h1, -, -⟩ := h; exact Nat.le_trans h1.own (Nat.le_of_lt h1.fbW)
theorem RunS.others {X' : Nat → Prop} (h : RunS X base N fb m C S A rs ns c k P W) {r : Option Nat} (hg : W.grownBy W' r) (hr : ∀ d, r = some d → X d ∧ N ≤ d) (hx : ∀ b, X' b → X b ∨ W.heap.size ≤ b) (hl : ∀ b, X' b → b < W'.heap.size) : RunS X' base N fb m C S A rs ns c k P W' := by
  obtain ⟨B, σ, G, last, tn, h1, h2, h3⟩ := h
  exact ⟨B, σ, G, last, tn, h1.others hg (fun d e => ⟨(hr d e).1, fun hd => by have := h3 d hd; have := (hr d e).2; omega⟩) hx hl, h2, h3⟩
theorem step_run (h : RunS X base N fb m C S A rs ns c k P W) (hm : m ≤ 64) (hC : C ≤ 64) (hc : c < C) (hS : S ≤ 268435456) (hA : ∀ i j, i < m → j < C → ZB S (A i j)) :
    Calls Try.prog 116 #[.pointer (some ⟨fb, 0, none⟩), .int .i64 c] W fun e W' => Frm base N W W' ∧ W.heap.size ≤ W'.heap.size ∧
      ((e = .returned (.bool false) ∧ RunS X base N fb m C S A rs ns (c + 1) k P W' ∧ (m = C → k = c → laZ.dt C A = 0)) ∨
       (e = .returned (.bool true) ∧ RunS X base N fb m C S A rs ns (c + 1) (k + 1) (fun t => if t = k then c else P t) W')) := by
  obtain ⟨B, σ, G, last, tn, h1, h2, h3⟩ := h
  have hk := h2.kle
  have h65 : (k + 1) * (S + 1) ≤ 65 * (S + 1) := Nat.mul_le_mul_right _ (by omega)
  refine (step_any X W base N fb m C B G tn last k c rs ns hm hC hc hk h2.last_ne h1 h3 ((k + 1) * (S + 1) + 1) (by omega) (fun i j hi him hj => h2.zb (by omega) hA hi him hj) (fun p hp hpm hz => (h2.any_pivot hc hp hpm hz).2)).mono ?_
  rintro e W' ⟨a, b, ⟨rfl, hz, hf⟩ | ⟨p, hp, hpm, -, hz, rfl, hf⟩⟩
  · refine ⟨a, b, Or.inl ⟨rfl, ⟨B, σ, G, last, tn, hf, h2.skip hc hz, h3⟩, fun e1 e2 => ?_⟩⟩
    subst e1 e2
    exact h2.det0 hc hz
  · obtain ⟨σ', h4⟩ := (h2.any_pivot hc hp hpm hz).1
    refine ⟨a, b, Or.inr ⟨rfl, _, σ', _, _, _, hf, h4, fun b hb => h3 b (DF_sx hpm (by have := h4.kle; omega) hb)⟩⟩
end
def CapOk (v : Value) : Prop := ∀ a n c, v = .slice a n c → c ≤ maxLen
theorem OwnL.capOk {w : World} {base : Nat} {e : TypeId} {v : Value} {n : Nat} {F : Nat → Value} (h : OwnL w base e v n F) : CapOk v := by
  obtain ⟨a, c, rfl, h1, h2⟩ := h.slice
  intro a' n' c' he
  injection he with e1 e2 e3
  omega
theorem run_own (W : World) (base fb m C S : Nat) (A : Nat → Nat → Int) (rs ns : Value) (P : Nat → Nat) (hm : m ≤ 64) (hC : C ≤ 64) (hS : S ≤ 268435456) (hA : ∀ i j, i < m → j < C → ZB S (A i j)) (h : RunS (fun _ => False) base W.heap.size fb m C S A rs ns 0 0 P W) :
    Calls Try.prog 170 #[.pointer (some ⟨fb, 0, none⟩), .int .i64 C] W fun e W' => ∃ r P v, e = .returned v ∧ PivQ m C r P A ∧ FrA .i64 3 W' W.heap.size v r (fun i => (P i : Int)) ∧ Below base W W' ∧ CapOk v := by
  have hbW := h.bW
  have H := Lib.hid h
  have HA := Lib.hid hA
  clear h hA
  go_enter Try.func170, Try.ntmps170
  go_wp2_with fail
  go_loopw [5, 8] (fun lv cv wr => ∃ c k P, c ≤ C ∧ cv = .int .i64 (c : Nat) ∧ RunS (fun b => lv.ownBlock = some b) base W.heap.size fb m C S A rs ns c k P wr ∧ OwnL wr W.heap.size 3 lv k (fun i => .int .i64 (P i)) ∧ Frm base W.heap.size W wr) (fun _ cv _ => C - (intOf cv).toNat)
  case atStart => exact ⟨0, 0, P, Nat.zero_le _, rfl, H.out.others (gb_below (Below.refl _ _) none) (by simp) (fun b hb => by simp [Value.ownBlock] at hb) (fun b hb => by simp [Value.ownBlock] at hb), ⟨rfl, Or.inl ⟨rfl, rfl⟩⟩, Frm.refl _ _ _⟩
  case round =>
    clear H
    obtain ⟨c, k, P, hcC, rfl, hr, hown, hf⟩ := hrel
    obtain ⟨la, lc, rfl, -, -⟩ := hown.slice
    by_cases hc : c < C
    · have hst := step_run hr hm hC hc hS HA.out
      have hkm := hr.kle
      have HO := Lib.hid hown
      have HF := Lib.hid hf
      have HST := Lib.hid hst
      clear hst hr hown hf
      go_wp2_with fail
      refine HST.out.mono ?_
      rintro e w2 ⟨hf2, hs2, h2⟩
      have HF2 := Lib.hid (HF.out.trans hf2)
      have ho2 := HO.out.frm (Nat.le_refl _) hf2
      clear HF HST
      rcases h2 with ⟨rfl, h2, -⟩ | ⟨rfl, h2⟩
      · have H2 := Lib.hid h2
        have HO2 := Lib.hid ho2
        clear h2 ho2 hf2 HO
        go_wp2_with fail
        go_roundw
        case rel => exact ⟨c + 1, k, P, by omega, by go_num, H2.out, HO2.out, HF2.out⟩
        case measure => simp [intOf]; omega
      · have H2 := Lib.hid h2
        have HO2 := Lib.hid ho2
        have hsz : W.heap.size ≤ w2.heap.size := HF2.out.size
        clear h2 ho2 hf2 HO
        go_wp2_with (at_builtin; refine wp_pushL rfl _ _ _ rfl Try.underlying70 infoN (by decide) HO2.out rfl rfl rfl hsz (by omega) ?_; intro g cap w3 hown3 hg3 hat hgl)
        have hlo : ∀ d, (Value.slice la k lc).ownBlock = some d → W.heap.size ≤ d := fun d hd => (own_ge HO2.out d hd).1
        have H3 := Lib.hid (H2.out.others (X' := fun b => (Value.slice (some ⟨g, 0, none⟩) (k + 1) cap).ownBlock = some b) hg3 (fun d hd => ⟨hd, hlo d hd⟩) (fun b hb => by
          simp [Value.ownBlock] at hb; subst hb; exact hat) (fun b hb => by simp [Value.ownBlock] at hb; subst hb; exact hgl))
        have HF3 := Lib.hid (show Frm base W.heap.size W w3 from ⟨HF2.out.below.grown hg3 (Nat.le_trans hbW hsz) (fun d hd => Nat.le_trans hbW (hlo d hd)), fun d h1 h2 => absurd h2 (by omega)⟩)
        have ho3 : OwnL w3 W.heap.size 3 (.slice (some ⟨g, 0, none⟩) (k + 1) cap) (k + 1) (fun i => .int .i64 ((if i = k then c else P i : Nat) : Int)) := by
          have e : ((List.range (k + 1)).map fun i => Value.int .i64 ((if i = k then c else P i : Nat) : Int)) = ((List.range k).map fun i => Value.int .i64 ((P i : Nat) : Int)) ++ [Value.int .i64 (c : Nat)] := by
            rw [List.range_succ, List.map_append]
            congr 1
            · exact List.map_congr_left fun i hi => by rw [if_neg (by have := List.mem_range.1 hi; omega)]
            · simp
          show w3.ownsRow _ _ _ _ _ _
          rw [e]; exact hown3
        have HO3 := Lib.hid ho3
        clear ho3 hown3 hg3 hat hgl hlo
        go_roundw
        case rel => exact ⟨c + 1, k + 1, _, by omega, by go_num, H3.out, HO3.out, HF3.out⟩
        case measure => simp [intOf]; omega
    · obtain rfl : c = C := by omega
      obtain ⟨B, σ, G, last, tn, h1, h2, h3⟩ := hr
      have hfr := own_fr (k := .i64) (f := fun i => (P i : Int)) hown (by have := h2.kle; omega)
      have HP := Lib.hid h2.piv
      have HFR := Lib.hid hfr
      have HCO := Lib.hid hown.capOk
      have HF := Lib.hid hf
      clear h1 h2 h3 hfr hown hf
      go_wp2_with fail
      go_ret
      exact ⟨_, _, _, rfl, HP.out, HFR.out, HF.out.below, HCO.out⟩
end Go.Proofs.Ytejliecmdkmgiaa
namespace Go.Proofs.Ytejliecmdkmgiaa
open Go.RowKit
theorem boxesI (w : World) (a0 a1 a2 : Value) :
    let W := (w.alloc (.cells #[a0, a1, a2] 24)).alloc (.cells #[.bool false, .slice none 0 0] 49)
    (W.cell? ⟨w.heap.size, 0, none⟩ = some a0 ∧ W.cell? ⟨w.heap.size, 1, none⟩ = some a1 ∧ W.cell? ⟨w.heap.size, 2, none⟩ = some a2) ∧
    (W.cell? ⟨w.heap.size + 1, 0, none⟩ = some (.bool false) ∧ W.cell? ⟨w.heap.size + 1, 1, none⟩ = some (.slice none 0 0) ∧ W.frozen? ⟨w.heap.size + 1, 0, none⟩ = false ∧ W.frozen? ⟨w.heap.size + 1, 1, none⟩ = false) ∧
    Below w.heap.size w W ∧ W.heap.size = w.heap.size + 2 := by
  intro W
  obtain ⟨w1, h1⟩ : ∃ w1, w1 = w.alloc (.cells #[a0, a1, a2] 24) := ⟨_, rfl⟩
  have hW : W = w1.alloc (.cells #[.bool false, .slice none 0 0] 49) := by rw [h1]
  have s1 : w1.heap.size = w.heap.size + 1 := by rw [h1]; simp
  have b1' : Below w.heap.size w w1 := by rw [h1]; exact (Below.refl _ _).alloc (Nat.le_refl _) _
  have b2 : Below w1.heap.size w1 W := by rw [hW]; exact (Below.refl _ _).alloc (Nat.le_refl _) _
  have k1 := three_cells w a0 a1 a2 24
  have k2 := two_cells w1 (.bool false) (.slice none 0 0) 49
  rw [← h1] at k1
  rw [← hW, s1] at k2
  have sW : W.heap.size = w.heap.size + 2 := by rw [hW]; simp [s1]
  clear_value W
  exact ⟨⟨cell_stays b2 (k1 0 _ rfl).1, cell_stays b2 (k1 1 _ rfl).1, cell_stays b2 (k1 2 _ rfl).1⟩, k2, b1'.trans (b2.mono (by omega)), sW⟩
theorem frz_nil (w : World) (base : Nat) : FrZ w base (.agg #[.bool false, .slice none 0 0]) 0 :=
  ⟨.slice none 0 0, 0, fun _ => 0, rfl, Or.inl ⟨rfl, rfl⟩, ⟨fun i h => absurd h (by omega), fun h => absurd h (by omega), rfl⟩⟩
theorem det_fin {w w3 : World} {b base : Nat} {v : Value} {z : Int} (hf : FrZ w3 base v z) (hb : b < base) (h0 : w.heap.size ≤ b) (hB : Below w.heap.size w w3) :
    ∃ a n c, v = .agg #[.bool (decide (z < 0)), .slice a n c] ∧ FrZ (stored2 w3 b (.bool (decide (z < 0))) (.slice a n c)) w.heap.size v z ∧ Below w.heap.size w (stored2 w3 b (.bool (decide (z < 0))) (.slice a n c)) := by
  obtain ⟨a, n, c, rfl, h⟩ := (hf.mono (show b + 1 ≤ base by omega)).stored
  exact ⟨a, n, c, rfl, h.mono h0, hB.grown (stored2_gb w3 b _ _) hB.size (fun k hk => by injection hk with hk; omega)⟩
theorem frm_cell {base N : Nat} {w w' : World} (h : Frm base N w w') {b i : Nat} {u : Value} (hb : b < base) (hu : w.cell? ⟨b, i, none⟩ = some u) : w'.cell? ⟨b, i, none⟩ = some u := by rw [h.below.cell hb]; exact hu
theorem frm_froz {base N : Nat} {w w' : World} (h : Frm base N w w') {b i : Nat} (hb : b < base) (hu : w.frozen? ⟨b, i, none⟩ = false) : w'.frozen? ⟨b, i, none⟩ = false := by rw [h.below.frozen hb]; exact hu
theorem Det_good (R S : Nat) (sl : Value) (A : Nat → Int) (w : World) (hR : R ≤ 64) (hS : S ≤ 268435456) (hr : RdE w sl (R * R) A) (hA : ∀ q, q < R * R → ZB S (A q)) :
    Calls Try.prog 48 #[.agg #[.int .i64 R, .int .i64 R, sl]] w fun e w' => ∃ v, e = .returned (.tuple #[v, .int .i64 0]) ∧ FrZ w' w.heap.size v (laZ.dt R (fun i j => A (i * R + j))) ∧ Below w.heap.size w w' := by
  have hK4 : R * R ≤ 4096 := Nat.mul_le_mul hR hR
  obtain ⟨a, cap, rfl, hcap⟩ := hr.slice
  obtain ⟨⟨c0, c1, c2⟩, ⟨z0, z1, z2, z3⟩, hB, hsz⟩ := boxesI w (.int .i64 R) (.int .i64 R) (.slice a (R * R) cap)
  have hck := fun (u : World) => Check_any R R a (R * R) cap (by omega) u
  rw [checkE_ok hR hR rfl] at hck
  have hof := fun (u : World) (hu : Below w.heap.size w u) => of_any R R (.slice a (R * R) cap) A u hR hR (hr.below hu)
  have hA' : ∀ i j, i < R → j < R → ZB S (A (i * R + j)) := fun i j hi hj => hA _ (idx_lt hi hj rfl).1
  obtain ⟨D, hD⟩ : ∃ D, D = laZ.dt R (fun i j => A (i * R + j)) := ⟨_, rfl⟩
  rw [← hD]
  generalize R * R = K at *
  have HCK := Lib.hid hck
  have HOF := Lib.hid hof
  have HB := Lib.hid hB
  have HSZ := Lib.hid hsz
  have HA := Lib.hid hA'
  have HD := Lib.hid hD
  clear hck hof hB hsz hr hA hA' hD
  go_enter Try.func48, Try.ntmps48
  go_upto_region 1 with fail
  generalize (w.alloc (.cells #[.int .i64 R, .int .i64 R, .slice a K cap] 24)).alloc (.cells #[.bool false, .slice none 0 0] 49) = W at *
  go_wp2_with fail
  (refine (HCK.out W).mono ?_)
  rintro e w3 ⟨rfl, hb3⟩
  have HB3 := Lib.hid (HB.out.trans (hb3.mono HB.out.size))
  have HS3 := Lib.hid (show w.heap.size + 2 ≤ w3.heap.size by have := HSZ.out; have := hb3.size; omega)
  replace z2 := froz_stays hb3 z0 z2
  replace z3 := froz_stays hb3 z1 z3
  replace z0 := cell_stays hb3 z0
  replace z1 := cell_stays hb3 z1
  replace c0 := cell_stays hb3 c0
  replace c1 := cell_stays hb3 c1
  replace c2 := cell_stays hb3 c2
  clear hb3 HCK HSZ HB
  go_wp2_with fail
  (refine (HOF.out w3 HB3.out).mono ?_)
  rintro e w4 ⟨fb, B, rs, ns, rfl, hfl, hb4⟩
  have hrun : RunS (fun _ => False) w3.heap.size w4.heap.size fb R R S (fun i j => A (i * R + j)) rs ns 0 0 (fun i => i) w4 := ⟨B, _, _, _, _, hfl, BrZ.start R R _ _, fun b hb => hfl.lt hb⟩
  replace z2 := froz_stays hb4 z0 z2
  replace z3 := froz_stays hb4 z1 z3
  replace z0 := cell_stays hb4 z0
  replace z1 := cell_stays hb4 z1
  replace c0 := cell_stays hb4 c0
  replace c1 := cell_stays hb4 c1
  replace c2 := cell_stays hb4 c2
  have HRUN := Lib.hid hrun
  have HB4 := Lib.hid hb4
  clear hrun hfl hb4 HOF
  go_wp2_with fail
  go_loopw [23] (fun cv wr => ∃ c P, c ≤ R ∧ cv = .int .i64 (c : Nat) ∧ RunS (fun _ => False) w3.heap.size w4.heap.size fb R R S (fun i j => A (i * R + j)) rs ns c c P wr ∧ Frm w3.heap.size w4.heap.size w4 wr) (fun cv _ => R - (intOf cv).toNat)
  case atStart => exact ⟨0, _, Nat.zero_le _, rfl, HRUN.out, Frm.refl _ _ _⟩
  case round =>
    clear HRUN
    obtain ⟨c, P, hcR, rfl, hr, hf⟩ := hrel
    have t3 := HS3.out
    have hwr : w3.heap.size ≤ wr.heap.size := Nat.le_trans HB4.out.size hf.size
    replace z0 := frm_cell hf (by omega) z0
    replace z1 := frm_cell hf (by omega) z1
    replace z2 := frm_froz hf (by omega) z2
    replace z3 := frm_froz hf (by omega) z3
    have hBr : Below w.heap.size w wr := HB3.out.trans ((HB4.out.trans hf.below).mono (by omega))
    by_cases hc : c < R
    · have hst := step_run hr hR hR hc hS HA.out
      have HST := Lib.hid hst
      have HF := Lib.hid hf
      have HBR := Lib.hid hBr
      clear hst hr hf hBr c0 c1 c2
      go_wp2_with fail
      refine HST.out.mono ?_
      rintro e w5 ⟨hf5, hs5, h5⟩
      replace z0 := frm_cell hf5 (by omega) z0
      replace z1 := frm_cell hf5 (by omega) z1
      replace z2 := frm_froz hf5 (by omega) z2
      replace z3 := frm_froz hf5 (by omega) z3
      have HB5 := Lib.hid (HBR.out.trans (hf5.below.mono (by omega)))
      have HF5 := Lib.hid (HF.out.trans hf5)
      clear HST hf5 HF HBR
      rcases h5 with ⟨rfl, -, h0⟩ | ⟨rfl, h5⟩
      · have h0 := h0 (by first | rfl | trivial) (by first | rfl | trivial)
        have HD0 := Lib.hid (HD.out.trans h0)
        clear h0
        go_wp2_with fail
        obtain ⟨a', n', c', he, f1, f2⟩ := det_fin (b := w.heap.size + 1) (frz_nil w5 w3.heap.size) (by omega) (by omega) HB5.out
        injection he with he
        injection he with he
        injection he with _ he
        injection he with he
        injection he with e1 e2 e3
        subst e1 e2 e3
        refine bodyPost_ret (v := .tuple #[.agg #[.bool false, .slice none 0 0], .int .i64 0]) ?_ rfl ⟨_, rfl, by rw [HD0.out]; exact f1, f2⟩
        simp [results, Try.results48, go_sem, z0, z1]
      · have H5 := Lib.hid h5
        clear h5
        go_wp2_with fail
        go_roundw
        case rel => exact ⟨c + 1, _, by omega, by go_num, H5.out, HF5.out⟩
        case measure => simp [intOf]; omega
    · obtain rfl : c = R := by omega
      obtain ⟨B', σ, G, last, tn, h1, h2, h3⟩ := hr
      have hdet := h2.det
      obtain ⟨s, mv, ⟨l0, l0'⟩, ⟨l1, l1'⟩, hlz, hlo⟩ := h1.c3
      obtain ⟨am, an, ac, rfl⟩ := hlz.agg
      have d2 := h1.c2.1
      have HLZ := Lib.hid hlz
      have HBR := Lib.hid hBr
      have HD2 := Lib.hid (HD.out.trans hdet)
      clear h1 h2 h3 hlz hlo hf hBr l0' l1' hdet HD c0 c1 c2
      cases tn
      · rw [if_neg (by decide)] at HD2
        have hl := zLeast_any _ last wr HLZ.out
        rw [← HD2.out] at hl
        have HL := Lib.hid hl
        clear hl HLZ
        go_wp2_with fail
        (refine HL.out.mono ?_)
        rintro e w6 ⟨v, rfl, hf6, hb6⟩
        replace z2 := froz_stays hb6 z0 z2
        replace z3 := froz_stays hb6 z1 z3
        replace z0 := cell_stays hb6 z0
        replace z1 := cell_stays hb6 z1
        obtain ⟨a', n', c', rfl, f1, f2⟩ := det_fin (b := w.heap.size + 1) hf6 (by omega) (by omega) (HBR.out.trans (hb6.mono HBR.out.size))
        have F1 := Lib.hid f1
        have F2 := Lib.hid f2
        clear f1 f2 hf6 hb6 HL
        go_wp2_with fail
        refine bodyPost_ret (v := .tuple #[.agg #[.bool (decide (D < 0)), .slice a' n' c'], .int .i64 0]) ?_ rfl ⟨_, rfl, F1.out, F2.out⟩
        simp [results, Try.results48, go_sem, z0, z1]
      · rw [if_pos rfl] at HD2
        have hl := zNeg_any _ last wr HLZ.out
        rw [← HD2.out] at hl
        have HL := Lib.hid hl
        clear hl HLZ
        go_wp2_with fail
        (refine HL.out.mono ?_)
        rintro e w6 ⟨v, rfl, hf6, hb6⟩
        replace z2 := froz_stays hb6 z0 z2
        replace z3 := froz_stays hb6 z1 z3
        replace z0 := cell_stays hb6 z0
        replace z1 := cell_stays hb6 z1
        obtain ⟨a', n', c', rfl, f1, f2⟩ := det_fin (b := w.heap.size + 1) hf6 (by omega) (by omega) (HBR.out.trans (hb6.mono HBR.out.size))
        have F1 := Lib.hid f1
        have F2 := Lib.hid f2
        clear f1 f2 hf6 hb6 HL
        go_wp2_with fail
        refine bodyPost_ret (v := .tuple #[.agg #[.bool (decide (D < 0)), .slice a' n' c'], .int .i64 0]) ?_ rfl ⟨_, rfl, F1.out, F2.out⟩
        simp [results, Try.results48, go_sem, z0, z1]
end Go.Proofs.Ytejliecmdkmgiaa
namespace Go.Proofs.Ytejliecmdkmgiaa
open Go.RowKit
theorem below_keep {B : Nat} {w w' : World} (h : Below B w w') {b i : Nat} {u : Value} (hb : b < B) (hu : w.cell? ⟨b, i, none⟩ = some u) : w'.cell? ⟨b, i, none⟩ = some u := by rw [h.cell hb]; exact hu
theorem boxM (w : World) (a0 a1 a2 : Value) :
    let W := w.alloc (.cells #[a0, a1, a2] 24)
    (W.cell? ⟨w.heap.size, 0, none⟩ = some a0 ∧ W.cell? ⟨w.heap.size, 1, none⟩ = some a1 ∧ W.cell? ⟨w.heap.size, 2, none⟩ = some a2) ∧ Below w.heap.size w W ∧ W.heap.size = w.heap.size + 1 := by
  intro W
  have k1 := three_cells w a0 a1 a2 24
  exact ⟨⟨(k1 0 _ rfl).1, (k1 1 _ rfl).1, (k1 2 _ rfl).1⟩, (Below.refl _ _).alloc (Nat.le_refl _) _, by simp [W]⟩
theorem Pivots_own (R C S : Nat) (sl : Value) (A : Nat → Int) (w : World) (hR : R ≤ 64) (hC : C ≤ 64) (hS : S ≤ 268435456) (hr : RdE w sl (R * C) A) (hA : ∀ q, q < R * C → ZB S (A q)) :
    Calls Try.prog 126 #[.agg #[.int .i64 R, .int .i64 C, sl]] w fun e w' => ∃ r P v, e = .returned (.tuple #[v, .int .i64 0]) ∧ PivQ R C r P (fun i j => A (i * C + j)) ∧ FrA .i64 3 w' w.heap.size v r (fun i => (P i : Int)) ∧ Below w.heap.size w w' ∧ CapOk v := by
  have hK4 : R * C ≤ 4096 := Nat.mul_le_mul hR hC
  obtain ⟨a, cap, rfl, hcap⟩ := hr.slice
  obtain ⟨⟨c0, c1, c2⟩, hB, hsz⟩ := boxM w (.int .i64 R) (.int .i64 C) (.slice a (R * C) cap)
  have hck := fun (u : World) => Check_any R C a (R * C) cap (by omega) u
  rw [checkE_ok hR hC rfl] at hck
  have hof := fun (u : World) (hu : Below w.heap.size w u) => of_any R C (.slice a (R * C) cap) A u hR hC (hr.below hu)
  have hA' : ∀ i j, i < R → j < C → ZB S (A (i * C + j)) := fun i j hi hj => hA _ (idx_lt hi hj rfl).1
  generalize R * C = K at *
  have HCK := Lib.hid hck
  have HOF := Lib.hid hof
  have HB := Lib.hid hB
  have HSZ := Lib.hid hsz
  have HA := Lib.hid hA'
  clear hck hof hB hsz hr hA hA'
  go_enter Try.func126, Try.ntmps126
  go_upto_region 1 with fail
  generalize w.alloc (.cells #[.int .i64 R, .int .i64 C, .slice a K cap] 24) = W at *
  go_wp2_with fail
  (refine (HCK.out W).mono ?_)
  rintro e w3 ⟨rfl, hb3⟩
  have HB3 := Lib.hid (HB.out.trans (hb3.mono HB.out.size))
  have HS3 := Lib.hid (show w.heap.size + 1 ≤ w3.heap.size by have := HSZ.out; have := hb3.size; omega)
  replace c0 := cell_stays hb3 c0
  replace c1 := cell_stays hb3 c1
  replace c2 := cell_stays hb3 c2
  clear hb3 HCK HSZ HB
  go_upto_region 4 with fail
  have ht3 : w.heap.size < w3.heap.size := by have := HS3.out; omega
  go_region_held3 (fun w' => w'.cell? ⟨w.heap.size, 0, none⟩ = some (.int .i64 R) ∧ w'.cell? ⟨w.heap.size, 1, none⟩ = some (.int .i64 C) ∧ w'.cell? ⟨w.heap.size, 2, none⟩ = some (.slice a K cap))
    (first
      | exact ⟨cell_stays hb4 c0, cell_stays hb4 c1, cell_stays hb4 c2⟩
      | exact ⟨below_keep hb5 ht3 (cell_stays hb4 c0), below_keep hb5 ht3 (cell_stays hb4 c1), below_keep hb5 ht3 (cell_stays hb4 c2)⟩
      | go_keep)
    (first
      | (go_at_call 115; (first | (with_reducible refine (HOF.out w3 HB3.out).mono ?_) | (with_reducible refine (HOF.out w3.drew HB3.out.drew).mono ?_)); rintro e w4 ⟨fb, B, rs, ns, rfl, hfl, hb4a⟩
         have hb4 : Below w3.heap.size w3 w4 := by first | exact hb4a | exact below_drew hb4a
         have hfl : Fl (fun _ => False) w4 w3.heap.size fb R C B (fun i j => A (i * C + j)) false 1 0 rs ns := hfl
         have hrun : RunS (fun _ => False) w3.heap.size w4.heap.size fb R C S (fun i j => A (i * C + j)) rs ns 0 0 (fun i => i) w4 := ⟨B, _, _, _, _, hfl, BrZ.start R C _ _, fun b hb => hfl.lt hb⟩
         have HRUN := Lib.hid hrun
         clear hfl hb4a hrun)
      | (go_at_call 170; (with_reducible refine (run_own w4 w3.heap.size fb R C S _ rs ns (fun i => i) hR hC hS HA.out HRUN.out).mono ?_); rintro e w5 ⟨r, P, v, rfl, hp, hfv, hb5a, hco⟩
         have hb5 : Below w3.heap.size w4 w5 := hb5a
         have HP := Lib.hid hp
         have HFV := Lib.hid hfv
         have HCO := Lib.hid hco
         clear hp hfv hb5a hco))
  all_goals
    go_wp2_with fail
    go_ret2
    exact ⟨r, P, v, rfl, HP.out, HFV.out.mono (by have := HB3.out.size; have := hb4.size; omega), HB3.out.trans ((hb4.trans hb5).mono (by have := HB3.out.size; omega)), HCO.out⟩
theorem Pivots_good (R C S : Nat) (sl : Value) (A : Nat → Int) (w : World) (hR : R ≤ 64) (hC : C ≤ 64) (hS : S ≤ 268435456) (hr : RdE w sl (R * C) A) (hA : ∀ q, q < R * C → ZB S (A q)) :
    Calls Try.prog 126 #[.agg #[.int .i64 R, .int .i64 C, sl]] w fun e w' => ∃ r P v, e = .returned (.tuple #[v, .int .i64 0]) ∧ PivQ R C r P (fun i j => A (i * C + j)) ∧ FrA .i64 3 w' w.heap.size v r (fun i => (P i : Int)) ∧ Below w.heap.size w w' :=
  (Pivots_own R C S sl A w hR hC hS hr hA).mono fun e w' ⟨r, P, v, h1, h2, h3, h4, _⟩ => ⟨r, P, v, h1, h2, h3, h4⟩
end Go.Proofs.Ytejliecmdkmgiaa
namespace Go.Proofs.Ytejliecmdkmgiaa
open Go.RowKit
theorem Rank_good (R C S : Nat) (sl : Value) (A : Nat → Int) (w : World) (hR : R ≤ 64) (hC : C ≤ 64) (hS : S ≤ 268435456) (hr : RdE w sl (R * C) A) (hA : ∀ q, q < R * C → ZB S (A q)) :
    Calls Try.prog 61 #[.agg #[.int .i64 R, .int .i64 C, sl]] w fun e w' => ∃ r P, e = .returned (.tuple #[.int .i64 (r : Nat), .int .i64 0]) ∧ PivQ R C r P (fun i j => A (i * C + j)) ∧ Below w.heap.size w w' := by
  obtain ⟨a, cap, rfl, hcap⟩ := hr.slice
  obtain ⟨⟨c0, c1, c2⟩, hB, hsz⟩ := boxM w (.int .i64 R) (.int .i64 C) (.slice a (R * C) cap)
  have hpi := Pivots_good R C S _ A _ hR hC hS (hr.below hB) hA
  generalize R * C = K at *
  have HPI := Lib.hid hpi
  have HB := Lib.hid hB
  clear hpi hB hsz hr hA
  go_enter Try.func61, Try.ntmps61
  go_upto_region 1 with fail
  generalize w.alloc (.cells #[.int .i64 R, .int .i64 C, .slice a K cap] 24) = W at *
  go_wp2_with fail
  (refine HPI.out.mono ?_)
  rintro e w3 ⟨r, P, v, rfl, hp, hf, hb3⟩
  obtain ⟨la, lc, rfl⟩ := hf.slice
  have HP := Lib.hid hp
  have HB3 := Lib.hid (HB.out.trans (hb3.mono HB.out.size))
  clear hp hf hb3 HPI HB
  go_wp2_with fail
  go_ret2
  exact ⟨r, P, rfl, HP.out, HB3.out⟩
end Go.Proofs.Ytejliecmdkmgiaa
namespace Go.Proofs.Ytejliecmdkmgiaa
open Go.RowKit
theorem RdI64.below {w w' : World} {v : Value} {n : Nat} {f : Nat → Nat} (h : RdI64 w v n f) (hb : Below w.heap.size w w') : RdI64 w' v n f := RdA.below h hb
theorem Same_yes (x y : Value) (n : Nat) (f g : Nat → Int) (w : World) (hx : RdA .u64 w x n f) (hy : RdA .u64 w y n g) (hfg : ∀ i, i < n → f i = g i) :
    Calls Try.prog 84 #[x, y] w fun e w' => e = .returned (.bool true) ∧ Below w.heap.size w w' := by
  obtain ⟨a, cap, rfl, h1, h2, h3⟩ := wd_get hx
  obtain ⟨b, cap', rfl, g1, g2, g3⟩ := wd_get hy
  have H3 := Lib.hid h3
  have G3 : Hid (∀ i, i < n → ∃ b' o, b = some ⟨b', o, none⟩ ∧ w.cell? ⟨b', o + i, none⟩ = some (.int .u64 (f i))) := fun i hi => by rw [hfg i hi]; exact g3 i hi
  clear h3 g3 hx hy hfg
  go_enter Try.func84, Try.ntmps84
  go_wp2_with fail
  go_loopw [5] (fun kv wr => ∃ k : Nat, k ≤ n ∧ kv = .int .i64 k ∧ Below w.heap.size w wr) (fun kv _ => n - (intOf kv).toNat)
  case atStart => exact ⟨0, Nat.zero_le _, rfl, Below.refl _ _⟩
  case round =>
    obtain ⟨k, k1, rfl, hb⟩ := hrel
    by_cases hk : k < n
    · obtain ⟨b1, o1, rfl, hc⟩ := H3.out k hk
      obtain ⟨b2, o2, rfl, hd⟩ := G3.out k hk
      have hc := cell_stays hb hc
      have hd := cell_stays hb hd
      generalize f k = u at hc hd
      go_wp2_with fail
      go_region
      all_goals
        go_wp2_with fail
        go_roundw
        case rel => exact ⟨k + 1, by omega, by go_num, hb.drew⟩
        case measure => simp [intOf]; omega
    · go_wp2_with fail
      go_ret
      exact ⟨rfl, hb⟩
end Go.Proofs.Ytejliecmdkmgiaa
namespace Go.Proofs.Ytejliecmdkmgiaa
open Go.RowKit
theorem rdz_word (w : World) (b : Nat) (n : Int) (h0 : 0 ≤ n) (h1 : n ≤ 18446744073709551615) (hc : w.cell? ⟨b, 0, none⟩ = some (.int .u64 n)) : RdZ w (.agg #[.bool false, .slice (some ⟨b, 0, none⟩) 1 1]) n := by
  refine ⟨⟨false, 1, fun _ => n⟩, ⟨_, rfl, ⟨_, 1, rfl, Nat.le_refl _, (by decide : (1 : Nat) ≤ 17592186044416), fun _ => ⟨b, 0, rfl, fun j hj => ?_⟩⟩, fun i _ => ⟨h0, h1⟩⟩, ?_, (by decide : (1 : Nat) ≤ 274877906944)⟩
  · obtain rfl : j = 0 := by have : j < 1 := hj; omega
    exact hc
  · show (n + 18446744073709551616 * 0 : Int) = n
    omega
theorem RdL.rde {w : World} {v : Value} {n : Nat} {x : Nat → Raw} (h : RdL w v n x) (hn : n ≤ 1048576) (hx : ∀ i, i < n → (x i).n ≤ 274877906944) : RdE w v n (fun i => (x i).val) := by
  obtain ⟨a, cap, rfl, h1, h2, h3⟩ := h
  refine ⟨a, cap, rfl, h1, hn, fun h0 => ?_⟩
  obtain ⟨b, o, e, h4⟩ := h3 h0
  exact ⟨b, o, e, fun i hi => by
    obtain ⟨m, c1, c2, c3⟩ := h4 i hi
    exact ⟨(x i).neg, m, c1, c2, x i, ⟨m, rfl, c3⟩, rfl, hx i hi⟩⟩
theorem RdL.zbs {w : World} {v : Value} {n : Nat} {x : Nat → Raw} {S : Nat} (h : RdL w v n x) (hx : ∀ i, i < n → (x i).n ≤ S) : ∀ i, i < n → ZB S (x i).val := fun i hi => by
  obtain ⟨a, cap, rfl, h1, h2, h3⟩ := h
  obtain ⟨b, o, e, h4⟩ := h3 (by omega)
  obtain ⟨m, c1, c2, c3⟩ := h4 i hi
  exact (RdI.zb ⟨m, rfl, c3⟩).mono (hx i hi)
theorem check_cases (r c : Int) (n : Nat) : checkE r c n = 1 ∨ ∃ R C : Nat, r = R ∧ c = C ∧ R ≤ 64 ∧ C ≤ 64 ∧ n = R * C := by
  unfold checkE
  by_cases h : soundB r c n = true
  · obtain ⟨⟨a1, a2⟩, ⟨b1, b2⟩, e⟩ := soundB_yes h
    obtain ⟨R, rfl⟩ := Int.eq_ofNat_of_zero_le a1
    obtain ⟨C, rfl⟩ := Int.eq_ofNat_of_zero_le b1
    exact Or.inr ⟨R, C, rfl, rfl, by omega, by omega, by exact_mod_cast e⟩
  · exact Or.inl (if_neg h)
end Go.Proofs.Ytejliecmdkmgiaa
namespace Go.Proofs.Ytejliecmdkmgiaa
open Go.RowKit
theorem bl_refl (w : World) : Below w.heap.size w w := Below.refl _ _
theorem bl_drew (w : World) : Below w.heap.size w w.drew := (Below.refl _ _).drew
theorem bl_alloc (w : World) (o : Obj) : Below w.heap.size w (w.alloc o) := (Below.refl _ _).alloc (Nat.le_refl _) _
theorem below_via {w u w' : World} (h : Below w.heap.size w u) (b : Below u.heap.size u w') : Below w.heap.size w w' := h.trans (b.mono h.size)
section
variable {w0 w7 : World} {base lb n : Nat} {E : Nat → Int}
end
end Go.Proofs.Ytejliecmdkmgiaa
namespace Go.Proofs.Ytejliecmdkmgiaa
open Go.RowKit Go.ChangeShapes Go.WideShapes Go.Deep Go.Joins
theorem bulk_part {H : Type} {d : DataW H} {l : List (DataW H)} (h : d ∈ l) : Rows.uptoBulk d ≤ Rows.uptoBulkAll l := by
  induction l with
  | nil => cases h
  | cons x r ih =>
    simp only [Rows.uptoBulkAll]
    cases List.mem_cons.1 h with
    | inl e => subst e; omega
    | inr e => have := ih e; omega
theorem bulk_one {H : Type} (d : DataW H) : 1 ≤ Rows.uptoBulk d := by
  cases d with
  | lit l => cases l <;> simp [Rows.uptoBulk]
  | nil => simp [Rows.uptoBulk]
  | ptr d => simp [Rows.uptoBulk]
  | slice elems spare => simp [Rows.uptoBulk]
  | agg parts => simp [Rows.uptoBulk]
  | iface t d => simp [Rows.uptoBulk]
  | map entries => simp [Rows.uptoBulk]
  | held h => simp [Rows.uptoBulk]
theorem bulk_length {H : Type} (l : List (DataW H)) : l.length ≤ Rows.uptoBulkAll l := by
  induction l with
  | nil => simp
  | cons x r ih => have := bulk_one x; simp only [Rows.uptoBulkAll, List.length_cons]; omega
theorem bulk_row {H : Type} (n : Nat) (D : Nat → DataW H) (s : List (DataW H)) {B : Nat} (h : Rows.uptoBulk (.slice ((List.range n).map D) s) ≤ B) : n ≤ B ∧ ∀ i, i < n → Rows.uptoBulk (D i) ≤ B := by
  simp only [Rows.uptoBulk] at h
  have h1 := bulk_length ((List.range n).map D)
  rw [List.length_map, List.length_range] at h1
  refine ⟨by omega, fun i hi => ?_⟩
  have := bulk_part (List.mem_map.2 ⟨i, List.mem_range.2 hi, rfl⟩ : D i ∈ (List.range n).map D)
  omega
section
variable {H : Type} {enc : TypeId × Value → H} {w : World} {base : Nat} {spare : Nat → Bool} {held : Bool}
theorem add_none (b o i : Nat) : (⟨b, o, none⟩ : Addr).add i = ⟨b, o + i, none⟩ := by
  unfold Addr.add; split <;> simp_all
theorem open_words {n : Nat} {v : Value} {y : DataW H × List MemPlace} {B : Nat} (h : DataW.trod enc Try.prog w base spare held n 47 [v] = some y) (hB : Rows.uptoBulk y.1 ≤ B) (hB4 : B ≤ 4398046511104) :
    ∃ m f, RdW w v m f ∧ m ≤ B := by
  rcases open_slice1 Try.underlying47 (by kernel_rfl) h with ⟨e, -⟩ | ⟨a, len, cap, m, n', V, D, Pl, e, hb, hl, hm, hmm, hx, hc⟩
  · obtain rfl : v = .slice none 0 0 := by simpa using e
    exact ⟨0, fun _ => 0, ⟨⟨none, 0, rfl, Nat.le_refl _, Nat.zero_le _, fun h => absurd h (by omega)⟩, fun i hi => absurd hi (by omega)⟩, Nat.zero_le _⟩
  · obtain rfl : v = .slice (some a) len cap := by simpa using e
    subst hx
    have hlb := (bulk_row len D _ hB).1
    have hlm : len ≤ m := by rw [hmm]; split <;> omega
    have hv : ∀ i, i < len → ∃ z : Int, w.cell? (a.add i) = some (.int .u64 z) ∧ 0 ≤ z ∧ z ≤ 18446744073709551615 := fun i hi => by
      obtain ⟨h1, h2⟩ := hc i (by omega)
      obtain ⟨z, e1, -, hw⟩ := DataW.trod_int Try.underlying62 h2
      have e2 : V i = .int .u64 z := by simpa using e1
      rw [e2] at h1
      exact ⟨z, h1, bounds_u64 hw⟩
    obtain ⟨f, hf⟩ := choose_lt (α := Int) (p := fun i z => w.cell? (a.add i) = some (.int .u64 z) ∧ 0 ≤ z ∧ z ≤ 18446744073709551615) hv
    refine ⟨len, f, ⟨⟨some a, cap, rfl, hl, by omega, fun h0 => ?_⟩, fun i hi => (hf i hi).2⟩, hlb⟩
    obtain ⟨b, o, sp⟩ := a
    obtain rfl : sp = none := World.cell?_spot (hf 0 h0).1
    exact ⟨b, o, rfl, fun i hi => by have := (hf i hi).1; rw [add_none] at this; exact this⟩
instance rawB : Inhabited Raw := ⟨⟨false, 0, fun _ => 0⟩⟩
theorem open_list {n : Nat} {v : Value} {y : DataW H × List MemPlace} {B : Nat} (h : DataW.trod enc Try.prog w base spare held n 22 [v] = some y) (hB : Rows.uptoBulk y.1 ≤ B) (hB4 : B ≤ 4398046511104) :
    ∃ m x, RdL w v m x ∧ m ≤ B ∧ ∀ i, i < m → (x i).n ≤ B := by
  have hC : Try.prog.cellsOf 49 = 2 := by kernel_rfl
  rcases open_slice Try.underlying22 h with ⟨e, -⟩ | ⟨a, len, cap, m, n', D, Pl, e, hb, hl, hm, hmm, hx, hc⟩
  · obtain rfl : v = .slice none 0 0 := by simpa using e
    exact ⟨0, fun _ => ⟨false, 0, fun _ => 0⟩, ⟨none, 0, rfl, Nat.le_refl _, Nat.zero_le _, fun h => absurd h (by omega)⟩, Nat.zero_le _, fun i hi => absurd hi (by omega)⟩
  · obtain rfl : v = .slice (some a) len cap := by simpa using e
    subst hx
    rw [hC] at hc
    obtain ⟨hlb, hpb⟩ := bulk_row len D _ hB
    have hlm : len ≤ m := by rw [hmm]; split <;> omega
    have hv : ∀ i, i < len → ∃ r : Raw, (∃ mv, w.cell? (a.add (i * 2)) = some (.bool r.neg) ∧ w.cell? ((a.add (i * 2)).add 1) = some mv ∧ RdW w mv r.n r.f) ∧ r.n ≤ B := fun i hi => by
      obtain ⟨cs', h1, h2⟩ := hc i (by omega)
      obtain ⟨-, hcl, hat⟩ := World.cells?_some h1
      obtain ⟨y0, y1, n2, hx, -, g0, g1⟩ := trod_struct2 Try.underlying49 h2
      match cs', hcl with
      | [c0, c1], _ =>
        have q0 := hat 0 (by omega)
        have q1 := hat 1 (by omega)
        have hcb : Try.prog.cellsOf 4 = 1 := by kernel_rfl
        have hcw : Try.prog.cellsOf 47 = 1 := by kernel_rfl
        have g0 : DataW.trod enc Try.prog w base spare held n2 4 (List.take (Try.prog.cellsOf 4) [c0, c1]) = some y0 := g0
        have g1 : DataW.trod enc Try.prog w base spare held n2 47 (List.take (Try.prog.cellsOf 47) [c1]) = some y1 := g1
        rw [hcb] at g0
        rw [hcw] at g1
        have g0 : DataW.trod enc Try.prog w base spare held n2 4 [c0] = some y0 := g0
        have g1 : DataW.trod enc Try.prog w base spare held n2 47 [c1] = some y1 := g1
        obtain ⟨b, e1, -⟩ := DataW.trod_bool Try.underlying4 g0
        have e2 : c0 = .bool b := by simpa using e1
        have hpi := hpb i hi
        have e3 : D i = .agg [y0.1, y1.1] := congrArg Prod.fst hx
        rw [e3] at hpi
        simp only [Rows.uptoBulk, Rows.uptoBulkAll] at hpi
        obtain ⟨mm, f, hw, hmb⟩ := open_words (B := B) g1 (by omega) hB4
        refine ⟨⟨b, mm, f⟩, ⟨c1, ?_, q1, hw⟩, hmb⟩
        rw [← e2]; exact q0
    obtain ⟨x, hx⟩ := choose_lt (α := Raw) (h := hv)
    refine ⟨len, x, ⟨some a, cap, rfl, hl, by omega, fun h0 => ?_⟩, hlb, fun i hi => (hx i hi).2⟩
    obtain ⟨b, o, sp⟩ := a
    obtain ⟨⟨m0, c0, -⟩, -⟩ := hx 0 h0
    obtain rfl : sp = none := by simpa [Addr.add] using World.cell?_spot c0
    refine ⟨b, o, rfl, fun i hi => ?_⟩
    obtain ⟨⟨mi, k0, k1, k2⟩, -⟩ := hx i hi
    refine ⟨mi, ?_, ?_, k2⟩
    · rw [add_none] at k0; exact k0
    · rw [Go.Deep.add_add, add_none] at k1; exact k1
theorem open_mat {r : Reach} {b0 : Nat} {v : Value} {d : DataW H} {p : List MemPlace} {B : Nat} (hv : Value.okWide Try.prog w r b0 24 v) (h : DataW.Trod enc Try.prog w base spare held 24 v d p) (hB : Rows.uptoBulk d ≤ B) (hB4 : B ≤ 4398046511104) :
    ∃ (R C : Int) (s : Value) (n : Nat) (x : Nat → Raw), v = .agg #[.int .i64 R, .int .i64 C, s] ∧ RdL w s n x ∧ n ≤ B ∧ (∀ i, i < n → (x i).n ≤ B) ∧ (-9223372036854775808 ≤ R ∧ R ≤ 9223372036854775807) ∧ (-9223372036854775808 ≤ C ∧ C ≤ 9223372036854775807) := by
  obtain ⟨v0, v1, v2, y0, y1, y2, n, rfl, rfl, -, g0, g1, g2⟩ := open_agg3 Try.underlying24 (by kernel_rfl) (by kernel_rfl) hv h
  obtain ⟨R, e0, -, w0⟩ := DataW.trod_int Try.underlying3 g0
  obtain ⟨C, e1, -, w1⟩ := DataW.trod_int Try.underlying3 g1
  obtain rfl : v0 = .int .i64 R := by simpa using e0
  obtain rfl : v1 = .int .i64 C := by simpa using e1
  simp only [Rows.uptoBulk, Rows.uptoBulkAll] at hB
  obtain ⟨m, x, hr, h1, h2⟩ := open_list (B := B) g2 (by omega) hB4
  refine ⟨R, C, v2, m, x, rfl, hr, h1, h2, ?_, ?_⟩
  · simp [Lit.wf, IntKind.min, IntKind.max, IntKind.signed, IntKind.bits] at w0; omega
  · simp [Lit.wf, IntKind.min, IntKind.max, IntKind.signed, IntKind.bits] at w1; omega
end
end Go.Proofs.Ytejliecmdkmgiaa
namespace Go.Proofs.Ytejliecmdkmgiaa
open Go.RowKit Go.WideShapes Go.ChangeShapes
section
variable {H : Type} {enc : TypeId × Value → H} {P : Program}
theorem post_of_below {f : Func} {s : ChangeSpec} {apart fresh handsOn again : Bool} {W W' : World} {args : Array Value} {v : Value} {ds gs : List (DataW H)} {before pa pv : List MemPlace}
    (hW : DataW.Whole enc P f.params.toList s.vars apart W args.toList ds gs before)
    (hres : ∀ (b : Nat) (sp : Nat → Bool) (hd : Bool), DataW.TrodAll enc P W' b sp hd f.resultTypes.toList (v.resultList f.resultTypes.size) (s.fn H (ds ++ gs)).results [])
    (hargs : ∀ sp : Nat → Bool, (∀ p ∈ before, sp p.block = true) → DataW.TrodAll enc P W' 0 sp true f.params.toList args.toList (s.fn H (ds ++ gs)).args pa)
    (hvars : ∀ sp : Nat → Bool, (∀ p ∈ before, sp p.block = true) → DataW.TrodVars enc P W' sp s.vars (s.fn H (ds ++ gs)).vars pv)
    (hps : before = pa ++ pv) (hb : Below W.heap.size W W')
    (hok : ∀ (j : Nat) (t : TypeId) (r : Value), f.resultTypes[j]? = some t → (v.resultList f.resultTypes.size)[j]? = some r → Value.okWide P W' .any 0 t r) :
    s.post enc P f apart fresh handsOn again W args v W' := by
  have hlt : ∀ p ∈ before, p.block < W.heap.size := fun p hp => hW.lt p hp
  have hold : ∀ p ∈ before, (fun b => decide (b < W.heap.size)) p.block = true := fun p hp => by simpa using hlt p hp
  refine ⟨ds, gs, before, [], pa, pv, hW, hres _ _ _, hargs _ hold, hvars _ hold, World.keptBut_mono (fun p hp => ⟨hp, ?_⟩) (hb.frame (· ∈ before)), fun _ => ?_⟩
  · rw [hps, List.mem_append] at hp
    exact Or.inr hp
  · obtain ⟨_, _, _, _, _, hz, hn⟩ := hW
    refine ⟨hok, _, _, ([] ++ pa) ++ pv, ⟨[] ++ pa, pv, trodAll_append (hargs _ (fun _ _ => rfl)) (hres _ _ _), hvars _ (fun _ _ => rfl), rfl, ?_, ?_⟩, ?_⟩
    · intro b off hp
      have hin : MemPlace.cell b off ∈ before := by rw [hps]; simpa using hp
      rw [hb.frozen (hlt _ hin)]
      exact hz b off hin
    · intro ha
      have := hn ha
      rw [hps] at this
      simpa using this
    · intro p hp _
      rw [hps]
      simpa using hp
end
end Go.Proofs.Ytejliecmdkmgiaa
