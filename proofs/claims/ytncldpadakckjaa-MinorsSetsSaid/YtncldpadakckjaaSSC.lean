/- The walk of the law MinorsSets. The law MinorsSets where there is nothing to choose, and for any arguments. 'MinorsSets': for all numbers n, k and cut the law returns true and its arguments read as before. No condition. -/
import Derived.Test.YtncldpadakckjaaGP
import Derived.Deep.QuietTactic
import Derived.BigQuiet
import Derived.Test.YtncldpadakckjaaRows
import Derived.Test.YtncldpadakckjaaGH
import Derived.ProofKit
import Derived.OpenShut
import Derived.Carry
set_option linter.unusedVariables false
set_option linter.unusedSimpArgs false
namespace Go.Proofs.Ytncldpadakckjaa
open Go.RowKit Go.Shelf

attribute [local go_sem] Oper.semAt_some

theorem three_boxes (w : World) (a b c : Value) (t u x : TypeId) :
    let W := ((w.alloc (.cells #[a] t)).alloc (.cells #[b] u)).alloc (.cells #[c] x)
    (W.cell? ⟨w.heap.size, 0, none⟩ = some a ∧ W.frozen? ⟨w.heap.size, 0, none⟩ = false) ∧ (W.cell? ⟨w.heap.size + 1, 0, none⟩ = some b ∧ W.frozen? ⟨w.heap.size + 1, 0, none⟩ = false) ∧ (W.cell? ⟨w.heap.size + 1 + 1, 0, none⟩ = some c ∧ W.frozen? ⟨w.heap.size + 1 + 1, 0, none⟩ = false) ∧ Below w.heap.size w W ∧ W.heap.size = w.heap.size + 3 := by
  obtain ⟨h1, h2, h3, h4⟩ := two_boxes w a b t u
  have h5 := one_cell ((w.alloc (.cells #[a] t)).alloc (.cells #[b] u)) c x
  have b3 := bl_alloc ((w.alloc (.cells #[a] t)).alloc (.cells #[b] u)) (.cells #[c] x)
  rw [h4] at h5
  exact ⟨⟨cell_stays b3 h1.1, froz_stays b3 h1.1 h1.2⟩, ⟨cell_stays b3 h2.1, froz_stays b3 h2.1 h2.2⟩, h5, below_via h3 b3, by simp⟩

set_option maxHeartbeats 8000000 in
set_option maxRecDepth 100000 in
theorem SSets_good (N K : Nat) (cut : Int) (hN : N ≤ 64) (hK : K ≤ N) (hcut : -9223372036854775808 ≤ cut ∧ cut ≤ 9223372036854775807) (w : World) :
    Calls Try.prog 5 #[.int .i64 N, .int .i64 K, .int .i64 cut] w fun e w' => e = .returned (.bool true) ∧ Below w.heap.size w w' := by
  refine (callsIn_wide (n := 9)).1 ?_
  refine callsIn_of_wp_marks Try.func5 rfl trivial ?_ rfl
  simp only [Try.ntmps5, List.size_toArray, List.length_cons, List.length_nil, Nat.reduceAdd, Nat.reduceSub, Array.replicate_succ, Array.replicate_zero, List.push_toArray, List.append_toArray, List.nil_append, List.cons_append]
  obtain ⟨q0, q1, ⟨q2, q2'⟩, ⟨q3, q3'⟩, hB, hsz⟩ := four_boxes w (.int .i64 N) (.int .i64 K) (.int .i64 cut) (.bool false) 3 4
  have HB := Lib.hid hB
  have HSZ := Lib.hid hsz
  clear hB hsz
  gi_wp2
  generalize (((w.alloc (.cells #[.int .i64 N] 3)).alloc (.cells #[.int .i64 K] 3)).alloc (.cells #[.int .i64 cut] 3)).alloc (.cells #[.bool false] 4) = W at *
  refine ⟨trivial, (callsIn_wide.2 (awake14_any W)).mono ?_⟩
  rintro e w1 ⟨rfl, hb1⟩
  have HS1 := Lib.hid (show w.heap.size + 4 ≤ w1.heap.size by have := HSZ.out; have := hb1.size; omega)
  replace HB := Lib.hid (below_via HB.out hb1)
  replace q2' := froz_stays hb1 q2 q2'
  replace q3' := froz_stays hb1 q3 q3'
  replace q0 := cell_stays hb1 q0
  replace q1 := cell_stays hb1 q1
  replace q2 := cell_stays hb1 q2
  replace q3 := cell_stays hb1 q3
  clear hb1 HSZ
  gi_wp2
  refine ⟨trivial, (callsIn_wide.2 (below_any' cut hcut w1)).mono ?_⟩
  rintro e w2 ⟨⟨c, hc, rfl⟩, rfl⟩
  have g1 := gb_set w1 ⟨w.heap.size + 1 + 1, 0, none⟩ (.int .i64 c)
  have HB3 := Lib.hid (HB.out.grown g1 HB.out.size (fun b hb => by cases hb; show w.heap.size ≤ w.heap.size + 1 + 1; omega))
  have ho : ∀ {b : Nat} {x : Value}, w1.cell? ⟨b, 0, none⟩ = some x → b ≠ w.heap.size + 1 + 1 → (w1.setCell ⟨w.heap.size + 1 + 1, 0, none⟩ (.int .i64 c)).cell? ⟨b, 0, none⟩ = some x := fun hx hb => by
    rw [World.cell?_setCell_other _ _ _ _ (by intro e; injection e with e _ _; exact hb e.symm)]; exact hx
  have r0 := ho q0 (by omega)
  have r1 := ho q1 (by omega)
  have r2 := World.cell?_setCell_same _ _ (Value.int .i64 c) q2
  have r3 := ho q3 (by omega)
  have r3' : (w1.setCell ⟨w.heap.size + 1 + 1, 0, none⟩ (.int .i64 c)).frozen? ⟨w.heap.size + 1 + 1 + 1, 0, none⟩ = false := by rw [World.frozen?_setCell]; exact q3'
  have HS3 := Lib.hid (Nat.le_trans HS1.out g1.size)
  have HR := Lib.hid (And.intro r0 (And.intro r1 (And.intro r2 (And.intro r3 r3'))))
  clear r0 r1 r2 r3 r3' g1 ho HB HS1
  gi_wp2
  generalize w1.setCell ⟨w.heap.size + 1 + 1, 0, none⟩ (.int .i64 c) = w3 at *
  refine ⟨trivial, (callsIn_wide.2 (Sets_any N K w3)).mono ?_⟩
  rintro e w4 ⟨rfl, hw4⟩
  obtain ⟨⟨n0, -⟩, ⟨n1, -⟩, hb4, hs4⟩ := two_boxes w3 (.int .i64 N) (.int .i64 K) 3 3
  rw [← hw4] at n0 n1 hb4 hs4
  obtain ⟨r0, r1, r2, r3, r3'⟩ := HR.out
  replace r3' := froz_stays hb4 r3 r3'
  replace r0 := cell_stays hb4 r0
  replace r1 := cell_stays hb4 r1
  replace r2 := cell_stays hb4 r2
  replace r3 := cell_stays hb4 r3
  have HB4 := Lib.hid (below_via HB3.out hb4)
  have HS4 := Lib.hid (And.intro HS3.out hs4)
  clear hw4 hb4 hs4 HR HB3 HS3 q0 q1 q2 q2' q3 q3'
  have he : ∀ (lb : Array Value) (w : World), (binOp .eql 50 (.func (.func 71) #[] lb) .nilFunc).run Try.prog w = .ok (.bool false) w := fun _ _ => rfl
  gi_wp2
  refine ⟨trivial, (callsIn_wide.2 (Some_good K N w4 hN hK)).mono ?_⟩
  rintro e w5 ⟨hb5, g0, cap0, rfl, hwl⟩
  obtain ⟨p0, pg, p1, hb6, hs6⟩ := three_boxes w5 (.slice (some ⟨g0, 0, none⟩) 1 cap0) (.slice none 0 0) (.int .i64 0) 52 52 3
  have hs5 := hb5.size
  replace r3' := froz_stays hb5 r3 r3'
  replace r0 := cell_stays hb5 r0
  replace r1 := cell_stays hb5 r1
  replace r2 := cell_stays hb5 r2
  replace r3 := cell_stays hb5 r3
  replace n0 := cell_stays hb5 n0
  replace n1 := cell_stays hb5 n1
  have HB5 := Lib.hid (below_via HB4.out hb5)
  have HWL := Lib.hid hwl
  have HT := Lib.hid (And.intro p0 (And.intro pg (And.intro p1 (And.intro hb6 (And.intro hs6 hs5)))))
  clear hb5 hwl p0 pg p1 hb6 hs6 hs5 HB4
  gi_wp2
  generalize hw6 : ((w5.alloc (.cells #[.slice (some ⟨g0, 0, none⟩) 1 cap0] 52)).alloc (.cells #[.slice none 0 0] 52)).alloc (.cells #[.int .i64 0] 3) = w6 at *
  obtain ⟨p0, ⟨pg, pg'⟩, p1, hb6, hs6, hs5⟩ := HT.out
  obtain ⟨hs3, hs4⟩ := HS4.out
  replace r3' := froz_stays hb6 r3 r3'
  replace r0 := cell_stays hb6 r0
  replace r1 := cell_stays hb6 r1
  replace r2 := cell_stays hb6 r2
  replace r3 := cell_stays hb6 r3
  replace n0 := cell_stays hb6 n0
  replace n1 := cell_stays hb6 n1
  obtain ⟨nb, hnb⟩ : ∃ nb, nb = w3.heap.size := ⟨_, rfl⟩
  obtain ⟨kb, hkb⟩ : ∃ kb, kb = w3.heap.size + 1 := ⟨_, rfl⟩
  obtain ⟨bw, hbw⟩ : ∃ bw, bw = w5.heap.size := ⟨_, rfl⟩
  obtain ⟨bg, hbg⟩ : ∃ bg, bg = w5.heap.size + 1 := ⟨_, rfl⟩
  obtain ⟨bi, hbi⟩ : ∃ bi, bi = w5.heap.size + 1 + 1 := ⟨_, rfl⟩
  rw [← hnb] at n0
  rw [← hkb] at n1
  rw [← hbw] at p0
  rw [← hbi] at p1
  rw [← hbg] at pg pg'
  have hI0 : AgB w nb kb bw bi N K c ((0 : Nat) : Int) (.slice (some ⟨g0, 0, none⟩) 1 cap0) w6 := ⟨below_via HB5.out hb6, by omega, by omega, by omega, ⟨by omega, by omega, by omega⟩, ⟨by omega, by omega, by omega⟩, r0, r1, r2, ⟨r3, r3'⟩, p1, p0, n0, n1⟩
  have hWn : Wnt w6 w.heap.size (fun b => Sep w nb kb bw bi w6.heap.size b ∧ b ≠ bg) (.slice (some ⟨g0, 0, none⟩) 1 cap0) N K 0 :=
    ⟨fun _ => wn1_start HWL.out hb6 (by omega) (fun b h1 h2 => ⟨⟨by omega, by omega, by omega, by omega, by omega, by omega, by omega, by omega⟩, by omega⟩), fun ⟨s, hs, _⟩ => absurd hs (by omega)⟩
  have HI0 := Lib.hid hI0
  have HWN := Lib.hid hWn
  have HGB := Lib.hid (show w.heap.size + 4 ≤ bg ∧ bg < w6.heap.size ∧ bg ≠ nb ∧ bg ≠ kb ∧ bg ≠ bw ∧ bg ≠ bi ∧ g0 ≠ bg ∧ g0 ≠ nb ∧ g0 ≠ kb ∧ g0 ≠ bw ∧ g0 ≠ bi ∧ g0 < w6.heap.size ∧ w.heap.size + 4 ≤ g0 by
    obtain ⟨u, hh, -⟩ := HWL.out
    have h8 := World.ownsRow.lt hh g0 rfl
    omega)
  have HPG := Lib.hid (And.intro pg pg')
  have HSB := Lib.hid (show bi < w6.heap.size ∧ bw < w6.heap.size ∧ nb < w6.heap.size ∧ kb < w6.heap.size by omega)
  rw [← hkb, ← hnb, ← hbi, ← hbg, ← hbw]
  clear hnb hkb hbw hbi hbg pg pg' hI0 hWn r0 r1 r2 r3 r3' n0 n1 p0 p1 hb6 hs6 hs5 hs3 hs4 HT HS4 HWL HB5 hw6
  refine range_stops (n := 9) (by omega) (gf := 71) (lb := #[.pointer (some ⟨nb, 0, none⟩), .pointer (some ⟨kb, 0, none⟩)]) rfl (enters_of Try.func71 (by kernel_rfl) rfl) rfl
    (fun t => ∃ s, t = s + 1 ∧ (∀ r, r < s → ¬ LastS N K r) ∧ LastS N K s) (RowS (w6.heap.size + 1) N K) (fun t W0 W W' v h hg => h.put hg)
    (fun t W => t ≤ 100002 ∧ (∃ wv, AgB w nb kb bw bi N K c (t : Nat) wv W ∧ Wnt W w.heap.size (fun b => Sep w nb kb bw bi w6.heap.size b ∧ b ≠ bg) wv N K t ∧ ∃ n, wv = .slice (some ⟨g0, 0, none⟩) n cap0) ∧
      ∃ gv L, (W.cell? ⟨bg, 0, none⟩ = some gv ∧ W.frozen? ⟨bg, 0, none⟩ = false) ∧ GotS W w.heap.size (fun b => Sep w nb kb bw bi w6.heap.size b ∧ b ≠ bg ∧ b ≠ g0) gv (min t 400) K N L)
    (fun j W => j = .exit 0 ∧ ∃ (t : Nat) (wv : Value), ((c ≤ t ∧ 0 < t) ∧ ∀ s, s < t → ¬ LastS N K s) ∧ AgB w nb kb bw bi N K c (t : Nat) wv W ∧
      ∃ gv L, (W.cell? ⟨bg, 0, none⟩ = some gv ∧ W.frozen? ⟨bg, 0, none⟩ = false) ∧ GotS W w.heap.size (fun b => Sep w nb kb bw bi w6.heap.size b ∧ b ≠ bg ∧ b ≠ g0) gv (min t 400) K N L) ?inv ?invx ?seq ⟨Nat.zero_le _, ⟨_, HI0.out, HWN.out, _, rfl⟩, _, fun _ => .slice none 0 0, HPG.out, GotS.start _ _ _ _ _ _⟩ ?round ?done ?stop
  case inv =>
    rintro t W W' r ⟨ht, ⟨wv, h1, h2, h3⟩, gv, L, ⟨h4, h5⟩, h6⟩ hg hr
    have hb := HSB.out
    have hgb := HGB.out
    have hl := h1.li
    refine ⟨ht, ⟨wv, h1.grown hg (fun b e => by rcases hr b e with h | h <;> (have := h1.lw; have := h1.ln; have := h1.lk; omega)), h2.grown hg (fun b e hs => by
      obtain ⟨-, -, -, -, -, -, k1, k2⟩ := hs.1
      rcases hr b e with h | h
      · exact k1 h
      · exact k2 h), h3⟩, gv, L, ⟨hg.cell h4 (fun e => by rcases hr _ e.symm with h | h <;> (have h : bg = _ := h; omega)), (World.frozen?_of_block (w := W) (a := ⟨bg, 0, none⟩) (hg.block bg (World.block_lt_of_cell? _ _ h4) (fun e => by rcases hr _ e.symm with h | h <;> omega))).trans h5⟩, h6.grown hg (fun b e hs => by
      obtain ⟨-, -, -, -, -, -, k1, k2⟩ := hs.1
      rcases hr b e with h | h
      · exact k1 h
      · exact k2 h)⟩
  case invx =>
    rintro j W W' r ⟨rfl, t, wv, ht, h1, gv, L, ⟨h4, h5⟩, h6⟩ hg hr
    have hb := HSB.out
    have hgb := HGB.out
    have hl := h1.li
    refine ⟨rfl, t, wv, ht, h1.grown hg (fun b e => by have := hr b e; have := h1.lw; have := h1.ln; have := h1.lk; omega), gv, L, ⟨hg.cell h4 (fun e => by have h : bg = _ := hr _ e.symm; omega), (World.frozen?_of_block (w := W) (a := ⟨bg, 0, none⟩) (hg.block bg (World.block_lt_of_cell? _ _ h4) (fun e => by have := hr _ e.symm; omega))).trans h5⟩, h6.grown hg (fun b e hs => by
      obtain ⟨-, -, -, -, -, -, k1, k2⟩ := hs.1
      exact k1 (hr b e))⟩
  case seq =>
    intro l J Jx W hW j1 j2 j3 j4
    refine (sets1_in 8 (by omega) nb kb N K (w6.heap.size + 2) hN hK l J Jx W hW.symm j1 (fun t W h => ?_) (fun t W0 W h1 h2 h3 h4 h5 h6 h7 => j3 t W0 W _ ⟨h1, h4, h6, rfl, h7, gb_below h5 _⟩ h2 h3) j4).mono ?_
    · obtain ⟨-, ⟨wv, h, -⟩, -⟩ := j2 t W h
      exact ⟨h.nn, h.kk⟩
    · rintro e W' ⟨hv, (⟨t, h1, h2, h3⟩ | h)⟩
      · exact ⟨hv, Or.inl ⟨t + 1, ⟨t, rfl, h1, h2⟩, h3⟩⟩
      · exact ⟨hv, Or.inr h⟩
  case round =>
    intro l t v
    refine ⟨_, fun W K0 hK => by gi_wp2; exact hK, ?_⟩
    rintro W0 W ⟨ht, ⟨wv, ha0, hw0, nw, hwv⟩, gv, L, ⟨hgc, hgf⟩, hgot⟩ - ⟨hl, hX, hlt, rfl, hv, hgr⟩
    have hmix : Try.prog.follows .mixedOrders = true := by kernel_rfl
    have hK64 : K ≤ 64 := by omega
    have hb1 := HSB.out
    have hb2 := HGB.out
    have ha := ha0.grown hgr (fun b e => by cases e; have := ha0.lw; have := ha0.ln; have := ha0.lk; omega)
    have hw := ((hw0.1 hl).sep (Sp' := fun b => Sep w nb kb bw bi w6.heap.size b ∧ b ≠ bg ∧ b ≠ W0.heap.size) (fun b h1 h2 => ⟨h2.1, h2.2, by omega⟩)).grown hgr (fun b e hs => by cases e; exact hs.1.2.2.2.2.2.2.1 rfl)
    have hgo := (hgot.sep (Sp' := fun b => (Sep w nb kb bw bi w6.heap.size b ∧ b ≠ bg ∧ b ≠ g0) ∧ b ≠ W0.heap.size) (fun b h1 h2 => ⟨h2, by omega⟩)).grown hgr (fun b e hs => by cases e; exact hs.1.1.2.2.2.2.2.2.1 rfl)
    have hgc1 : W.cell? ⟨bg, 0, none⟩ = some gv := hgr.cell hgc (fun e => by injection e with e; have h : bg = w6.heap.size + 1 := e; omega)
    have hgf1 : W.frozen? ⟨bg, 0, none⟩ = false := (World.frozen?_of_block (w := W0) (a := ⟨bg, 0, none⟩) (hgr.block bg (World.block_lt_of_cell? _ _ hgc) (fun e => by injection e with e; omega))).trans hgf
    have hXW : w6.heap.size + 2 < W.heap.size := by omega
    obtain ⟨s4, s4'⟩ := ha.ci
    have s5 := ha.cc
    have HGO := Lib.hid hgo
    have HA := Lib.hid ha
    have HW := Lib.hid hw
    have HL := Lib.hid hl
    have HV := Lib.hid hv
    have HGC := Lib.hid (And.intro hgc1 hgf1)
    clear ha hw hl hv ha0 hw0 hgot hgo hgc hgf hgr
    by_cases hbk : c ≤ t ∧ 0 < t
    · have k1 : (c : Int) ≤ (t : Int) := by omega
      have k2 : (0 : Int) < (t : Int) := by omega
      have HBK := Lib.hid hbk
      clear hbk
      gi_wp2
      exact ⟨KeepsOthers.refl _, rfl, t, wv, ⟨HBK.out, HL.out⟩, HA.out, gv, L, HGC.out, HGO.out.sep (fun b _ h => h.1)⟩
    have htc : t + 1 ≤ 100002 := by omega
    obtain ⟨u, g, cap, hwq, gu, hu, hsp⟩ := HW.out.elem
    rw [hwq] at hwv
    simp only [Value.slice.injEq, Option.some.injEq, Addr.mk.injEq, and_true] at hwv
    obtain ⟨rfl, rfl, rfl⟩ := hwv
    subst hwq
    have HLN := Lib.hid (LikeNums_yes _ _ K (setS N K t) W hK64 (HV.out.read hK64) (hu.read hK64))
    obtain ⟨s0, s0'⟩ := HA.out.cw
    have HU := Lib.hid hu
    clear hu
    have HBB : ∀ (P : Prop), ((¬ (c : Int) ≤ (t : Int)) → P) → (((c : Int) ≤ (t : Int)) → (¬ (0 : Int) < (t : Int)) → P) → P := fun P h1 h2 => by
      by_cases h : (c : Int) ≤ (t : Int)
      · exact h2 h (by omega)
      · exact h1 h
    have HB0 := Lib.hid HBB
    clear HBB hbk
    refine HB0.out _ (fun k1 => ?_) (fun k1 k2 => ?_)
    · gi_wp2
      refine ⟨trivial, (CallsIn.inRound l (callsIn_wide.2 HLN.out)).mono ?_⟩
      rintro e W2 ⟨rfl, hb2⟩
      have HA2 := Lib.hid (HA.out.below hb2)
      have HW2 := Lib.hid (HW.out.below hb2)
      have HU2 := Lib.hid (HU.out.below hb2)
      have HV2 := Lib.hid (HV.out.below hb2)
      have HGO2 := Lib.hid (HGO.out.below hb2)
      have HGC2 := Lib.hid (And.intro (cell_stays hb2 HGC.out.1) (froz_stays hb2 HGC.out.1 HGC.out.2))
      have HK2 := Lib.hid (Kx.below hb2 hXW)
      have hlt2 := Nat.lt_of_lt_of_le hXW hb2.size
      have hgW : g < W2.heap.size := Nat.lt_of_lt_of_le (World.block_lt_of_cell? _ _ gu) hb2.size
      have hlt3 : W0.heap.size < W2.heap.size := Nat.lt_of_lt_of_le hlt hb2.size
      replace gu := cell_stays hb2 gu
      obtain ⟨s0, s0'⟩ := HA2.out.cw
      obtain ⟨s4, s4'⟩ := HA2.out.ci
      have s1 := HA2.out.cn
      obtain ⟨s7, s7'⟩ := HGC2.out
      clear hb2 HLN HA HW HU HV HGO HGC
      obtain ⟨m, hm⟩ : ∃ m, m = min t 400 := ⟨_, rfl⟩
      rw [← hm] at HGO2
      obtain ⟨ga, gc, rfl⟩ := own_slice HGO2.out.own
      by_cases ht4 : t < 400
      · have hm4 : (m : Int) < 400 := by omega
        have hmt : m = t := by omega
        have hm1 : min (t + 1) 400 = m + 1 := by omega
        have HM := Lib.hid (And.intro hmt hm1)
        obtain ⟨i0, hi, hz0, hz1, hz2⟩ := info_parts infoNs
        have HI := Lib.hid (And.intro hi (And.intro hz0 (And.intro hz1 hz2)))
        have hmb : m ≤ 400 := by omega
        have HOWN := Lib.hid (own_below HGO2.out.own (bl_alloc W2 (.cells #[.slice (some ⟨W0.heap.size, 0, none⟩) K K] 25)))
        have hbase : w.heap.size ≤ (W2.alloc (.cells #[.slice (some ⟨W0.heap.size, 0, none⟩) K K] 25)).heap.size := by have := HA2.out.lw; simp; omega
        have HST := Lib.hid (fun (g9 cap9 : Nat) (W3 : World) (k1 : W3.ownsRow w.heap.size 25 1 (.slice (some ⟨g9, 0, none⟩) (m + 1) cap9) (m + 1) ((List.range m).map L ++ [.slice (some ⟨W0.heap.size, 0, none⟩) K K])) (k2 : (W2.alloc (.cells #[.slice (some ⟨W0.heap.size, 0, none⟩) K K] 25)).grownBy W3 (Value.slice ga m gc).ownBlock) (k3 : (Value.slice ga m gc).ownBlock = some g9 ∨ g9 = (W2.alloc (.cells #[.slice (some ⟨W0.heap.size, 0, none⟩) K K] 25)).heap.size) =>
          (show (W3.cell? ⟨bg, 0, none⟩ = some (.slice ga m gc) ∧ W3.frozen? ⟨bg, 0, none⟩ = false) ∧ AgB w nb kb bw bi N K c (t : Nat) (.slice (some ⟨g, 0, none⟩) 1 cap) W3 ∧ Wn1 W3 w.heap.size (fun b => Sep w nb kb bw bi w6.heap.size b ∧ b ≠ bg ∧ b ≠ W0.heap.size) (.slice (some ⟨g, 0, none⟩) 1 cap) K (setS N K t) ∧
              GotS W3 w.heap.size (fun b => Sep w nb kb bw bi w6.heap.size b ∧ b ≠ bg ∧ b ≠ g) (.slice (some ⟨g9, 0, none⟩) (m + 1) cap9) (m + 1) K N (fun k => if k = m then .slice (some ⟨W0.heap.size, 0, none⟩) K K else L k) ∧ Kx (w6.heap.size + 2) W W3 ∧ W3.cell? ⟨g, 0, none⟩ = some u ∧ NumL W3 w.heap.size u K (setS N K t) ∧ W2.heap.size ≤ W3.heap.size from by
            have gb : W2.grownBy W3 (Value.slice ga m gc).ownBlock := gb_trans (gb_below (bl_alloc W2 _) _) k2
            have hsp := fun b e => (HGO2.out.sp b e)
            have hlw := HA2.out.lw
            have hln := HA2.out.ln
            have hlk := HA2.out.lk
            have hli := HA2.out.li
            have hs3 : (W2.alloc (.cells #[.slice (some ⟨W0.heap.size, 0, none⟩) K K] 25)).heap.size = W2.heap.size + 1 := by simp
            have hgo1 := HGO2.out.sep (Sp' := fun b => Sep w nb kb bw bi w6.heap.size b ∧ b ≠ bg ∧ b ≠ g) (fun b _ h => h.1)
            refine ⟨⟨gb.cell HGC2.out.1 (fun e => (hsp _ e.symm).1.2.1 rfl), (World.frozen?_of_block (w := W2) (a := ⟨bg, 0, none⟩) (gb.block bg (World.block_lt_of_cell? _ _ HGC2.out.1) (fun e => (hsp _ e.symm).1.2.1 rfl))).trans HGC2.out.2⟩,
              HA2.out.grown gb (fun b e => by have h := (hsp b e).1.1; exact ⟨h.1, h.2.1, h.2.2.1, h.2.2.2.1, h.2.2.2.2.1⟩), HW2.out.got HGO2.out.own gb (fun e => (hsp _ e).1.2.2 rfl),
              hgo1.push (bl_alloc W2 _) k1 k2 (k3.imp id (fun e => ?_)) (HM.out.1 ▸ HV2.out.monoB (by omega)) (fun b hb => ?_) (fun k hk b h1 h2 => ?_), HK2.out.trans ⟨KeepsOthers.of_grownBy gb (rowc_cells HGO2.out.own), gb.block _ (by omega) (fun e => (hsp _ e.symm).1.1.2.2.2.2.2.2.2 rfl), gb.size⟩,
              gb.cell gu (fun e => (hsp _ e.symm).1.2.2 rfl), HU2.out.got HGO2.out.own gb, gb.size⟩
            · rw [hs3] at e
              exact ⟨⟨by omega, by omega, by omega, by omega, by omega, by omega, by omega, by omega⟩, by omega, by omega⟩
            · have e : W0.heap.size = b := by simpa [Value.ownBlock] using hb
              exact ⟨⟨by omega, by omega, by omega, by omega, by omega, by omega, by omega, by omega⟩, by omega, by have hb2 := HGB.out; omega⟩
            · have e : W0.heap.size = b := by simpa [Value.ownBlock] using h2
              exact (HGO2.out.lsp k hk b h1).2 e.symm))
        clear hm hmt hm1 hi hz0 hz1 hz2
        gi_upto_region 17 with (gi_at_builtin; refine wpListIn_append_lies _ (by rfl) _ _ 52 (by rfl) w.heap.size 25 i0 (.slice none 0 0) 1 24 Try.underlying52 HI.out.1 HI.out.2.1 HI.out.2.2.1 HI.out.2.2.2 rfl (by decide) (.slice ga m gc) m _ (by rfl) HOWN.out ⟨W2.heap.size, 0, none⟩ 1 1 [.slice (some ⟨W0.heap.size, 0, none⟩) K K] (by rfl) (by simp) (news_one _ _ _) (one_one rfl) (by omega) (by unfold maxLen; omega) (by omega) hbase _ rfl ?_; intro g9 cap9 W3 k1 k2 k3 k4; have HPP := Lib.hid (HST.out g9 cap9 W3 k1 k2 k3); obtain ⟨t0, t0'⟩ := HPP.out.1; clear k1 k2 k3 k4)
        have gD := gb_set W3 ⟨bg, 0, none⟩ (.slice (some ⟨g9, 0, none⟩) (m + 1) cap9)
        have HZ := Lib.hid (show ((W3.setCell ⟨bg, 0, none⟩ (.slice (some ⟨g9, 0, none⟩) (m + 1) cap9)).cell? ⟨bg, 0, none⟩ = some (.slice (some ⟨g9, 0, none⟩) (m + 1) cap9) ∧ (W3.setCell ⟨bg, 0, none⟩ (.slice (some ⟨g9, 0, none⟩) (m + 1) cap9)).frozen? ⟨bg, 0, none⟩ = false) ∧ AgB w nb kb bw bi N K c (t : Nat) (.slice (some ⟨g, 0, none⟩) 1 cap) (W3.setCell ⟨bg, 0, none⟩ (.slice (some ⟨g9, 0, none⟩) (m + 1) cap9)) ∧ Wn1 (W3.setCell ⟨bg, 0, none⟩ (.slice (some ⟨g9, 0, none⟩) (m + 1) cap9)) w.heap.size (fun b => Sep w nb kb bw bi w6.heap.size b ∧ b ≠ bg ∧ b ≠ W0.heap.size) (.slice (some ⟨g, 0, none⟩) 1 cap) K (setS N K t) ∧
            GotS (W3.setCell ⟨bg, 0, none⟩ (.slice (some ⟨g9, 0, none⟩) (m + 1) cap9)) w.heap.size (fun b => Sep w nb kb bw bi w6.heap.size b ∧ b ≠ bg ∧ b ≠ g) (.slice (some ⟨g9, 0, none⟩) (m + 1) cap9) (min (t + 1) 400) K N (fun k => if k = m then .slice (some ⟨W0.heap.size, 0, none⟩) K K else L k) ∧ Kx (w6.heap.size + 2) W (W3.setCell ⟨bg, 0, none⟩ (.slice (some ⟨g9, 0, none⟩) (m + 1) cap9)) ∧ W2.heap.size ≤ (W3.setCell ⟨bg, 0, none⟩ (.slice (some ⟨g9, 0, none⟩) (m + 1) cap9)).heap.size from by
          obtain ⟨⟨y1, y2⟩, ya, yw, yg, yk, -, -, ys⟩ := HPP.out
          have hgb := HGB.out
          exact ⟨⟨World.cell?_setCell_same _ _ _ y1, by rw [World.frozen?_setCell]; exact y2⟩, ya.grown gD (fun b e => by cases e; show _ ≤ bg ∧ bg ≠ nb ∧ bg ≠ kb ∧ bg ≠ bw ∧ bg ≠ bi; omega), yw.grown gD (fun b e hs => by cases e; exact hs.2.1 rfl), HM.out.2 ▸ yg.grown gD (fun b e hs => by cases e; exact hs.2.1 rfl), yk.trans (Kx.set W3 bg 0 _ (by have := HSB.out; omega)), Nat.le_trans ys gD.size⟩)
        clear HPP HST HOWN HI HM gD t0 t0' HU2 HV2 HGO2 HGC2 HA2 HW2 HK2
        generalize W3.setCell ⟨bg, 0, none⟩ (.slice (some ⟨g9, 0, none⟩) (m + 1) cap9) = Z at *
        obtain ⟨⟨y1, y1'⟩, ya, yw, yg, yk, ys⟩ := HZ.out
        obtain ⟨s4, s4'⟩ := ya.ci
        have gB := gb_set Z ⟨bi, 0, none⟩ (.int .i64 ((t : Int) + 1))
        have HA2 := Lib.hid (ya.puti ((t : Int) + 1))
        have hw3 := yw.grown gB (fun b e hs => by cases e; exact hs.1.2.2.2.2.1 rfl)
        have HW2 := Lib.hid hw3
        have HGO3 := Lib.hid (yg.grown gB (fun b e hs => by cases e; exact hs.1.2.2.2.2.1 rfl))
        have HGC3 := Lib.hid (show ((Z.setCell ⟨bi, 0, none⟩ (.int .i64 ((t : Int) + 1))).cell? ⟨bg, 0, none⟩ = some (.slice (some ⟨g9, 0, none⟩) (m + 1) cap9) ∧ (Z.setCell ⟨bi, 0, none⟩ (.int .i64 ((t : Int) + 1))).frozen? ⟨bg, 0, none⟩ = false) from ⟨gB.cell y1 (fun e => by injection e with e; have h : bg = bi := e; have := HGB.out; omega), by rw [World.frozen?_setCell]; exact y1'⟩)
        have HK2 := Lib.hid (yk.trans (Kx.set Z bi 0 (.int .i64 ((t : Int) + 1)) (by have := HSB.out; omega)))
        have hlt2 : w6.heap.size + 2 < (Z.setCell ⟨bi, 0, none⟩ (.int .i64 ((t : Int) + 1))).heap.size := Nat.lt_of_lt_of_le (Nat.lt_of_lt_of_le hXW yk.2.2) gB.size
        have hlt3 : W0.heap.size < (Z.setCell ⟨bi, 0, none⟩ (.int .i64 ((t : Int) + 1))).heap.size := Nat.lt_of_lt_of_le hlt (Nat.le_trans yk.2.2 gB.size)
        obtain ⟨u2, g2, cap2, e2, gu2, hu2, -⟩ := hw3.elem
        simp only [Value.slice.injEq, Option.some.injEq, Addr.mk.injEq, and_true, true_and] at e2
        obtain ⟨rfl, rfl⟩ := e2
        have hgW2 : g < (Z.setCell ⟨bi, 0, none⟩ (.int .i64 ((t : Int) + 1))).heap.size := World.block_lt_of_cell? _ _ gu2
        have HNX := Lib.hid (Next_any u2 K N (setS N K t) (Z.setCell ⟨bi, 0, none⟩ (.int .i64 ((t : Int) + 1))).drew hN hK ((hu2.read hK64).below (bl_drew _)) (setS_ris hK t HL.out))
        clear y1 y1' ya yw yg yk ys HZ hw3 hu2 gB hgW
        gi_wp2
        generalize Z.setCell ⟨bi, 0, none⟩ (.int .i64 ((t : Int) + 1)) = Z3 at *
        obtain ⟨s0, s0'⟩ := HA2.out.cw
        have s1 := HA2.out.cn
        refine region_round (fun x => x.cell? ⟨bw, 0, none⟩ = some (.slice (some ⟨g, 0, none⟩) 1 cap) ∧ x.cell? ⟨g, 0, none⟩ = some u2 ∧ x.cell? ⟨w.heap.size, 0, none⟩ = some (.int .i64 N)) 5 hmix (by kernel_rfl) (by rintro ⟨a', w', h'⟩; exact h') ?_
        have hS : Z3.drew.cell? ⟨bw, 0, none⟩ = some (.slice (some ⟨g, 0, none⟩) 1 cap) ∧ Z3.drew.cell? ⟨g, 0, none⟩ = some u2 ∧ Z3.drew.cell? ⟨w.heap.size, 0, none⟩ = some (.int .i64 N) := ⟨s0, gu2, s1⟩
        refine anyL_take (i := 0) (v := .slice (some ⟨g, 0, none⟩) 1 cap) rfl (by kernel_rfl) (by kernel_rfl) (by kernel_rfl) (by kernel_rfl) (fun _ _ _ h => h) (Or.inl ⟨by rfl, ?_⟩) hS ?_
        · intro u hu
          obtain ⟨u1, u2, u3⟩ := hu
          go_simp
        simp only [Act.put, List.setIfInBounds_toArray, List.set_cons_zero, List.set_cons_succ]
        refine anyL_pure (i := 1) (v := .pointer (some ⟨g, 0, none⟩)) rfl (by kernel_rfl) (by kernel_rfl) (by kernel_rfl) (by kernel_rfl) (fun _ _ _ h => h) (Or.inl ⟨by rfl, ?_⟩) hS ?_
        · intro u hu
          go_simp
        simp only [Act.put, List.setIfInBounds_toArray, List.set_cons_zero, List.set_cons_succ]
        refine anyL_take (i := 2) (v := u2) rfl (by kernel_rfl) (by kernel_rfl) (by kernel_rfl) (by kernel_rfl) (fun _ _ _ h => h) (Or.inl ⟨by rfl, ?_⟩) hS ?_
        · intro u hu
          obtain ⟨u1, u2, u3⟩ := hu
          go_simp
        simp only [Act.put, List.setIfInBounds_toArray, List.set_cons_zero, List.set_cons_succ]
        refine anyL_take (i := 3) (v := .int .i64 N) rfl (by kernel_rfl) (by kernel_rfl) (by kernel_rfl) (by kernel_rfl) (fun _ _ _ h => h) (Or.inl ⟨by rfl, ?_⟩) hS ?_
        · intro u hu
          obtain ⟨u1, u2, u3⟩ := hu
          go_simp
        simp only [Act.put, List.setIfInBounds_toArray, List.set_cons_zero, List.set_cons_succ]
        refine anyL_one (i := 4) (by kernel_rfl) rfl rfl fun K0 hK0 => ?_
        go_simp
        refine HNX.out.mono ?_
        rintro e W4 ⟨hb4a, hnx⟩
        have hb4 : Below Z3.heap.size Z3 W4 := below_via (bl_drew _) hb4a
        have HS4 := Lib.hid (show W4.cell? ⟨bw, 0, none⟩ = some (.slice (some ⟨g, 0, none⟩) 1 cap) ∧ W4.cell? ⟨g, 0, none⟩ = some u2 ∧ W4.cell? ⟨w.heap.size, 0, none⟩ = some (.int .i64 N) from ⟨cell_stays hb4 s0, cell_stays hb4 gu2, cell_stays hb4 s1⟩)
        have HA4 := Lib.hid (HA2.out.below hb4)
        have HW4 := Lib.hid (HW2.out.below hb4)
        have HGO4 := Lib.hid (HGO3.out.below hb4)
        have HGC4 := Lib.hid (And.intro (cell_stays hb4 HGC3.out.1) (froz_stays hb4 HGC3.out.1 HGC3.out.2))
        have HK4 := Lib.hid (HK2.out.trans (Kx.below hb4 hlt2))
        have HZ4 := Lib.hid hb4.size
        clear hb4a hb4 hS HNX HA2 HW2 HK2 HGO3 HGC3 s0 s0' gu2 s1
        obtain ⟨vn, rfl, hnv⟩ : ∃ vn, e = .returned vn ∧ ((hiI N K (setS N K t) K = 0 ∧ vn = .slice none 0 0) ∨ (0 < hiI N K (setS N K t) K ∧ ∃ g cap, vn = .slice (some ⟨g, 0, none⟩) K cap ∧ NumL W4 Z3.heap.size (.slice (some ⟨g, 0, none⟩) K cap) K (setS N K (t + 1)))) := by
          rcases hnx with ⟨h1, rfl⟩ | ⟨h1, g, cap, rfl, h2⟩
          · exact ⟨_, rfl, Or.inl ⟨h1, rfl⟩⟩
          · exact ⟨_, rfl, Or.inr ⟨h1, g, cap, rfl, h2⟩⟩
        have HNX := Lib.hid hnv
        clear hnx hnv
        refine hK0 _ _ (fun _ => HS4.out) ?_
        clear hK0 K0
        try simp only [Act.put, List.setIfInBounds_toArray, List.set_cons_zero, List.set_cons_succ]
        refine anyL_one (i := 5) (by kernel_rfl) rfl rfl fun K0 hK0 => ?_
        go_simp
        refine hK0 _ _ (fun e => absurd e (by decide)) ?_
        clear hK0 K0
        refine anyL_done (by kernel_rfl) ?_ _
        obtain ⟨s0, s0'⟩ := HA4.out.cw
        have gC := gb_set W4 ⟨bw, 0, none⟩ (.slice (some ⟨g, 0, none⟩) 0 cap)
        have HA5 := Lib.hid (HA4.out.putw (.slice (some ⟨g, 0, none⟩) 0 cap))
        have HW5 := Lib.hid ((HW4.out.grown gC (fun b e hs => by cases e; exact hs.1.2.2.2.1 rfl)).cut)
        have HGO5 := Lib.hid (HGO4.out.grown gC (fun b e hs => by cases e; exact hs.1.2.2.2.1 rfl))
        have HGC5 := Lib.hid (show ((W4.setCell ⟨bw, 0, none⟩ (.slice (some ⟨g, 0, none⟩) 0 cap)).cell? ⟨bg, 0, none⟩ = some (.slice (some ⟨g9, 0, none⟩) (m + 1) cap9) ∧ (W4.setCell ⟨bw, 0, none⟩ (.slice (some ⟨g, 0, none⟩) 0 cap)).frozen? ⟨bg, 0, none⟩ = false) from ⟨gC.cell HGC4.out.1 (fun e => by injection e with e; have h : bg = bw := e; have := HGB.out; omega), by rw [World.frozen?_setCell]; exact HGC4.out.2⟩)
        have HK5 := Lib.hid (HK4.out.trans (Kx.set W4 bw 0 (.slice (some ⟨g, 0, none⟩) 0 cap) (by have := HSB.out; omega)))
        have HZ5 := Lib.hid (Nat.le_trans HZ4.out gC.size)
        have HNX5 := Lib.hid (show (hiI N K (setS N K t) K = 0 ∧ vn = .slice none 0 0) ∨ (0 < hiI N K (setS N K t) K ∧ ∃ g' cap', vn = .slice (some ⟨g', 0, none⟩) K cap' ∧ NumL (W4.setCell ⟨bw, 0, none⟩ (.slice (some ⟨g, 0, none⟩) 0 cap)) Z3.heap.size (.slice (some ⟨g', 0, none⟩) K cap') K (setS N K (t + 1))) from by
          rcases HNX.out with h | ⟨h1, g', cap', h2, h3⟩
          · exact Or.inl h
          · exact Or.inr ⟨h1, g', cap', h2, World.ownsRow.kept h3 gC (Or.inr fun e => by
              have e1 : g' = bw := by simpa [Value.ownBlock] using e
              have e2 : Z3.heap.size ≤ g' := (World.ownsRow.lt h3 g' rfl).1
              have e3 := HSB.out.2.1
              omega)⟩)
        have HW4' := Lib.hid HW4.out
        clear HA4 HW4 HK4 HZ4 HNX HS4 HGO4 HGC4 gC
        have he0 : ∀ w : World, (binOp .neq 25 (.slice none 0 0) (.slice none 0 0)).run Try.prog w = .ok (.bool false) w := fun _ => rfl
        have he1 : ∀ (g n c : Nat) (w : World), (binOp .neq 25 (.slice (some ⟨g, 0, none⟩) n c) (.slice none 0 0)).run Try.prog w = .ok (.bool true) w := fun _ _ _ _ => rfl
        have r1 := HA5.out.ck
        have HRM := Lib.hid (HW4'.out.room)
        gi_upto_region 20 with fail
        generalize W4.setCell ⟨bw, 0, none⟩ (.slice (some ⟨g, 0, none⟩) 0 cap) = W5 at *
        obtain ⟨s2, s2'⟩ := HA5.out.cw
        rcases HNX5.out with ⟨hh, rfl⟩ | ⟨hh, g', cap', rfl, hn'⟩
        · have HA8 := Lib.hid HA5.out
          have HW8 := Lib.hid ((wn0_next HW5.out hh).sep (Sp' := fun b => Sep w nb kb bw bi w6.heap.size b ∧ b ≠ bg) (fun b h => ⟨h.1, h.2.1⟩))
          have HK8 := Lib.hid HK5.out
          clear HW5 HNX5 hh HA5 HK5 s2 s2'
          gi_wp2
          exact ⟨HK8.out.1, HK8.out.2.1, by omega, ⟨_, HA8.out, HW8.out, _, rfl⟩, _, _, HGC5.out, HGO5.out⟩
        · have hk0 : (0 : Int) < (K : Int) := by have := hiI_le N K (setS N K t) K; omega
          obtain ⟨i0, hi, hz0, hz1, hz2⟩ := info_parts infoNs
          have HI := Lib.hid (And.intro hi (And.intro hz0 (And.intro hz1 hz2)))
          obtain ⟨a0, c0, e0, ho, -⟩ := HW5.out
          simp only [Value.slice.injEq] at e0
          obtain ⟨rfl, -, rfl⟩ := e0
          have HO := Lib.hid (own_below ho (bl_alloc W5 (.cells #[.slice (some ⟨g', 0, none⟩) K cap'] 25)))
          have HN5 := Lib.hid hn'
          have HOO := Lib.hid ho
          have HST := Lib.hid (fun (W7 : World) (k1 : W7.ownsRow w.heap.size 25 1 (.slice (some ⟨g, 0, none⟩) (0 + 1) cap) (0 + 1) ([] ++ [.slice (some ⟨g', 0, none⟩) K cap'])) (k2 : (W5.alloc (.cells #[.slice (some ⟨g', 0, none⟩) K cap'] 25)).grownBy W7 (some g)) =>
            (show AgB w nb kb bw bi N K c ((t : Int) + 1) (.slice (some ⟨g, 0, none⟩) 0 cap) W7 ∧ Wn1 W7 w.heap.size (fun b => Sep w nb kb bw bi w6.heap.size b ∧ b ≠ bg ∧ b ≠ W0.heap.size) (.slice (some ⟨g, 0, none⟩) 1 cap) K (setS N K (t + 1)) ∧ Kx (w6.heap.size + 2) W W7 ∧ (W7.cell? ⟨bg, 0, none⟩ = some (.slice (some ⟨g9, 0, none⟩) (m + 1) cap9) ∧ W7.frozen? ⟨bg, 0, none⟩ = false) ∧ GotS W7 w.heap.size (fun b => Sep w nb kb bw bi w6.heap.size b ∧ b ≠ bg ∧ b ≠ g) (.slice (some ⟨g9, 0, none⟩) (m + 1) cap9) (min (t + 1) 400) K N (fun k => if k = m then .slice (some ⟨W0.heap.size, 0, none⟩) K K else L k) from by
              have gb : W5.grownBy W7 (some g) := gb_trans (gb_below (bl_alloc W5 _) _) k2
              have hb1 := HSB.out
              have hb2 := HA5.out.lw
              have hb3 := HA5.out.ln
              have hb4 := HA5.out.lk
              have hb5 := HA5.out.bel.size
              have hb6 := HZ5.out
              have hb7 := HGB.out
              refine ⟨HA5.out.grown gb (fun b e => by cases e; exact ⟨hsp.1.1, hsp.1.2.1, hsp.1.2.2.1, hsp.1.2.2.2.1, hsp.1.2.2.2.2.1⟩), wn1_push HN5.out (by omega) hsp (fun b h1 h2 => ⟨⟨by omega, by omega, by omega, by omega, by omega, by omega, by omega, by omega⟩, by omega, by omega⟩) hgW2 k1 k2, HK5.out.trans ⟨KeepsOthers.of_grownBy gb (rowc_cells HOO.out), gb.block _ (by omega) (fun e => by cases e; exact hsp.1.2.2.2.2.2.2.2 rfl), gb.size⟩,
                ⟨gb.cell HGC5.out.1 (fun e => by injection e with e; have h : g = bg := e.symm; omega), (World.frozen?_of_block (w := W5) (a := ⟨bg, 0, none⟩) (gb.block bg (World.block_lt_of_cell? _ _ HGC5.out.1) (fun e => by injection e with e; omega))).trans HGC5.out.2⟩, HGO5.out.grown gb (fun b e hs => by cases e; exact hs.2.2 rfl)⟩))
          clear hi hz0 hz1 hz2 ho hn' HW5 HNX5
          gi_upto_region 99 with (gi_at_builtin; refine wpListIn_append_fits _ (by rfl) _ _ 52 (by rfl) w.heap.size 25 i0 1 Try.underlying52 HI.out.1 HI.out.2.2.1 g 0 cap [] (by rfl) HO.out ⟨W5.heap.size, 0, none⟩ 1 1 [.slice (some ⟨g', 0, none⟩) K cap'] (by rfl) (by simp) (news_one _ _ _) (one_one rfl) HRM.out ?_; intro W7 k1 k2; have HKK := Lib.hid (HST.out W7 k1 k2); obtain ⟨t0, t0'⟩ := HKK.out.1.cw; clear k1 k2)
          have gE := gb_set W7 ⟨bw, 0, none⟩ (.slice (some ⟨g, 0, none⟩) 1 cap)
          have hgb := HGB.out
          obtain ⟨va, vw, vk, ⟨vc, vd⟩, vg⟩ := HKK.out
          have vk' := vk.trans (Kx.set W7 bw 0 (.slice (some ⟨g, 0, none⟩) 1 cap) (by have := HSB.out; omega))
          exact ⟨vk'.1, vk'.2.1, by omega, ⟨_, va.putw (.slice (some ⟨g, 0, none⟩) 1 cap), (wn1_next (vw.grown gE (fun b e hs => by cases e; exact hs.1.2.2.2.1 rfl)) HL.out hh).sep (Sp' := fun b => Sep w nb kb bw bi w6.heap.size b ∧ b ≠ bg) (fun b h => ⟨h.1, h.2.1⟩), _, rfl⟩, _, _, ⟨gE.cell vc (fun e => by injection e with e; have h : bg = bw := e; omega), by rw [World.frozen?_setCell]; exact vd⟩, vg.grown gE (fun b e hs => by cases e; exact hs.1.2.2.2.1 rfl)⟩
      · have hm4 : ¬ (m : Int) < 400 := by omega
        have hmt : m = min (t + 1) 400 := by omega
        have HZ := Lib.hid (show (W2.cell? ⟨bg, 0, none⟩ = some (.slice ga m gc) ∧ W2.frozen? ⟨bg, 0, none⟩ = false) ∧ AgB w nb kb bw bi N K c (t : Nat) (.slice (some ⟨g, 0, none⟩) 1 cap) W2 ∧ Wn1 W2 w.heap.size (fun b => Sep w nb kb bw bi w6.heap.size b ∧ b ≠ bg ∧ b ≠ W0.heap.size) (.slice (some ⟨g, 0, none⟩) 1 cap) K (setS N K t) ∧
            GotS W2 w.heap.size (fun b => Sep w nb kb bw bi w6.heap.size b ∧ b ≠ bg ∧ b ≠ g) (.slice ga m gc) (min (t + 1) 400) K N L ∧ Kx (w6.heap.size + 2) W W2 ∧ W2.heap.size ≤ W2.heap.size from
          ⟨HGC2.out, HA2.out, HW2.out, hmt ▸ HGO2.out.sep (fun b _ h => h.1), HK2.out, Nat.le_refl _⟩)
        clear hm hmt HU2 HV2 HGO2 HGC2 HA2 HW2 HK2
        gi_upto_region 17 with fail
        obtain ⟨⟨y1, y1'⟩, ya, yw, yg, yk, ys⟩ := HZ.out
        obtain ⟨s4, s4'⟩ := ya.ci
        have gB := gb_set W2 ⟨bi, 0, none⟩ (.int .i64 ((t : Int) + 1))
        have HA2 := Lib.hid (ya.puti ((t : Int) + 1))
        have hw3 := yw.grown gB (fun b e hs => by cases e; exact hs.1.2.2.2.2.1 rfl)
        have HW2 := Lib.hid hw3
        have HGO3 := Lib.hid (yg.grown gB (fun b e hs => by cases e; exact hs.1.2.2.2.2.1 rfl))
        have HGC3 := Lib.hid (show ((W2.setCell ⟨bi, 0, none⟩ (.int .i64 ((t : Int) + 1))).cell? ⟨bg, 0, none⟩ = some (.slice ga m gc) ∧ (W2.setCell ⟨bi, 0, none⟩ (.int .i64 ((t : Int) + 1))).frozen? ⟨bg, 0, none⟩ = false) from ⟨gB.cell y1 (fun e => by injection e with e; have h : bg = bi := e; have := HGB.out; omega), by rw [World.frozen?_setCell]; exact y1'⟩)
        have HK2 := Lib.hid (yk.trans (Kx.set W2 bi 0 (.int .i64 ((t : Int) + 1)) (by have := HSB.out; omega)))
        have hlt2 : w6.heap.size + 2 < (W2.setCell ⟨bi, 0, none⟩ (.int .i64 ((t : Int) + 1))).heap.size := Nat.lt_of_lt_of_le (Nat.lt_of_lt_of_le hXW yk.2.2) gB.size
        have hlt3 : W0.heap.size < (W2.setCell ⟨bi, 0, none⟩ (.int .i64 ((t : Int) + 1))).heap.size := Nat.lt_of_lt_of_le hlt (Nat.le_trans yk.2.2 gB.size)
        obtain ⟨u2, g2, cap2, e2, gu2, hu2, -⟩ := hw3.elem
        simp only [Value.slice.injEq, Option.some.injEq, Addr.mk.injEq, and_true, true_and] at e2
        obtain ⟨rfl, rfl⟩ := e2
        have hgW2 : g < (W2.setCell ⟨bi, 0, none⟩ (.int .i64 ((t : Int) + 1))).heap.size := World.block_lt_of_cell? _ _ gu2
        have HNX := Lib.hid (Next_any u2 K N (setS N K t) (W2.setCell ⟨bi, 0, none⟩ (.int .i64 ((t : Int) + 1))).drew hN hK ((hu2.read hK64).below (bl_drew _)) (setS_ris hK t HL.out))
        clear y1 y1' ya yw yg yk ys HZ hw3 hu2 gB hgW
        gi_wp2
        generalize W2.setCell ⟨bi, 0, none⟩ (.int .i64 ((t : Int) + 1)) = Z3 at *
        obtain ⟨s0, s0'⟩ := HA2.out.cw
        have s1 := HA2.out.cn
        refine region_round (fun x => x.cell? ⟨bw, 0, none⟩ = some (.slice (some ⟨g, 0, none⟩) 1 cap) ∧ x.cell? ⟨g, 0, none⟩ = some u2 ∧ x.cell? ⟨w.heap.size, 0, none⟩ = some (.int .i64 N)) 5 hmix (by kernel_rfl) (by rintro ⟨a', w', h'⟩; exact h') ?_
        have hS : Z3.drew.cell? ⟨bw, 0, none⟩ = some (.slice (some ⟨g, 0, none⟩) 1 cap) ∧ Z3.drew.cell? ⟨g, 0, none⟩ = some u2 ∧ Z3.drew.cell? ⟨w.heap.size, 0, none⟩ = some (.int .i64 N) := ⟨s0, gu2, s1⟩
        refine anyL_take (i := 0) (v := .slice (some ⟨g, 0, none⟩) 1 cap) rfl (by kernel_rfl) (by kernel_rfl) (by kernel_rfl) (by kernel_rfl) (fun _ _ _ h => h) (Or.inl ⟨by rfl, ?_⟩) hS ?_
        · intro u hu
          obtain ⟨u1, u2, u3⟩ := hu
          go_simp
        simp only [Act.put, List.setIfInBounds_toArray, List.set_cons_zero, List.set_cons_succ]
        refine anyL_pure (i := 1) (v := .pointer (some ⟨g, 0, none⟩)) rfl (by kernel_rfl) (by kernel_rfl) (by kernel_rfl) (by kernel_rfl) (fun _ _ _ h => h) (Or.inl ⟨by rfl, ?_⟩) hS ?_
        · intro u hu
          go_simp
        simp only [Act.put, List.setIfInBounds_toArray, List.set_cons_zero, List.set_cons_succ]
        refine anyL_take (i := 2) (v := u2) rfl (by kernel_rfl) (by kernel_rfl) (by kernel_rfl) (by kernel_rfl) (fun _ _ _ h => h) (Or.inl ⟨by rfl, ?_⟩) hS ?_
        · intro u hu
          obtain ⟨u1, u2, u3⟩ := hu
          go_simp
        simp only [Act.put, List.setIfInBounds_toArray, List.set_cons_zero, List.set_cons_succ]
        refine anyL_take (i := 3) (v := .int .i64 N) rfl (by kernel_rfl) (by kernel_rfl) (by kernel_rfl) (by kernel_rfl) (fun _ _ _ h => h) (Or.inl ⟨by rfl, ?_⟩) hS ?_
        · intro u hu
          obtain ⟨u1, u2, u3⟩ := hu
          go_simp
        simp only [Act.put, List.setIfInBounds_toArray, List.set_cons_zero, List.set_cons_succ]
        refine anyL_one (i := 4) (by kernel_rfl) rfl rfl fun K0 hK0 => ?_
        go_simp
        refine HNX.out.mono ?_
        rintro e W4 ⟨hb4a, hnx⟩
        have hb4 : Below Z3.heap.size Z3 W4 := below_via (bl_drew _) hb4a
        have HS4 := Lib.hid (show W4.cell? ⟨bw, 0, none⟩ = some (.slice (some ⟨g, 0, none⟩) 1 cap) ∧ W4.cell? ⟨g, 0, none⟩ = some u2 ∧ W4.cell? ⟨w.heap.size, 0, none⟩ = some (.int .i64 N) from ⟨cell_stays hb4 s0, cell_stays hb4 gu2, cell_stays hb4 s1⟩)
        have HA4 := Lib.hid (HA2.out.below hb4)
        have HW4 := Lib.hid (HW2.out.below hb4)
        have HGO4 := Lib.hid (HGO3.out.below hb4)
        have HGC4 := Lib.hid (And.intro (cell_stays hb4 HGC3.out.1) (froz_stays hb4 HGC3.out.1 HGC3.out.2))
        have HK4 := Lib.hid (HK2.out.trans (Kx.below hb4 hlt2))
        have HZ4 := Lib.hid hb4.size
        clear hb4a hb4 hS HNX HA2 HW2 HK2 HGO3 HGC3 s0 s0' gu2 s1
        obtain ⟨vn, rfl, hnv⟩ : ∃ vn, e = .returned vn ∧ ((hiI N K (setS N K t) K = 0 ∧ vn = .slice none 0 0) ∨ (0 < hiI N K (setS N K t) K ∧ ∃ g cap, vn = .slice (some ⟨g, 0, none⟩) K cap ∧ NumL W4 Z3.heap.size (.slice (some ⟨g, 0, none⟩) K cap) K (setS N K (t + 1)))) := by
          rcases hnx with ⟨h1, rfl⟩ | ⟨h1, g, cap, rfl, h2⟩
          · exact ⟨_, rfl, Or.inl ⟨h1, rfl⟩⟩
          · exact ⟨_, rfl, Or.inr ⟨h1, g, cap, rfl, h2⟩⟩
        have HNX := Lib.hid hnv
        clear hnx hnv
        refine hK0 _ _ (fun _ => HS4.out) ?_
        clear hK0 K0
        try simp only [Act.put, List.setIfInBounds_toArray, List.set_cons_zero, List.set_cons_succ]
        refine anyL_one (i := 5) (by kernel_rfl) rfl rfl fun K0 hK0 => ?_
        go_simp
        refine hK0 _ _ (fun e => absurd e (by decide)) ?_
        clear hK0 K0
        refine anyL_done (by kernel_rfl) ?_ _
        obtain ⟨s0, s0'⟩ := HA4.out.cw
        have gC := gb_set W4 ⟨bw, 0, none⟩ (.slice (some ⟨g, 0, none⟩) 0 cap)
        have HA5 := Lib.hid (HA4.out.putw (.slice (some ⟨g, 0, none⟩) 0 cap))
        have HW5 := Lib.hid ((HW4.out.grown gC (fun b e hs => by cases e; exact hs.1.2.2.2.1 rfl)).cut)
        have HGO5 := Lib.hid (HGO4.out.grown gC (fun b e hs => by cases e; exact hs.1.2.2.2.1 rfl))
        have HGC5 := Lib.hid (show ((W4.setCell ⟨bw, 0, none⟩ (.slice (some ⟨g, 0, none⟩) 0 cap)).cell? ⟨bg, 0, none⟩ = some (.slice ga m gc) ∧ (W4.setCell ⟨bw, 0, none⟩ (.slice (some ⟨g, 0, none⟩) 0 cap)).frozen? ⟨bg, 0, none⟩ = false) from ⟨gC.cell HGC4.out.1 (fun e => by injection e with e; have h : bg = bw := e; have := HGB.out; omega), by rw [World.frozen?_setCell]; exact HGC4.out.2⟩)
        have HK5 := Lib.hid (HK4.out.trans (Kx.set W4 bw 0 (.slice (some ⟨g, 0, none⟩) 0 cap) (by have := HSB.out; omega)))
        have HZ5 := Lib.hid (Nat.le_trans HZ4.out gC.size)
        have HNX5 := Lib.hid (show (hiI N K (setS N K t) K = 0 ∧ vn = .slice none 0 0) ∨ (0 < hiI N K (setS N K t) K ∧ ∃ g' cap', vn = .slice (some ⟨g', 0, none⟩) K cap' ∧ NumL (W4.setCell ⟨bw, 0, none⟩ (.slice (some ⟨g, 0, none⟩) 0 cap)) Z3.heap.size (.slice (some ⟨g', 0, none⟩) K cap') K (setS N K (t + 1))) from by
          rcases HNX.out with h | ⟨h1, g', cap', h2, h3⟩
          · exact Or.inl h
          · exact Or.inr ⟨h1, g', cap', h2, World.ownsRow.kept h3 gC (Or.inr fun e => by
              have e1 : g' = bw := by simpa [Value.ownBlock] using e
              have e2 : Z3.heap.size ≤ g' := (World.ownsRow.lt h3 g' rfl).1
              have e3 := HSB.out.2.1
              omega)⟩)
        have HW4' := Lib.hid HW4.out
        clear HA4 HW4 HK4 HZ4 HNX HS4 HGO4 HGC4 gC
        have he0 : ∀ w : World, (binOp .neq 25 (.slice none 0 0) (.slice none 0 0)).run Try.prog w = .ok (.bool false) w := fun _ => rfl
        have he1 : ∀ (g n c : Nat) (w : World), (binOp .neq 25 (.slice (some ⟨g, 0, none⟩) n c) (.slice none 0 0)).run Try.prog w = .ok (.bool true) w := fun _ _ _ _ => rfl
        have r1 := HA5.out.ck
        have HRM := Lib.hid (HW4'.out.room)
        gi_upto_region 20 with fail
        generalize W4.setCell ⟨bw, 0, none⟩ (.slice (some ⟨g, 0, none⟩) 0 cap) = W5 at *
        obtain ⟨s2, s2'⟩ := HA5.out.cw
        rcases HNX5.out with ⟨hh, rfl⟩ | ⟨hh, g', cap', rfl, hn'⟩
        · have HA8 := Lib.hid HA5.out
          have HW8 := Lib.hid ((wn0_next HW5.out hh).sep (Sp' := fun b => Sep w nb kb bw bi w6.heap.size b ∧ b ≠ bg) (fun b h => ⟨h.1, h.2.1⟩))
          have HK8 := Lib.hid HK5.out
          clear HW5 HNX5 hh HA5 HK5 s2 s2'
          gi_wp2
          exact ⟨HK8.out.1, HK8.out.2.1, by omega, ⟨_, HA8.out, HW8.out, _, rfl⟩, _, _, HGC5.out, HGO5.out⟩
        · have hk0 : (0 : Int) < (K : Int) := by have := hiI_le N K (setS N K t) K; omega
          obtain ⟨i0, hi, hz0, hz1, hz2⟩ := info_parts infoNs
          have HI := Lib.hid (And.intro hi (And.intro hz0 (And.intro hz1 hz2)))
          obtain ⟨a0, c0, e0, ho, -⟩ := HW5.out
          simp only [Value.slice.injEq] at e0
          obtain ⟨rfl, -, rfl⟩ := e0
          have HO := Lib.hid (own_below ho (bl_alloc W5 (.cells #[.slice (some ⟨g', 0, none⟩) K cap'] 25)))
          have HN5 := Lib.hid hn'
          have HOO := Lib.hid ho
          have HST := Lib.hid (fun (W7 : World) (k1 : W7.ownsRow w.heap.size 25 1 (.slice (some ⟨g, 0, none⟩) (0 + 1) cap) (0 + 1) ([] ++ [.slice (some ⟨g', 0, none⟩) K cap'])) (k2 : (W5.alloc (.cells #[.slice (some ⟨g', 0, none⟩) K cap'] 25)).grownBy W7 (some g)) =>
            (show AgB w nb kb bw bi N K c ((t : Int) + 1) (.slice (some ⟨g, 0, none⟩) 0 cap) W7 ∧ Wn1 W7 w.heap.size (fun b => Sep w nb kb bw bi w6.heap.size b ∧ b ≠ bg ∧ b ≠ W0.heap.size) (.slice (some ⟨g, 0, none⟩) 1 cap) K (setS N K (t + 1)) ∧ Kx (w6.heap.size + 2) W W7 ∧ (W7.cell? ⟨bg, 0, none⟩ = some (.slice ga m gc) ∧ W7.frozen? ⟨bg, 0, none⟩ = false) ∧ GotS W7 w.heap.size (fun b => Sep w nb kb bw bi w6.heap.size b ∧ b ≠ bg ∧ b ≠ g) (.slice ga m gc) (min (t + 1) 400) K N L from by
              have gb : W5.grownBy W7 (some g) := gb_trans (gb_below (bl_alloc W5 _) _) k2
              have hb1 := HSB.out
              have hb2 := HA5.out.lw
              have hb3 := HA5.out.ln
              have hb4 := HA5.out.lk
              have hb5 := HA5.out.bel.size
              have hb6 := HZ5.out
              have hb7 := HGB.out
              refine ⟨HA5.out.grown gb (fun b e => by cases e; exact ⟨hsp.1.1, hsp.1.2.1, hsp.1.2.2.1, hsp.1.2.2.2.1, hsp.1.2.2.2.2.1⟩), wn1_push HN5.out (by omega) hsp (fun b h1 h2 => ⟨⟨by omega, by omega, by omega, by omega, by omega, by omega, by omega, by omega⟩, by omega, by omega⟩) hgW2 k1 k2, HK5.out.trans ⟨KeepsOthers.of_grownBy gb (rowc_cells HOO.out), gb.block _ (by omega) (fun e => by cases e; exact hsp.1.2.2.2.2.2.2.2 rfl), gb.size⟩,
                ⟨gb.cell HGC5.out.1 (fun e => by injection e with e; have h : g = bg := e.symm; omega), (World.frozen?_of_block (w := W5) (a := ⟨bg, 0, none⟩) (gb.block bg (World.block_lt_of_cell? _ _ HGC5.out.1) (fun e => by injection e with e; omega))).trans HGC5.out.2⟩, HGO5.out.grown gb (fun b e hs => by cases e; exact hs.2.2 rfl)⟩))
          clear hi hz0 hz1 hz2 ho hn' HW5 HNX5
          gi_upto_region 99 with (gi_at_builtin; refine wpListIn_append_fits _ (by rfl) _ _ 52 (by rfl) w.heap.size 25 i0 1 Try.underlying52 HI.out.1 HI.out.2.2.1 g 0 cap [] (by rfl) HO.out ⟨W5.heap.size, 0, none⟩ 1 1 [.slice (some ⟨g', 0, none⟩) K cap'] (by rfl) (by simp) (news_one _ _ _) (one_one rfl) HRM.out ?_; intro W7 k1 k2; have HKK := Lib.hid (HST.out W7 k1 k2); obtain ⟨t0, t0'⟩ := HKK.out.1.cw; clear k1 k2)
          have gE := gb_set W7 ⟨bw, 0, none⟩ (.slice (some ⟨g, 0, none⟩) 1 cap)
          have hgb := HGB.out
          obtain ⟨va, vw, vk, ⟨vc, vd⟩, vg⟩ := HKK.out
          have vk' := vk.trans (Kx.set W7 bw 0 (.slice (some ⟨g, 0, none⟩) 1 cap) (by have := HSB.out; omega))
          exact ⟨vk'.1, vk'.2.1, by omega, ⟨_, va.putw (.slice (some ⟨g, 0, none⟩) 1 cap), (wn1_next (vw.grown gE (fun b e hs => by cases e; exact hs.1.2.2.2.1 rfl)) HL.out hh).sep (Sp' := fun b => Sep w nb kb bw bi w6.heap.size b ∧ b ≠ bg) (fun b h => ⟨h.1, h.2.1⟩), _, rfl⟩, _, _, ⟨gE.cell vc (fun e => by injection e with e; have h : bg = bw := e; omega), by rw [World.frozen?_setCell]; exact vd⟩, vg.grown gE (fun b e hs => by cases e; exact hs.1.2.2.2.1 rfl)⟩
    · gi_wp2
      refine ⟨trivial, (CallsIn.inRound l (callsIn_wide.2 HLN.out)).mono ?_⟩
      rintro e W2 ⟨rfl, hb2⟩
      have HA2 := Lib.hid (HA.out.below hb2)
      have HW2 := Lib.hid (HW.out.below hb2)
      have HU2 := Lib.hid (HU.out.below hb2)
      have HV2 := Lib.hid (HV.out.below hb2)
      have HGO2 := Lib.hid (HGO.out.below hb2)
      have HGC2 := Lib.hid (And.intro (cell_stays hb2 HGC.out.1) (froz_stays hb2 HGC.out.1 HGC.out.2))
      have HK2 := Lib.hid (Kx.below hb2 hXW)
      have hlt2 := Nat.lt_of_lt_of_le hXW hb2.size
      have hgW : g < W2.heap.size := Nat.lt_of_lt_of_le (World.block_lt_of_cell? _ _ gu) hb2.size
      have hlt3 : W0.heap.size < W2.heap.size := Nat.lt_of_lt_of_le hlt hb2.size
      replace gu := cell_stays hb2 gu
      obtain ⟨s0, s0'⟩ := HA2.out.cw
      obtain ⟨s4, s4'⟩ := HA2.out.ci
      have s1 := HA2.out.cn
      obtain ⟨s7, s7'⟩ := HGC2.out
      clear hb2 HLN HA HW HU HV HGO HGC
      obtain ⟨m, hm⟩ : ∃ m, m = min t 400 := ⟨_, rfl⟩
      rw [← hm] at HGO2
      obtain ⟨ga, gc, rfl⟩ := own_slice HGO2.out.own
      by_cases ht4 : t < 400
      · have hm4 : (m : Int) < 400 := by omega
        have hmt : m = t := by omega
        have hm1 : min (t + 1) 400 = m + 1 := by omega
        have HM := Lib.hid (And.intro hmt hm1)
        obtain ⟨i0, hi, hz0, hz1, hz2⟩ := info_parts infoNs
        have HI := Lib.hid (And.intro hi (And.intro hz0 (And.intro hz1 hz2)))
        have hmb : m ≤ 400 := by omega
        have HOWN := Lib.hid (own_below HGO2.out.own (bl_alloc W2 (.cells #[.slice (some ⟨W0.heap.size, 0, none⟩) K K] 25)))
        have hbase : w.heap.size ≤ (W2.alloc (.cells #[.slice (some ⟨W0.heap.size, 0, none⟩) K K] 25)).heap.size := by have := HA2.out.lw; simp; omega
        have HST := Lib.hid (fun (g9 cap9 : Nat) (W3 : World) (k1 : W3.ownsRow w.heap.size 25 1 (.slice (some ⟨g9, 0, none⟩) (m + 1) cap9) (m + 1) ((List.range m).map L ++ [.slice (some ⟨W0.heap.size, 0, none⟩) K K])) (k2 : (W2.alloc (.cells #[.slice (some ⟨W0.heap.size, 0, none⟩) K K] 25)).grownBy W3 (Value.slice ga m gc).ownBlock) (k3 : (Value.slice ga m gc).ownBlock = some g9 ∨ g9 = (W2.alloc (.cells #[.slice (some ⟨W0.heap.size, 0, none⟩) K K] 25)).heap.size) =>
          (show (W3.cell? ⟨bg, 0, none⟩ = some (.slice ga m gc) ∧ W3.frozen? ⟨bg, 0, none⟩ = false) ∧ AgB w nb kb bw bi N K c (t : Nat) (.slice (some ⟨g, 0, none⟩) 1 cap) W3 ∧ Wn1 W3 w.heap.size (fun b => Sep w nb kb bw bi w6.heap.size b ∧ b ≠ bg ∧ b ≠ W0.heap.size) (.slice (some ⟨g, 0, none⟩) 1 cap) K (setS N K t) ∧
              GotS W3 w.heap.size (fun b => Sep w nb kb bw bi w6.heap.size b ∧ b ≠ bg ∧ b ≠ g) (.slice (some ⟨g9, 0, none⟩) (m + 1) cap9) (m + 1) K N (fun k => if k = m then .slice (some ⟨W0.heap.size, 0, none⟩) K K else L k) ∧ Kx (w6.heap.size + 2) W W3 ∧ W3.cell? ⟨g, 0, none⟩ = some u ∧ NumL W3 w.heap.size u K (setS N K t) ∧ W2.heap.size ≤ W3.heap.size from by
            have gb : W2.grownBy W3 (Value.slice ga m gc).ownBlock := gb_trans (gb_below (bl_alloc W2 _) _) k2
            have hsp := fun b e => (HGO2.out.sp b e)
            have hlw := HA2.out.lw
            have hln := HA2.out.ln
            have hlk := HA2.out.lk
            have hli := HA2.out.li
            have hs3 : (W2.alloc (.cells #[.slice (some ⟨W0.heap.size, 0, none⟩) K K] 25)).heap.size = W2.heap.size + 1 := by simp
            have hgo1 := HGO2.out.sep (Sp' := fun b => Sep w nb kb bw bi w6.heap.size b ∧ b ≠ bg ∧ b ≠ g) (fun b _ h => h.1)
            refine ⟨⟨gb.cell HGC2.out.1 (fun e => (hsp _ e.symm).1.2.1 rfl), (World.frozen?_of_block (w := W2) (a := ⟨bg, 0, none⟩) (gb.block bg (World.block_lt_of_cell? _ _ HGC2.out.1) (fun e => (hsp _ e.symm).1.2.1 rfl))).trans HGC2.out.2⟩,
              HA2.out.grown gb (fun b e => by have h := (hsp b e).1.1; exact ⟨h.1, h.2.1, h.2.2.1, h.2.2.2.1, h.2.2.2.2.1⟩), HW2.out.got HGO2.out.own gb (fun e => (hsp _ e).1.2.2 rfl),
              hgo1.push (bl_alloc W2 _) k1 k2 (k3.imp id (fun e => ?_)) (HM.out.1 ▸ HV2.out.monoB (by omega)) (fun b hb => ?_) (fun k hk b h1 h2 => ?_), HK2.out.trans ⟨KeepsOthers.of_grownBy gb (rowc_cells HGO2.out.own), gb.block _ (by omega) (fun e => (hsp _ e.symm).1.1.2.2.2.2.2.2.2 rfl), gb.size⟩,
              gb.cell gu (fun e => (hsp _ e.symm).1.2.2 rfl), HU2.out.got HGO2.out.own gb, gb.size⟩
            · rw [hs3] at e
              exact ⟨⟨by omega, by omega, by omega, by omega, by omega, by omega, by omega, by omega⟩, by omega, by omega⟩
            · have e : W0.heap.size = b := by simpa [Value.ownBlock] using hb
              exact ⟨⟨by omega, by omega, by omega, by omega, by omega, by omega, by omega, by omega⟩, by omega, by have hb2 := HGB.out; omega⟩
            · have e : W0.heap.size = b := by simpa [Value.ownBlock] using h2
              exact (HGO2.out.lsp k hk b h1).2 e.symm))
        clear hm hmt hm1 hi hz0 hz1 hz2
        gi_upto_region 17 with (gi_at_builtin; refine wpListIn_append_lies _ (by rfl) _ _ 52 (by rfl) w.heap.size 25 i0 (.slice none 0 0) 1 24 Try.underlying52 HI.out.1 HI.out.2.1 HI.out.2.2.1 HI.out.2.2.2 rfl (by decide) (.slice ga m gc) m _ (by rfl) HOWN.out ⟨W2.heap.size, 0, none⟩ 1 1 [.slice (some ⟨W0.heap.size, 0, none⟩) K K] (by rfl) (by simp) (news_one _ _ _) (one_one rfl) (by omega) (by unfold maxLen; omega) (by omega) hbase _ rfl ?_; intro g9 cap9 W3 k1 k2 k3 k4; have HPP := Lib.hid (HST.out g9 cap9 W3 k1 k2 k3); obtain ⟨t0, t0'⟩ := HPP.out.1; clear k1 k2 k3 k4)
        have gD := gb_set W3 ⟨bg, 0, none⟩ (.slice (some ⟨g9, 0, none⟩) (m + 1) cap9)
        have HZ := Lib.hid (show ((W3.setCell ⟨bg, 0, none⟩ (.slice (some ⟨g9, 0, none⟩) (m + 1) cap9)).cell? ⟨bg, 0, none⟩ = some (.slice (some ⟨g9, 0, none⟩) (m + 1) cap9) ∧ (W3.setCell ⟨bg, 0, none⟩ (.slice (some ⟨g9, 0, none⟩) (m + 1) cap9)).frozen? ⟨bg, 0, none⟩ = false) ∧ AgB w nb kb bw bi N K c (t : Nat) (.slice (some ⟨g, 0, none⟩) 1 cap) (W3.setCell ⟨bg, 0, none⟩ (.slice (some ⟨g9, 0, none⟩) (m + 1) cap9)) ∧ Wn1 (W3.setCell ⟨bg, 0, none⟩ (.slice (some ⟨g9, 0, none⟩) (m + 1) cap9)) w.heap.size (fun b => Sep w nb kb bw bi w6.heap.size b ∧ b ≠ bg ∧ b ≠ W0.heap.size) (.slice (some ⟨g, 0, none⟩) 1 cap) K (setS N K t) ∧
            GotS (W3.setCell ⟨bg, 0, none⟩ (.slice (some ⟨g9, 0, none⟩) (m + 1) cap9)) w.heap.size (fun b => Sep w nb kb bw bi w6.heap.size b ∧ b ≠ bg ∧ b ≠ g) (.slice (some ⟨g9, 0, none⟩) (m + 1) cap9) (min (t + 1) 400) K N (fun k => if k = m then .slice (some ⟨W0.heap.size, 0, none⟩) K K else L k) ∧ Kx (w6.heap.size + 2) W (W3.setCell ⟨bg, 0, none⟩ (.slice (some ⟨g9, 0, none⟩) (m + 1) cap9)) ∧ W2.heap.size ≤ (W3.setCell ⟨bg, 0, none⟩ (.slice (some ⟨g9, 0, none⟩) (m + 1) cap9)).heap.size from by
          obtain ⟨⟨y1, y2⟩, ya, yw, yg, yk, -, -, ys⟩ := HPP.out
          have hgb := HGB.out
          exact ⟨⟨World.cell?_setCell_same _ _ _ y1, by rw [World.frozen?_setCell]; exact y2⟩, ya.grown gD (fun b e => by cases e; show _ ≤ bg ∧ bg ≠ nb ∧ bg ≠ kb ∧ bg ≠ bw ∧ bg ≠ bi; omega), yw.grown gD (fun b e hs => by cases e; exact hs.2.1 rfl), HM.out.2 ▸ yg.grown gD (fun b e hs => by cases e; exact hs.2.1 rfl), yk.trans (Kx.set W3 bg 0 _ (by have := HSB.out; omega)), Nat.le_trans ys gD.size⟩)
        clear HPP HST HOWN HI HM gD t0 t0' HU2 HV2 HGO2 HGC2 HA2 HW2 HK2
        generalize W3.setCell ⟨bg, 0, none⟩ (.slice (some ⟨g9, 0, none⟩) (m + 1) cap9) = Z at *
        obtain ⟨⟨y1, y1'⟩, ya, yw, yg, yk, ys⟩ := HZ.out
        obtain ⟨s4, s4'⟩ := ya.ci
        have gB := gb_set Z ⟨bi, 0, none⟩ (.int .i64 ((t : Int) + 1))
        have HA2 := Lib.hid (ya.puti ((t : Int) + 1))
        have hw3 := yw.grown gB (fun b e hs => by cases e; exact hs.1.2.2.2.2.1 rfl)
        have HW2 := Lib.hid hw3
        have HGO3 := Lib.hid (yg.grown gB (fun b e hs => by cases e; exact hs.1.2.2.2.2.1 rfl))
        have HGC3 := Lib.hid (show ((Z.setCell ⟨bi, 0, none⟩ (.int .i64 ((t : Int) + 1))).cell? ⟨bg, 0, none⟩ = some (.slice (some ⟨g9, 0, none⟩) (m + 1) cap9) ∧ (Z.setCell ⟨bi, 0, none⟩ (.int .i64 ((t : Int) + 1))).frozen? ⟨bg, 0, none⟩ = false) from ⟨gB.cell y1 (fun e => by injection e with e; have h : bg = bi := e; have := HGB.out; omega), by rw [World.frozen?_setCell]; exact y1'⟩)
        have HK2 := Lib.hid (yk.trans (Kx.set Z bi 0 (.int .i64 ((t : Int) + 1)) (by have := HSB.out; omega)))
        have hlt2 : w6.heap.size + 2 < (Z.setCell ⟨bi, 0, none⟩ (.int .i64 ((t : Int) + 1))).heap.size := Nat.lt_of_lt_of_le (Nat.lt_of_lt_of_le hXW yk.2.2) gB.size
        have hlt3 : W0.heap.size < (Z.setCell ⟨bi, 0, none⟩ (.int .i64 ((t : Int) + 1))).heap.size := Nat.lt_of_lt_of_le hlt (Nat.le_trans yk.2.2 gB.size)
        obtain ⟨u2, g2, cap2, e2, gu2, hu2, -⟩ := hw3.elem
        simp only [Value.slice.injEq, Option.some.injEq, Addr.mk.injEq, and_true, true_and] at e2
        obtain ⟨rfl, rfl⟩ := e2
        have hgW2 : g < (Z.setCell ⟨bi, 0, none⟩ (.int .i64 ((t : Int) + 1))).heap.size := World.block_lt_of_cell? _ _ gu2
        have HNX := Lib.hid (Next_any u2 K N (setS N K t) (Z.setCell ⟨bi, 0, none⟩ (.int .i64 ((t : Int) + 1))).drew hN hK ((hu2.read hK64).below (bl_drew _)) (setS_ris hK t HL.out))
        clear y1 y1' ya yw yg yk ys HZ hw3 hu2 gB hgW
        gi_wp2
        generalize Z.setCell ⟨bi, 0, none⟩ (.int .i64 ((t : Int) + 1)) = Z3 at *
        obtain ⟨s0, s0'⟩ := HA2.out.cw
        have s1 := HA2.out.cn
        refine region_round (fun x => x.cell? ⟨bw, 0, none⟩ = some (.slice (some ⟨g, 0, none⟩) 1 cap) ∧ x.cell? ⟨g, 0, none⟩ = some u2 ∧ x.cell? ⟨w.heap.size, 0, none⟩ = some (.int .i64 N)) 5 hmix (by kernel_rfl) (by rintro ⟨a', w', h'⟩; exact h') ?_
        have hS : Z3.drew.cell? ⟨bw, 0, none⟩ = some (.slice (some ⟨g, 0, none⟩) 1 cap) ∧ Z3.drew.cell? ⟨g, 0, none⟩ = some u2 ∧ Z3.drew.cell? ⟨w.heap.size, 0, none⟩ = some (.int .i64 N) := ⟨s0, gu2, s1⟩
        refine anyL_take (i := 0) (v := .slice (some ⟨g, 0, none⟩) 1 cap) rfl (by kernel_rfl) (by kernel_rfl) (by kernel_rfl) (by kernel_rfl) (fun _ _ _ h => h) (Or.inl ⟨by rfl, ?_⟩) hS ?_
        · intro u hu
          obtain ⟨u1, u2, u3⟩ := hu
          go_simp
        simp only [Act.put, List.setIfInBounds_toArray, List.set_cons_zero, List.set_cons_succ]
        refine anyL_pure (i := 1) (v := .pointer (some ⟨g, 0, none⟩)) rfl (by kernel_rfl) (by kernel_rfl) (by kernel_rfl) (by kernel_rfl) (fun _ _ _ h => h) (Or.inl ⟨by rfl, ?_⟩) hS ?_
        · intro u hu
          go_simp
        simp only [Act.put, List.setIfInBounds_toArray, List.set_cons_zero, List.set_cons_succ]
        refine anyL_take (i := 2) (v := u2) rfl (by kernel_rfl) (by kernel_rfl) (by kernel_rfl) (by kernel_rfl) (fun _ _ _ h => h) (Or.inl ⟨by rfl, ?_⟩) hS ?_
        · intro u hu
          obtain ⟨u1, u2, u3⟩ := hu
          go_simp
        simp only [Act.put, List.setIfInBounds_toArray, List.set_cons_zero, List.set_cons_succ]
        refine anyL_take (i := 3) (v := .int .i64 N) rfl (by kernel_rfl) (by kernel_rfl) (by kernel_rfl) (by kernel_rfl) (fun _ _ _ h => h) (Or.inl ⟨by rfl, ?_⟩) hS ?_
        · intro u hu
          obtain ⟨u1, u2, u3⟩ := hu
          go_simp
        simp only [Act.put, List.setIfInBounds_toArray, List.set_cons_zero, List.set_cons_succ]
        refine anyL_one (i := 4) (by kernel_rfl) rfl rfl fun K0 hK0 => ?_
        go_simp
        refine HNX.out.mono ?_
        rintro e W4 ⟨hb4a, hnx⟩
        have hb4 : Below Z3.heap.size Z3 W4 := below_via (bl_drew _) hb4a
        have HS4 := Lib.hid (show W4.cell? ⟨bw, 0, none⟩ = some (.slice (some ⟨g, 0, none⟩) 1 cap) ∧ W4.cell? ⟨g, 0, none⟩ = some u2 ∧ W4.cell? ⟨w.heap.size, 0, none⟩ = some (.int .i64 N) from ⟨cell_stays hb4 s0, cell_stays hb4 gu2, cell_stays hb4 s1⟩)
        have HA4 := Lib.hid (HA2.out.below hb4)
        have HW4 := Lib.hid (HW2.out.below hb4)
        have HGO4 := Lib.hid (HGO3.out.below hb4)
        have HGC4 := Lib.hid (And.intro (cell_stays hb4 HGC3.out.1) (froz_stays hb4 HGC3.out.1 HGC3.out.2))
        have HK4 := Lib.hid (HK2.out.trans (Kx.below hb4 hlt2))
        have HZ4 := Lib.hid hb4.size
        clear hb4a hb4 hS HNX HA2 HW2 HK2 HGO3 HGC3 s0 s0' gu2 s1
        obtain ⟨vn, rfl, hnv⟩ : ∃ vn, e = .returned vn ∧ ((hiI N K (setS N K t) K = 0 ∧ vn = .slice none 0 0) ∨ (0 < hiI N K (setS N K t) K ∧ ∃ g cap, vn = .slice (some ⟨g, 0, none⟩) K cap ∧ NumL W4 Z3.heap.size (.slice (some ⟨g, 0, none⟩) K cap) K (setS N K (t + 1)))) := by
          rcases hnx with ⟨h1, rfl⟩ | ⟨h1, g, cap, rfl, h2⟩
          · exact ⟨_, rfl, Or.inl ⟨h1, rfl⟩⟩
          · exact ⟨_, rfl, Or.inr ⟨h1, g, cap, rfl, h2⟩⟩
        have HNX := Lib.hid hnv
        clear hnx hnv
        refine hK0 _ _ (fun _ => HS4.out) ?_
        clear hK0 K0
        try simp only [Act.put, List.setIfInBounds_toArray, List.set_cons_zero, List.set_cons_succ]
        refine anyL_one (i := 5) (by kernel_rfl) rfl rfl fun K0 hK0 => ?_
        go_simp
        refine hK0 _ _ (fun e => absurd e (by decide)) ?_
        clear hK0 K0
        refine anyL_done (by kernel_rfl) ?_ _
        obtain ⟨s0, s0'⟩ := HA4.out.cw
        have gC := gb_set W4 ⟨bw, 0, none⟩ (.slice (some ⟨g, 0, none⟩) 0 cap)
        have HA5 := Lib.hid (HA4.out.putw (.slice (some ⟨g, 0, none⟩) 0 cap))
        have HW5 := Lib.hid ((HW4.out.grown gC (fun b e hs => by cases e; exact hs.1.2.2.2.1 rfl)).cut)
        have HGO5 := Lib.hid (HGO4.out.grown gC (fun b e hs => by cases e; exact hs.1.2.2.2.1 rfl))
        have HGC5 := Lib.hid (show ((W4.setCell ⟨bw, 0, none⟩ (.slice (some ⟨g, 0, none⟩) 0 cap)).cell? ⟨bg, 0, none⟩ = some (.slice (some ⟨g9, 0, none⟩) (m + 1) cap9) ∧ (W4.setCell ⟨bw, 0, none⟩ (.slice (some ⟨g, 0, none⟩) 0 cap)).frozen? ⟨bg, 0, none⟩ = false) from ⟨gC.cell HGC4.out.1 (fun e => by injection e with e; have h : bg = bw := e; have := HGB.out; omega), by rw [World.frozen?_setCell]; exact HGC4.out.2⟩)
        have HK5 := Lib.hid (HK4.out.trans (Kx.set W4 bw 0 (.slice (some ⟨g, 0, none⟩) 0 cap) (by have := HSB.out; omega)))
        have HZ5 := Lib.hid (Nat.le_trans HZ4.out gC.size)
        have HNX5 := Lib.hid (show (hiI N K (setS N K t) K = 0 ∧ vn = .slice none 0 0) ∨ (0 < hiI N K (setS N K t) K ∧ ∃ g' cap', vn = .slice (some ⟨g', 0, none⟩) K cap' ∧ NumL (W4.setCell ⟨bw, 0, none⟩ (.slice (some ⟨g, 0, none⟩) 0 cap)) Z3.heap.size (.slice (some ⟨g', 0, none⟩) K cap') K (setS N K (t + 1))) from by
          rcases HNX.out with h | ⟨h1, g', cap', h2, h3⟩
          · exact Or.inl h
          · exact Or.inr ⟨h1, g', cap', h2, World.ownsRow.kept h3 gC (Or.inr fun e => by
              have e1 : g' = bw := by simpa [Value.ownBlock] using e
              have e2 : Z3.heap.size ≤ g' := (World.ownsRow.lt h3 g' rfl).1
              have e3 := HSB.out.2.1
              omega)⟩)
        have HW4' := Lib.hid HW4.out
        clear HA4 HW4 HK4 HZ4 HNX HS4 HGO4 HGC4 gC
        have he0 : ∀ w : World, (binOp .neq 25 (.slice none 0 0) (.slice none 0 0)).run Try.prog w = .ok (.bool false) w := fun _ => rfl
        have he1 : ∀ (g n c : Nat) (w : World), (binOp .neq 25 (.slice (some ⟨g, 0, none⟩) n c) (.slice none 0 0)).run Try.prog w = .ok (.bool true) w := fun _ _ _ _ => rfl
        have r1 := HA5.out.ck
        have HRM := Lib.hid (HW4'.out.room)
        gi_upto_region 20 with fail
        generalize W4.setCell ⟨bw, 0, none⟩ (.slice (some ⟨g, 0, none⟩) 0 cap) = W5 at *
        obtain ⟨s2, s2'⟩ := HA5.out.cw
        rcases HNX5.out with ⟨hh, rfl⟩ | ⟨hh, g', cap', rfl, hn'⟩
        · have HA8 := Lib.hid HA5.out
          have HW8 := Lib.hid ((wn0_next HW5.out hh).sep (Sp' := fun b => Sep w nb kb bw bi w6.heap.size b ∧ b ≠ bg) (fun b h => ⟨h.1, h.2.1⟩))
          have HK8 := Lib.hid HK5.out
          clear HW5 HNX5 hh HA5 HK5 s2 s2'
          gi_wp2
          exact ⟨HK8.out.1, HK8.out.2.1, by omega, ⟨_, HA8.out, HW8.out, _, rfl⟩, _, _, HGC5.out, HGO5.out⟩
        · have hk0 : (0 : Int) < (K : Int) := by have := hiI_le N K (setS N K t) K; omega
          obtain ⟨i0, hi, hz0, hz1, hz2⟩ := info_parts infoNs
          have HI := Lib.hid (And.intro hi (And.intro hz0 (And.intro hz1 hz2)))
          obtain ⟨a0, c0, e0, ho, -⟩ := HW5.out
          simp only [Value.slice.injEq] at e0
          obtain ⟨rfl, -, rfl⟩ := e0
          have HO := Lib.hid (own_below ho (bl_alloc W5 (.cells #[.slice (some ⟨g', 0, none⟩) K cap'] 25)))
          have HN5 := Lib.hid hn'
          have HOO := Lib.hid ho
          have HST := Lib.hid (fun (W7 : World) (k1 : W7.ownsRow w.heap.size 25 1 (.slice (some ⟨g, 0, none⟩) (0 + 1) cap) (0 + 1) ([] ++ [.slice (some ⟨g', 0, none⟩) K cap'])) (k2 : (W5.alloc (.cells #[.slice (some ⟨g', 0, none⟩) K cap'] 25)).grownBy W7 (some g)) =>
            (show AgB w nb kb bw bi N K c ((t : Int) + 1) (.slice (some ⟨g, 0, none⟩) 0 cap) W7 ∧ Wn1 W7 w.heap.size (fun b => Sep w nb kb bw bi w6.heap.size b ∧ b ≠ bg ∧ b ≠ W0.heap.size) (.slice (some ⟨g, 0, none⟩) 1 cap) K (setS N K (t + 1)) ∧ Kx (w6.heap.size + 2) W W7 ∧ (W7.cell? ⟨bg, 0, none⟩ = some (.slice (some ⟨g9, 0, none⟩) (m + 1) cap9) ∧ W7.frozen? ⟨bg, 0, none⟩ = false) ∧ GotS W7 w.heap.size (fun b => Sep w nb kb bw bi w6.heap.size b ∧ b ≠ bg ∧ b ≠ g) (.slice (some ⟨g9, 0, none⟩) (m + 1) cap9) (min (t + 1) 400) K N (fun k => if k = m then .slice (some ⟨W0.heap.size, 0, none⟩) K K else L k) from by
              have gb : W5.grownBy W7 (some g) := gb_trans (gb_below (bl_alloc W5 _) _) k2
              have hb1 := HSB.out
              have hb2 := HA5.out.lw
              have hb3 := HA5.out.ln
              have hb4 := HA5.out.lk
              have hb5 := HA5.out.bel.size
              have hb6 := HZ5.out
              have hb7 := HGB.out
              refine ⟨HA5.out.grown gb (fun b e => by cases e; exact ⟨hsp.1.1, hsp.1.2.1, hsp.1.2.2.1, hsp.1.2.2.2.1, hsp.1.2.2.2.2.1⟩), wn1_push HN5.out (by omega) hsp (fun b h1 h2 => ⟨⟨by omega, by omega, by omega, by omega, by omega, by omega, by omega, by omega⟩, by omega, by omega⟩) hgW2 k1 k2, HK5.out.trans ⟨KeepsOthers.of_grownBy gb (rowc_cells HOO.out), gb.block _ (by omega) (fun e => by cases e; exact hsp.1.2.2.2.2.2.2.2 rfl), gb.size⟩,
                ⟨gb.cell HGC5.out.1 (fun e => by injection e with e; have h : g = bg := e.symm; omega), (World.frozen?_of_block (w := W5) (a := ⟨bg, 0, none⟩) (gb.block bg (World.block_lt_of_cell? _ _ HGC5.out.1) (fun e => by injection e with e; omega))).trans HGC5.out.2⟩, HGO5.out.grown gb (fun b e hs => by cases e; exact hs.2.2 rfl)⟩))
          clear hi hz0 hz1 hz2 ho hn' HW5 HNX5
          gi_upto_region 99 with (gi_at_builtin; refine wpListIn_append_fits _ (by rfl) _ _ 52 (by rfl) w.heap.size 25 i0 1 Try.underlying52 HI.out.1 HI.out.2.2.1 g 0 cap [] (by rfl) HO.out ⟨W5.heap.size, 0, none⟩ 1 1 [.slice (some ⟨g', 0, none⟩) K cap'] (by rfl) (by simp) (news_one _ _ _) (one_one rfl) HRM.out ?_; intro W7 k1 k2; have HKK := Lib.hid (HST.out W7 k1 k2); obtain ⟨t0, t0'⟩ := HKK.out.1.cw; clear k1 k2)
          have gE := gb_set W7 ⟨bw, 0, none⟩ (.slice (some ⟨g, 0, none⟩) 1 cap)
          have hgb := HGB.out
          obtain ⟨va, vw, vk, ⟨vc, vd⟩, vg⟩ := HKK.out
          have vk' := vk.trans (Kx.set W7 bw 0 (.slice (some ⟨g, 0, none⟩) 1 cap) (by have := HSB.out; omega))
          exact ⟨vk'.1, vk'.2.1, by omega, ⟨_, va.putw (.slice (some ⟨g, 0, none⟩) 1 cap), (wn1_next (vw.grown gE (fun b e hs => by cases e; exact hs.1.2.2.2.1 rfl)) HL.out hh).sep (Sp' := fun b => Sep w nb kb bw bi w6.heap.size b ∧ b ≠ bg) (fun b h => ⟨h.1, h.2.1⟩), _, rfl⟩, _, _, ⟨gE.cell vc (fun e => by injection e with e; have h : bg = bw := e; omega), by rw [World.frozen?_setCell]; exact vd⟩, vg.grown gE (fun b e hs => by cases e; exact hs.1.2.2.2.1 rfl)⟩
      · exact absurd (show t < 400 by omega) ht4
  case done =>
    rintro D t W rfl ⟨s, rfl, hno0, hlast⟩ ⟨-, ⟨wv, ha, hw, -⟩, gv, L, hgc, hgot⟩ hD
    obtain ⟨a0, c0, rfl, -, -⟩ := hw.2 ⟨s, by omega, hlast⟩
    obtain ⟨t, ht⟩ : ∃ t, t = s + 1 := ⟨_, rfl⟩
    rw [← ht] at ha hgot
    have HNO := Lib.hid (show ∀ i, i < t → ∀ r, r < i → ¬ LastS N K r from fun i hi r hr => hno0 r (by omega))
    clear ht hno0 hlast
    have HBB : ∀ (P : Prop), (((t : Nat) : Int) < (c : Int) → P) → (¬ ((t : Nat) : Int) < (c : Int) → P) → P := fun P h1 h2 => by
      by_cases h : ((t : Nat) : Int) < (c : Int)
      · exact h1 h
      · exact h2 h
    refine HBB _ (fun hsc => ?_) (fun hsc => ?_)
    · clear HBB
      have hDl : w6.heap.size < W.heap.size := (Array.getElem?_eq_some_iff.1 hD).1
      obtain ⟨u0, u0'⟩ := ha.cw
      obtain ⟨u1, u1'⟩ := ha.ci
      have u2 := ha.cn
      have u3 := ha.ck
      have u4 := ha.cc
      have HA := Lib.hid ha
      have HD := Lib.hid hD
      have HGC := Lib.hid hgc
      have HGO := Lib.hid hgot
      clear ha hD hgc hgot hw
      gi_wp2
      refine ⟨trivial, (callsIn_wide.2 (Some_good K N W hN hK)).mono ?_⟩
      rintro e w7 ⟨hb7, g7, cap7, rfl, hwl7⟩
      have HA7 := Lib.hid (HA.out.below hb7)
      have HD7 := Lib.hid ((hb7.block w6.heap.size hDl).trans HD.out)
      have HGC7 := Lib.hid (And.intro (cell_stays hb7 HGC.out.1) (froz_stays hb7 HGC.out.1 HGC.out.2))
      have HGO7 := Lib.hid (HGO.out.below hb7)
      have HW7 := Lib.hid hwl7
      have HBX := Lib.hid (show bi < W.heap.size ∧ bw < W.heap.size ∧ nb < W.heap.size ∧ kb < W.heap.size ∧ bg < W.heap.size ∧ w6.heap.size < W.heap.size ∧ w.heap.size + 4 ≤ W.heap.size from by
        have h1 := World.block_lt_of_cell? _ _ u1
        have h2 := World.block_lt_of_cell? _ _ HA.out.nn
        have h3 := World.block_lt_of_cell? _ _ HA.out.kk
        have h4 := World.block_lt_of_cell? _ _ u0
        have h5 := World.block_lt_of_cell? _ _ HGC.out.1
        have h6 := HA.out.lw
        simp only at h1 h2 h3 h4 h5
        omega)
      have HB7 := Lib.hid (show Wnt w7 w.heap.size (fun b => W.heap.size ≤ b) (.slice (some ⟨g7, 0, none⟩) 1 cap7) N K 0 from ⟨fun _ => wn1_start HW7.out (Below.refl _ _) (by have := HBX.out; omega) (fun b h _ => h), fun ⟨s, hs, _⟩ => absurd hs (by omega)⟩)
      have HG7 := Lib.hid ((HGO.out.sep (Sp' := fun b => b < W.heap.size ∧ Sep w nb kb bw bi w6.heap.size b) (fun b h k => ⟨h, k.1⟩)).below hb7)
      obtain ⟨m, hm⟩ : ∃ m, m = min t 400 := ⟨_, rfl⟩
      rw [← hm] at HG7
      obtain ⟨ga, gc, rfl⟩ := own_slice HG7.out.own
      have hm4 : m ≤ 400 := by omega
      have hmt : m ≤ t := by omega
      have v0 := HGC7.out.1
      clear u0 u0' u1 u1' u2 u3 u4 hb7 hwl7 HA HD HGC HGO HGO7 HW7 hm hsc
      gi_wp2
      gi_loopw [13, 14, 15] (fun v13 v14 v15 wr => ∃ i : Nat, i ≤ m ∧ v14 = .int .i64 i ∧ AgB w nb kb bw bi N K c (t : Nat) (.slice a0 0 c0) wr ∧ (wr.cell? ⟨bg, 0, none⟩ = some (.slice ga m gc) ∧ wr.frozen? ⟨bg, 0, none⟩ = false) ∧ GotS wr w.heap.size (fun b => b < W.heap.size ∧ Sep w nb kb bw bi w6.heap.size b) (.slice ga m gc) m K N L ∧ Wnt wr w.heap.size (fun b => W.heap.size ≤ b) v13 N K i ∧ wr.heap[w6.heap.size]? = some (.deferred (some []))) (fun _ v14 _ _ => m - (intOf v14).toNat)
      case atStart => exact ⟨0, Nat.zero_le _, rfl, HA7.out, HGC7.out, HG7.out, HB7.out, HD7.out⟩
      case round =>
        obtain ⟨i, hi, rfl, ha, ⟨hc0, hf0⟩, hg, hw, hd⟩ := hrel
        by_cases him : i < m
        · have him' : (i : Int) < (m : Int) := by omega
          obtain ⟨gq, cq, e, hcell⟩ := own_cellN hg.own him
          simp only [Value.slice.injEq, true_and] at e
          obtain ⟨rfl, rfl⟩ := e
          have hwn := hw.1 (HNO.out i (by omega))
          obtain ⟨u, g, cap, rfl, gu, hu, hsp⟩ := hwn.elem
          have hK64 : K ≤ 64 := by omega
          have HLQ := Lib.hid (fun n => LikeNums_quiet _ _ K (setS N K i) (wr.drewN n) hK64 (rdI64_drewN ((hg.ls i him).read hK64) n) (rdI64_drewN (hu.read hK64) n))
          have HA := Lib.hid ha
          have HG := Lib.hid hg
          have HW := Lib.hid hwn
          have HD := Lib.hid hd
          clear ha hg hw hwn hd hu
          have hmix : Try.prog.follows .mixedOrders = true := by kernel_rfl
          gi_wp2
          refine wpIn_wide.2 ?_
          go_quiet ((go_at_call 31; exact Calls.quiet_of (HLQ.out _)))
          have hbd : Below wr.heap.size wr (wr.drewN nq) := ⟨rfl, rfl, rfl, Nat.le_refl _, fun _ _ => rfl⟩
          have HA1 := Lib.hid (HA.out.below hbd)
          have HG1 := Lib.hid (HG.out.below hbd)
          have HW1 := Lib.hid (HW.out.below hbd)
          have HC1 := Lib.hid (And.intro (cell_stays hbd hc0) (froz_stays hbd hc0 hf0))
          have HD1 := Lib.hid ((hbd.block w6.heap.size (Array.getElem?_eq_some_iff.1 HD.out).1).trans HD.out)
          replace gu := cell_stays hbd gu
          have s1 := HA1.out.cn
          clear hbd HA HG HW HD hc0 hf0 hcell HLQ
          generalize wr.drewN nq = W1 at *
          have hnum : NumL W1 w.heap.size u K (setS N K i) := by
            obtain ⟨u', g', cap', e, g1, g2, -⟩ := HW1.out.elem
            simp only [Value.slice.injEq, Option.some.injEq, Addr.mk.injEq, and_true, true_and] at e
            obtain ⟨rfl, rfl⟩ := e
            rw [gu] at g1
            injection g1 with g1
            rw [g1]; exact g2
          have HNX := Lib.hid (Next_any u K N (setS N K i) W1.drew hN hK ((hnum.read hK64).below (bl_drew _)) (setS_ris hK i (HNO.out i (by omega))))
          clear hnum
          gi_wp2
          refine wpIn_wide.2 ?_
          refine wp_region_still_tail 4 (by kernel_rfl) (by kernel_rfl) ?_
          simp only [List.take_succ_cons, List.take_zero, List.drop_succ_cons, List.drop_zero]
          repeat still_step
          refine wpStill_nil ?_
          change wpList _ _ _ _ _ W1.drew
          have hbd : Below W1.heap.size W1 W1.drew := bl_drew _
          go_wp2_with (go_at_call 32; (with_reducible refine HNX.out.mono ?_); rintro e W2 ⟨hb2, hnx⟩; obtain ⟨vn, rfl, hnv⟩ : ∃ vn, e = .returned vn ∧ ((hiI N K (setS N K i) K = 0 ∧ vn = .slice none 0 0) ∨ (0 < hiI N K (setS N K i) K ∧ ∃ g cap, vn = .slice (some ⟨g, 0, none⟩) K cap ∧ NumL W2 W1.heap.size (.slice (some ⟨g, 0, none⟩) K cap) K (setS N K (i + 1)))) := (by
            rcases hnx with ⟨h1, rfl⟩ | ⟨h1, g, cap, rfl, h2⟩
            · exact ⟨_, rfl, Or.inl ⟨h1, rfl⟩⟩
            · exact ⟨_, rfl, Or.inr ⟨h1, g, cap, rfl, h2⟩⟩); have HNV := Lib.hid hnv; have HB2 := Lib.hid (hbd.trans (hb2.mono hbd.size)); clear hnx hnv hb2)
          have HA2 := Lib.hid (HA1.out.below HB2.out)
          have HG2 := Lib.hid (HG1.out.below HB2.out)
          have HC2 := Lib.hid (And.intro (cell_stays HB2.out HC1.out.1) (froz_stays HB2.out HC1.out.1 HC1.out.2))
          have HD2 := Lib.hid ((HB2.out.block w6.heap.size (Array.getElem?_eq_some_iff.1 HD1.out).1).trans HD1.out)
          have HW2 := Lib.hid (HW1.out.below HB2.out)
          have HRM := Lib.hid HW2.out.room
          have HWC := Lib.hid HW2.out.cut
          have hgl : g < W1.heap.size := World.block_lt_of_cell? _ _ gu
          have hgW : W.heap.size ≤ g := by obtain ⟨a0, c0, e0, -, h⟩ := HWC.out; exact h g rfl
          have hs2 : W1.heap.size ≤ W2.heap.size := HB2.out.size
          have hdl : w6.heap.size < W2.heap.size := (Array.getElem?_eq_some_iff.1 HD2.out).1
          clear hbd HA1 HG1 HC1 HD1 HW1 HW2 HNX HB2 gu s1 hsp
          have he0 : ∀ w : World, (binOp .neq 25 (.slice none 0 0) (.slice none 0 0)).run Try.prog w = .ok (.bool false) w := fun _ => rfl
          have he1 : ∀ (g n c : Nat) (w : World), (binOp .neq 25 (.slice (some ⟨g, 0, none⟩) n c) (.slice none 0 0)).run Try.prog w = .ok (.bool true) w := fun _ _ _ _ => rfl
          rcases HNV.out with ⟨hh, rfl⟩ | ⟨hh, g', cap', rfl, hn'⟩
          · have HWN := Lib.hid (wn0_next HWC.out hh)
            clear hh HNV HWC
            gi_wp2
            go_roundw
            case rel => exact ⟨i + 1, by omega, by go_num, HA2.out, HC2.out, HG2.out, HWN.out, HD2.out⟩
            case measure => simp [intOf] <;> omega
          · obtain ⟨i0, hi, hz0, hz1, hz2⟩ := info_parts infoNs
            have HI := Lib.hid (And.intro hi (And.intro hz0 (And.intro hz1 hz2)))
            obtain ⟨a0, c0, e0, ho, -⟩ := HWC.out
            simp only [Value.slice.injEq] at e0
            obtain ⟨rfl, -, rfl⟩ := e0
            have HO := Lib.hid (own_below ho (bl_alloc W2 (.cells #[.slice (some ⟨g', 0, none⟩) K cap'] 25)))
            have HN2 := Lib.hid hn'
            have HST := Lib.hid (fun (W7 : World) (k1 : W7.ownsRow w.heap.size 25 1 (.slice (some ⟨g, 0, none⟩) (0 + 1) cap) (0 + 1) ([] ++ [.slice (some ⟨g', 0, none⟩) K cap'])) (k2 : (W2.alloc (.cells #[.slice (some ⟨g', 0, none⟩) K cap'] 25)).grownBy W7 (some g)) =>
              (show AgB w nb kb bw bi N K c (t : Nat) (.slice a0 0 c0) W7 ∧ (W7.cell? ⟨bg, 0, none⟩ = some (.slice (some ⟨gq, 0, none⟩) m gc) ∧ W7.frozen? ⟨bg, 0, none⟩ = false) ∧ GotS W7 w.heap.size (fun b => b < W.heap.size ∧ Sep w nb kb bw bi w6.heap.size b) (.slice (some ⟨gq, 0, none⟩) m gc) m K N L ∧ Wnt W7 w.heap.size (fun b => W.heap.size ≤ b) (.slice (some ⟨g, 0, none⟩) 1 cap) N K (i + 1) ∧ W7.heap[w6.heap.size]? = some (.deferred (some [])) from by
                have gb : W2.grownBy W7 (some g) := gb_trans (gb_below (bl_alloc W2 _) _) k2
                have hbx := HBX.out
                have hbl := HA2.out.bel.size
                refine ⟨HA2.out.grown gb (fun b e => by cases e; omega), ⟨gb.cell HC2.out.1 (fun e => by injection e with e; have h : bg = g := e; omega), (World.frozen?_of_block (w := W2) (a := ⟨bg, 0, none⟩) (gb.block bg (World.block_lt_of_cell? _ _ HC2.out.1) (fun e => by injection e with e; omega))).trans HC2.out.2⟩, HG2.out.grown gb (fun b e hs => by cases e; have h := hs.1; omega),
                  wn1_next (wn1_push HN2.out (by omega) hgW (fun b h1 h2 => by omega) hgl k1 k2) (fun s hs => HNO.out i (by omega) s hs) hh, (gb.block _ hdl (fun e => by injection e with e; omega)).trans HD2.out⟩))
            clear hi hz0 hz1 hz2 ho hn' HWC HNV hh
            gi_upto_region 99 with (gi_at_builtin; refine wpListIn_append_fits _ (by rfl) _ _ 52 (by rfl) w.heap.size 25 i0 1 Try.underlying52 HI.out.1 HI.out.2.2.1 g 0 cap [] (by rfl) HO.out ⟨W2.heap.size, 0, none⟩ 1 1 [.slice (some ⟨g', 0, none⟩) K cap'] (by rfl) (by simp) (news_one _ _ _) (one_one rfl) HRM.out ?_; intro W7 k1 k2; have HKK := Lib.hid (HST.out W7 k1 k2); clear k1 k2)
            go_roundw
            case rel => exact ⟨i + 1, by omega, by go_num, HKK.out⟩
            case measure => simp [intOf] <;> omega
        · obtain rfl : i = m := by omega
          have him' : ¬ (i : Int) < (i : Int) := by omega
          obtain ⟨v0, v0'⟩ := And.intro hc0 hf0
          have HA := Lib.hid ha
          have HG := Lib.hid hg
          have HD := Lib.hid hd
          clear ha hg hw hd hc0 hf0 him
          have HBK0 := Lib.hid (BookN.start wr 60 L)
          have HBB0 := Lib.hid (bl_alloc wr (.cells #[.slice none 0 0, .slice none 0 0, .slice none 0 0] 60))
          obtain ⟨bk, hbk⟩ : ∃ bk, bk = wr.heap.size := ⟨_, rfl⟩
          have hi4 : i ≤ 400 := by omega
          gi_wp2
          rw [← hbk] at HBK0 HBB0 ⊢
          have HBKE := Lib.hid hbk
          clear hbk
          obtain ⟨Wb, hWb⟩ : ∃ Wb, Wb = wr := ⟨_, rfl⟩
          subst hWb
          generalize Wb.alloc (.cells #[.slice none 0 0, .slice none 0 0, .slice none 0 0] 60) = Wa at *
          have HV0 := Lib.hid (And.intro v0 v0')
          obtain ⟨gq, hgq⟩ : ∃ gq : Nat → Nat × Nat × Option Addr, ∀ j, j < i → L j = .slice (gq j).2.2 (gq j).1 (gq j).2.1 := ⟨fun j => match L j with | .slice a l c => (l, c, a) | _ => (0, 0, none), fun j hj => by
            obtain ⟨a, c, e⟩ := own_slice (HG.out.ls j hj)
            simp only [e]⟩
          have HGQ := Lib.hid hgq
          clear v0 v0' hgq
          gi_loopw [17] (fun v17 wr => ∃ (j : Nat) (vW : Value), j ≤ i ∧ v17 = .int .i64 j ∧ Below bk Wb wr ∧ BookN wr bk vW j L (.slice none 0 0) 0 (fun _ => .slice none 0 0)) (fun v17 _ => i - (intOf v17).toNat)
          case atStart => exact ⟨0, _, Nat.zero_le _, rfl, HBB0.out, HBK0.out⟩
          case round =>
            obtain ⟨j, vW, hj, rfl, hbl, hbo⟩ := hrel
            have w0 : wr.cell? ⟨bg, 0, none⟩ = some (.slice ga i gc) := cell_stays (hbl.mono (Nat.le_of_eq HBKE.out.symm)) HV0.out.1
            by_cases hji : j < i
            · have hji' : (j : Int) < (i : Int) := by omega
              obtain ⟨g1, c1, e1, hcell⟩ := own_cellN HG.out.own hji
              simp only [Value.slice.injEq, true_and] at e1
              obtain ⟨rfl, rfl⟩ := e1
              replace hcell := cell_stays (hbl.mono (Nat.le_of_eq HBKE.out.symm)) hcell
              have HNU := Lib.hid (fun a l c (e : L j = .slice a l c) => Num_any bk vW j L (.slice none 0 0) 0 (fun _ => .slice none 0 0) a l c (by omega) wr hbo L (fun _ _ => rfl) e)
              rw [HGQ.out j hji] at hcell
              have HNU2 := Lib.hid (HNU.out _ _ _ (HGQ.out j hji))
              have HBL := Lib.hid hbl
              clear hbl hbo HNU
              gi_wp2
              refine ⟨trivial, (callsIn_wide.2 HNU2.out).mono ?_⟩
              rintro e W2 ⟨rfl, ⟨vW', hb3⟩, hbl3⟩
              have HBL3 := Lib.hid (HBL.out.trans hbl3)
              have HBO3 := Lib.hid hb3
              clear hbl3 hb3 HBL HNU2
              gi_wp2
              go_roundw
              case rel => exact ⟨j + 1, vW', by omega, by go_num, HBL3.out, HBO3.out⟩
              case measure => simp [intOf] <;> omega
            · obtain rfl : j = i := by omega
              have hji' : ¬ (j : Int) < (j : Int) := by omega
              have HAP := Lib.hid (ApartN_grown w.heap.size bk j L (fun _ => K) vW _ (by omega) (fun _ _ => by omega) wr (HG.out.book hbl (Nat.le_of_eq HBKE.out.symm) hbo) (by have := HA.out.bel.size; have := hbl.size; omega))
              have HBL := Lib.hid hbl
              clear hbl hbo
              gi_wp2
              refine ⟨trivial, (callsIn_wide.2 HAP.out).mono ?_⟩
              rintro e W2 ⟨rfl, hgs⟩
              have hS : ∀ b, SNs j L b → b < W.heap.size ∧ Sep w nb kb bw bi w6.heap.size b := fun b ⟨k, hk, e⟩ => HG.out.lsp k hk b e
              have HFIN := Lib.hid (show (W2.cell? ⟨w.heap.size + 1 + 1 + 1, 0, none⟩ = some (.bool false) ∧ W2.frozen? ⟨w.heap.size + 1 + 1 + 1, 0, none⟩ = false) ∧ W2.heap[w6.heap.size]? = some (.deferred (some [])) ∧ Below w.heap.size w W2 from by
                have hb1 := HBL.out.mono (Nat.le_of_eq HBKE.out.symm)
                have hc1 := cell_stays hb1 HA.out.cr.1
                have hf1 := froz_stays hb1 HA.out.cr.1 HA.out.cr.2
                have hd1 := (hb1.block w6.heap.size (Array.getElem?_eq_some_iff.1 HD.out).1).trans HD.out
                have hne1 : ¬ SNs j L (w.heap.size + 1 + 1 + 1) := fun h => by have := (hS _ h).2.1; omega
                have hne2 : ¬ SNs j L w6.heap.size := fun h => (hS _ h).2.2.2.2.2.2.1 rfl
                have hlt1 := World.block_lt_of_cell? _ _ hc1
                have hk1 := hgs.block _ hlt1 hne1
                refine ⟨⟨(World.cell?_of_block (w := wr) (a := ⟨w.heap.size + 1 + 1 + 1, 0, none⟩) hk1).trans hc1, (World.frozen?_of_block (w := wr) (a := ⟨w.heap.size + 1 + 1 + 1, 0, none⟩) hk1).trans hf1⟩, (hgs.block _ (Array.getElem?_eq_some_iff.1 hd1).1 hne2).trans hd1, (below_via HA.out.bel hb1).trans (hgs.toBelow (Nat.le_trans HA.out.bel.size hb1.size) (fun k hk => by have := (hS k hk).2.1; omega))⟩)
              have HLB := Lib.hid (show w.heap.size + 1 + 1 + 1 < w6.heap.size from by have := HSB.out; have := HA.out.lw; omega)
              clear hS hgs HAP HBL HA HG HD w0 HV0
              obtain ⟨⟨v1, v1'⟩, -, -⟩ := HFIN.out
              gi_wp2
              have hk9 := KeepsOthers.setCell W2 ⟨w.heap.size + 1 + 1 + 1, 0, none⟩ (.bool true)
              have hdA := hk9.same _ _ HFIN.out.2.1 rfl
              have hcA := World.cell?_setCell_same W2 _ (Value.bool true) v1
              have hbA := HFIN.out.2.2.grown (gb_set W2 ⟨w.heap.size + 1 + 1 + 1, 0, none⟩ (.bool true)) HFIN.out.2.2.size (fun b hb => by cases hb; show w.heap.size ≤ w.heap.size + 1 + 1 + 1; omega)
              have gq2 := grownBy_putObj' (W2.setCell ⟨w.heap.size + 1 + 1 + 1, 0, none⟩ (.bool true)) w6.heap.size (.deferred none)
              have hc5 := gq2.cell hcA (by intro e; injection e with e; have h : w.heap.size + 1 + 1 + 1 = w6.heap.size := e; have := HLB.out; omega)
              have hbA2 := hbA.grown gq2 hbA.size (fun b e => by cases e; have := HLB.out; omega)
              refine ⟨by simp, .inl ⟨_, _, rfl, run_takeDeferred hdA, ?_⟩⟩
              refine ⟨.bool true, ?_, rfl, hbA2⟩
              simp [results, Try.results5, go_sem, hc5]
    · clear HBB
      have hDl : w6.heap.size < W.heap.size := (Array.getElem?_eq_some_iff.1 hD).1
      obtain ⟨u0, u0'⟩ := ha.cw
      obtain ⟨u1, u1'⟩ := ha.ci
      have u2 := ha.cn
      have u3 := ha.ck
      have u4 := ha.cc
      have HA := Lib.hid ha
      have HD := Lib.hid hD
      have HGC := Lib.hid hgc
      have HGO := Lib.hid hgot
      clear ha hD hgc hgot hw
      gi_wp2
      refine ⟨trivial, (callsIn_wide.2 (Some_good K N W hN hK)).mono ?_⟩
      rintro e w7 ⟨hb7, g7, cap7, rfl, hwl7⟩
      have HA7 := Lib.hid (HA.out.below hb7)
      have HD7 := Lib.hid ((hb7.block w6.heap.size hDl).trans HD.out)
      have HGC7 := Lib.hid (And.intro (cell_stays hb7 HGC.out.1) (froz_stays hb7 HGC.out.1 HGC.out.2))
      have HGO7 := Lib.hid (HGO.out.below hb7)
      have HW7 := Lib.hid hwl7
      have HBX := Lib.hid (show bi < W.heap.size ∧ bw < W.heap.size ∧ nb < W.heap.size ∧ kb < W.heap.size ∧ bg < W.heap.size ∧ w6.heap.size < W.heap.size ∧ w.heap.size + 4 ≤ W.heap.size from by
        have h1 := World.block_lt_of_cell? _ _ u1
        have h2 := World.block_lt_of_cell? _ _ HA.out.nn
        have h3 := World.block_lt_of_cell? _ _ HA.out.kk
        have h4 := World.block_lt_of_cell? _ _ u0
        have h5 := World.block_lt_of_cell? _ _ HGC.out.1
        have h6 := HA.out.lw
        simp only at h1 h2 h3 h4 h5
        omega)
      have HB7 := Lib.hid (show Wnt w7 w.heap.size (fun b => W.heap.size ≤ b) (.slice (some ⟨g7, 0, none⟩) 1 cap7) N K 0 from ⟨fun _ => wn1_start HW7.out (Below.refl _ _) (by have := HBX.out; omega) (fun b h _ => h), fun ⟨s, hs, _⟩ => absurd hs (by omega)⟩)
      have HG7 := Lib.hid ((HGO.out.sep (Sp' := fun b => b < W.heap.size ∧ Sep w nb kb bw bi w6.heap.size b) (fun b h k => ⟨h, k.1⟩)).below hb7)
      obtain ⟨m, hm⟩ : ∃ m, m = min t 400 := ⟨_, rfl⟩
      rw [← hm] at HG7
      obtain ⟨ga, gc, rfl⟩ := own_slice HG7.out.own
      have hm4 : m ≤ 400 := by omega
      have hmt : m ≤ t := by omega
      have v0 := HGC7.out.1
      clear u0 u0' u1 u1' u2 u3 u4 hb7 hwl7 HA HD HGC HGO HGO7 HW7 hm hsc
      gi_wp2
      gi_loopw [13, 14, 15] (fun v13 v14 v15 wr => ∃ i : Nat, i ≤ m ∧ v14 = .int .i64 i ∧ AgB w nb kb bw bi N K c (t : Nat) (.slice a0 0 c0) wr ∧ (wr.cell? ⟨bg, 0, none⟩ = some (.slice ga m gc) ∧ wr.frozen? ⟨bg, 0, none⟩ = false) ∧ GotS wr w.heap.size (fun b => b < W.heap.size ∧ Sep w nb kb bw bi w6.heap.size b) (.slice ga m gc) m K N L ∧ Wnt wr w.heap.size (fun b => W.heap.size ≤ b) v13 N K i ∧ wr.heap[w6.heap.size]? = some (.deferred (some []))) (fun _ v14 _ _ => m - (intOf v14).toNat)
      case atStart => exact ⟨0, Nat.zero_le _, rfl, HA7.out, HGC7.out, HG7.out, HB7.out, HD7.out⟩
      case round =>
        obtain ⟨i, hi, rfl, ha, ⟨hc0, hf0⟩, hg, hw, hd⟩ := hrel
        by_cases him : i < m
        · have him' : (i : Int) < (m : Int) := by omega
          obtain ⟨gq, cq, e, hcell⟩ := own_cellN hg.own him
          simp only [Value.slice.injEq, true_and] at e
          obtain ⟨rfl, rfl⟩ := e
          have hwn := hw.1 (HNO.out i (by omega))
          obtain ⟨u, g, cap, rfl, gu, hu, hsp⟩ := hwn.elem
          have hK64 : K ≤ 64 := by omega
          have HLQ := Lib.hid (fun n => LikeNums_quiet _ _ K (setS N K i) (wr.drewN n) hK64 (rdI64_drewN ((hg.ls i him).read hK64) n) (rdI64_drewN (hu.read hK64) n))
          have HA := Lib.hid ha
          have HG := Lib.hid hg
          have HW := Lib.hid hwn
          have HD := Lib.hid hd
          clear ha hg hw hwn hd hu
          have hmix : Try.prog.follows .mixedOrders = true := by kernel_rfl
          gi_wp2
          refine wpIn_wide.2 ?_
          go_quiet ((go_at_call 31; exact Calls.quiet_of (HLQ.out _)))
          have hbd : Below wr.heap.size wr (wr.drewN nq) := ⟨rfl, rfl, rfl, Nat.le_refl _, fun _ _ => rfl⟩
          have HA1 := Lib.hid (HA.out.below hbd)
          have HG1 := Lib.hid (HG.out.below hbd)
          have HW1 := Lib.hid (HW.out.below hbd)
          have HC1 := Lib.hid (And.intro (cell_stays hbd hc0) (froz_stays hbd hc0 hf0))
          have HD1 := Lib.hid ((hbd.block w6.heap.size (Array.getElem?_eq_some_iff.1 HD.out).1).trans HD.out)
          replace gu := cell_stays hbd gu
          have s1 := HA1.out.cn
          clear hbd HA HG HW HD hc0 hf0 hcell HLQ
          generalize wr.drewN nq = W1 at *
          have hnum : NumL W1 w.heap.size u K (setS N K i) := by
            obtain ⟨u', g', cap', e, g1, g2, -⟩ := HW1.out.elem
            simp only [Value.slice.injEq, Option.some.injEq, Addr.mk.injEq, and_true, true_and] at e
            obtain ⟨rfl, rfl⟩ := e
            rw [gu] at g1
            injection g1 with g1
            rw [g1]; exact g2
          have HNX := Lib.hid (Next_any u K N (setS N K i) W1.drew hN hK ((hnum.read hK64).below (bl_drew _)) (setS_ris hK i (HNO.out i (by omega))))
          clear hnum
          gi_wp2
          refine wpIn_wide.2 ?_
          refine wp_region_still_tail 4 (by kernel_rfl) (by kernel_rfl) ?_
          simp only [List.take_succ_cons, List.take_zero, List.drop_succ_cons, List.drop_zero]
          repeat still_step
          refine wpStill_nil ?_
          change wpList _ _ _ _ _ W1.drew
          have hbd : Below W1.heap.size W1 W1.drew := bl_drew _
          go_wp2_with (go_at_call 32; (with_reducible refine HNX.out.mono ?_); rintro e W2 ⟨hb2, hnx⟩; obtain ⟨vn, rfl, hnv⟩ : ∃ vn, e = .returned vn ∧ ((hiI N K (setS N K i) K = 0 ∧ vn = .slice none 0 0) ∨ (0 < hiI N K (setS N K i) K ∧ ∃ g cap, vn = .slice (some ⟨g, 0, none⟩) K cap ∧ NumL W2 W1.heap.size (.slice (some ⟨g, 0, none⟩) K cap) K (setS N K (i + 1)))) := (by
            rcases hnx with ⟨h1, rfl⟩ | ⟨h1, g, cap, rfl, h2⟩
            · exact ⟨_, rfl, Or.inl ⟨h1, rfl⟩⟩
            · exact ⟨_, rfl, Or.inr ⟨h1, g, cap, rfl, h2⟩⟩); have HNV := Lib.hid hnv; have HB2 := Lib.hid (hbd.trans (hb2.mono hbd.size)); clear hnx hnv hb2)
          have HA2 := Lib.hid (HA1.out.below HB2.out)
          have HG2 := Lib.hid (HG1.out.below HB2.out)
          have HC2 := Lib.hid (And.intro (cell_stays HB2.out HC1.out.1) (froz_stays HB2.out HC1.out.1 HC1.out.2))
          have HD2 := Lib.hid ((HB2.out.block w6.heap.size (Array.getElem?_eq_some_iff.1 HD1.out).1).trans HD1.out)
          have HW2 := Lib.hid (HW1.out.below HB2.out)
          have HRM := Lib.hid HW2.out.room
          have HWC := Lib.hid HW2.out.cut
          have hgl : g < W1.heap.size := World.block_lt_of_cell? _ _ gu
          have hgW : W.heap.size ≤ g := by obtain ⟨a0, c0, e0, -, h⟩ := HWC.out; exact h g rfl
          have hs2 : W1.heap.size ≤ W2.heap.size := HB2.out.size
          have hdl : w6.heap.size < W2.heap.size := (Array.getElem?_eq_some_iff.1 HD2.out).1
          clear hbd HA1 HG1 HC1 HD1 HW1 HW2 HNX HB2 gu s1 hsp
          have he0 : ∀ w : World, (binOp .neq 25 (.slice none 0 0) (.slice none 0 0)).run Try.prog w = .ok (.bool false) w := fun _ => rfl
          have he1 : ∀ (g n c : Nat) (w : World), (binOp .neq 25 (.slice (some ⟨g, 0, none⟩) n c) (.slice none 0 0)).run Try.prog w = .ok (.bool true) w := fun _ _ _ _ => rfl
          rcases HNV.out with ⟨hh, rfl⟩ | ⟨hh, g', cap', rfl, hn'⟩
          · have HWN := Lib.hid (wn0_next HWC.out hh)
            clear hh HNV HWC
            gi_wp2
            go_roundw
            case rel => exact ⟨i + 1, by omega, by go_num, HA2.out, HC2.out, HG2.out, HWN.out, HD2.out⟩
            case measure => simp [intOf] <;> omega
          · obtain ⟨i0, hi, hz0, hz1, hz2⟩ := info_parts infoNs
            have HI := Lib.hid (And.intro hi (And.intro hz0 (And.intro hz1 hz2)))
            obtain ⟨a0, c0, e0, ho, -⟩ := HWC.out
            simp only [Value.slice.injEq] at e0
            obtain ⟨rfl, -, rfl⟩ := e0
            have HO := Lib.hid (own_below ho (bl_alloc W2 (.cells #[.slice (some ⟨g', 0, none⟩) K cap'] 25)))
            have HN2 := Lib.hid hn'
            have HST := Lib.hid (fun (W7 : World) (k1 : W7.ownsRow w.heap.size 25 1 (.slice (some ⟨g, 0, none⟩) (0 + 1) cap) (0 + 1) ([] ++ [.slice (some ⟨g', 0, none⟩) K cap'])) (k2 : (W2.alloc (.cells #[.slice (some ⟨g', 0, none⟩) K cap'] 25)).grownBy W7 (some g)) =>
              (show AgB w nb kb bw bi N K c (t : Nat) (.slice a0 0 c0) W7 ∧ (W7.cell? ⟨bg, 0, none⟩ = some (.slice (some ⟨gq, 0, none⟩) m gc) ∧ W7.frozen? ⟨bg, 0, none⟩ = false) ∧ GotS W7 w.heap.size (fun b => b < W.heap.size ∧ Sep w nb kb bw bi w6.heap.size b) (.slice (some ⟨gq, 0, none⟩) m gc) m K N L ∧ Wnt W7 w.heap.size (fun b => W.heap.size ≤ b) (.slice (some ⟨g, 0, none⟩) 1 cap) N K (i + 1) ∧ W7.heap[w6.heap.size]? = some (.deferred (some [])) from by
                have gb : W2.grownBy W7 (some g) := gb_trans (gb_below (bl_alloc W2 _) _) k2
                have hbx := HBX.out
                have hbl := HA2.out.bel.size
                refine ⟨HA2.out.grown gb (fun b e => by cases e; omega), ⟨gb.cell HC2.out.1 (fun e => by injection e with e; have h : bg = g := e; omega), (World.frozen?_of_block (w := W2) (a := ⟨bg, 0, none⟩) (gb.block bg (World.block_lt_of_cell? _ _ HC2.out.1) (fun e => by injection e with e; omega))).trans HC2.out.2⟩, HG2.out.grown gb (fun b e hs => by cases e; have h := hs.1; omega),
                  wn1_next (wn1_push HN2.out (by omega) hgW (fun b h1 h2 => by omega) hgl k1 k2) (fun s hs => HNO.out i (by omega) s hs) hh, (gb.block _ hdl (fun e => by injection e with e; omega)).trans HD2.out⟩))
            clear hi hz0 hz1 hz2 ho hn' HWC HNV hh
            gi_upto_region 99 with (gi_at_builtin; refine wpListIn_append_fits _ (by rfl) _ _ 52 (by rfl) w.heap.size 25 i0 1 Try.underlying52 HI.out.1 HI.out.2.2.1 g 0 cap [] (by rfl) HO.out ⟨W2.heap.size, 0, none⟩ 1 1 [.slice (some ⟨g', 0, none⟩) K cap'] (by rfl) (by simp) (news_one _ _ _) (one_one rfl) HRM.out ?_; intro W7 k1 k2; have HKK := Lib.hid (HST.out W7 k1 k2); clear k1 k2)
            go_roundw
            case rel => exact ⟨i + 1, by omega, by go_num, HKK.out⟩
            case measure => simp [intOf] <;> omega
        · obtain rfl : i = m := by omega
          have him' : ¬ (i : Int) < (i : Int) := by omega
          obtain ⟨v0, v0'⟩ := And.intro hc0 hf0
          have HA := Lib.hid ha
          have HG := Lib.hid hg
          have HD := Lib.hid hd
          clear ha hg hw hd hc0 hf0 him
          have HBK0 := Lib.hid (BookN.start wr 60 L)
          have HBB0 := Lib.hid (bl_alloc wr (.cells #[.slice none 0 0, .slice none 0 0, .slice none 0 0] 60))
          obtain ⟨bk, hbk⟩ : ∃ bk, bk = wr.heap.size := ⟨_, rfl⟩
          have hi4 : i ≤ 400 := by omega
          gi_wp2
          rw [← hbk] at HBK0 HBB0 ⊢
          have HBKE := Lib.hid hbk
          clear hbk
          obtain ⟨Wb, hWb⟩ : ∃ Wb, Wb = wr := ⟨_, rfl⟩
          subst hWb
          generalize Wb.alloc (.cells #[.slice none 0 0, .slice none 0 0, .slice none 0 0] 60) = Wa at *
          have HV0 := Lib.hid (And.intro v0 v0')
          obtain ⟨gq, hgq⟩ : ∃ gq : Nat → Nat × Nat × Option Addr, ∀ j, j < i → L j = .slice (gq j).2.2 (gq j).1 (gq j).2.1 := ⟨fun j => match L j with | .slice a l c => (l, c, a) | _ => (0, 0, none), fun j hj => by
            obtain ⟨a, c, e⟩ := own_slice (HG.out.ls j hj)
            simp only [e]⟩
          have HGQ := Lib.hid hgq
          clear v0 v0' hgq
          gi_loopw [17] (fun v17 wr => ∃ (j : Nat) (vW : Value), j ≤ i ∧ v17 = .int .i64 j ∧ Below bk Wb wr ∧ BookN wr bk vW j L (.slice none 0 0) 0 (fun _ => .slice none 0 0)) (fun v17 _ => i - (intOf v17).toNat)
          case atStart => exact ⟨0, _, Nat.zero_le _, rfl, HBB0.out, HBK0.out⟩
          case round =>
            obtain ⟨j, vW, hj, rfl, hbl, hbo⟩ := hrel
            have w0 : wr.cell? ⟨bg, 0, none⟩ = some (.slice ga i gc) := cell_stays (hbl.mono (Nat.le_of_eq HBKE.out.symm)) HV0.out.1
            by_cases hji : j < i
            · have hji' : (j : Int) < (i : Int) := by omega
              obtain ⟨g1, c1, e1, hcell⟩ := own_cellN HG.out.own hji
              simp only [Value.slice.injEq, true_and] at e1
              obtain ⟨rfl, rfl⟩ := e1
              replace hcell := cell_stays (hbl.mono (Nat.le_of_eq HBKE.out.symm)) hcell
              have HNU := Lib.hid (fun a l c (e : L j = .slice a l c) => Num_any bk vW j L (.slice none 0 0) 0 (fun _ => .slice none 0 0) a l c (by omega) wr hbo L (fun _ _ => rfl) e)
              rw [HGQ.out j hji] at hcell
              have HNU2 := Lib.hid (HNU.out _ _ _ (HGQ.out j hji))
              have HBL := Lib.hid hbl
              clear hbl hbo HNU
              gi_wp2
              refine ⟨trivial, (callsIn_wide.2 HNU2.out).mono ?_⟩
              rintro e W2 ⟨rfl, ⟨vW', hb3⟩, hbl3⟩
              have HBL3 := Lib.hid (HBL.out.trans hbl3)
              have HBO3 := Lib.hid hb3
              clear hbl3 hb3 HBL HNU2
              gi_wp2
              go_roundw
              case rel => exact ⟨j + 1, vW', by omega, by go_num, HBL3.out, HBO3.out⟩
              case measure => simp [intOf] <;> omega
            · obtain rfl : j = i := by omega
              have hji' : ¬ (j : Int) < (j : Int) := by omega
              have HAP := Lib.hid (ApartN_grown w.heap.size bk j L (fun _ => K) vW _ (by omega) (fun _ _ => by omega) wr (HG.out.book hbl (Nat.le_of_eq HBKE.out.symm) hbo) (by have := HA.out.bel.size; have := hbl.size; omega))
              have HBL := Lib.hid hbl
              clear hbl hbo
              gi_wp2
              refine ⟨trivial, (callsIn_wide.2 HAP.out).mono ?_⟩
              rintro e W2 ⟨rfl, hgs⟩
              have hS : ∀ b, SNs j L b → b < W.heap.size ∧ Sep w nb kb bw bi w6.heap.size b := fun b ⟨k, hk, e⟩ => HG.out.lsp k hk b e
              have HFIN := Lib.hid (show (W2.cell? ⟨w.heap.size + 1 + 1 + 1, 0, none⟩ = some (.bool false) ∧ W2.frozen? ⟨w.heap.size + 1 + 1 + 1, 0, none⟩ = false) ∧ W2.heap[w6.heap.size]? = some (.deferred (some [])) ∧ Below w.heap.size w W2 from by
                have hb1 := HBL.out.mono (Nat.le_of_eq HBKE.out.symm)
                have hc1 := cell_stays hb1 HA.out.cr.1
                have hf1 := froz_stays hb1 HA.out.cr.1 HA.out.cr.2
                have hd1 := (hb1.block w6.heap.size (Array.getElem?_eq_some_iff.1 HD.out).1).trans HD.out
                have hne1 : ¬ SNs j L (w.heap.size + 1 + 1 + 1) := fun h => by have := (hS _ h).2.1; omega
                have hne2 : ¬ SNs j L w6.heap.size := fun h => (hS _ h).2.2.2.2.2.2.1 rfl
                have hlt1 := World.block_lt_of_cell? _ _ hc1
                have hk1 := hgs.block _ hlt1 hne1
                refine ⟨⟨(World.cell?_of_block (w := wr) (a := ⟨w.heap.size + 1 + 1 + 1, 0, none⟩) hk1).trans hc1, (World.frozen?_of_block (w := wr) (a := ⟨w.heap.size + 1 + 1 + 1, 0, none⟩) hk1).trans hf1⟩, (hgs.block _ (Array.getElem?_eq_some_iff.1 hd1).1 hne2).trans hd1, (below_via HA.out.bel hb1).trans (hgs.toBelow (Nat.le_trans HA.out.bel.size hb1.size) (fun k hk => by have := (hS k hk).2.1; omega))⟩)
              have HLB := Lib.hid (show w.heap.size + 1 + 1 + 1 < w6.heap.size from by have := HSB.out; have := HA.out.lw; omega)
              clear hS hgs HAP HBL HA HG HD w0 HV0
              obtain ⟨⟨v1, v1'⟩, -, -⟩ := HFIN.out
              gi_wp2
              have hk9 := KeepsOthers.setCell W2 ⟨w.heap.size + 1 + 1 + 1, 0, none⟩ (.bool true)
              have hdA := hk9.same _ _ HFIN.out.2.1 rfl
              have hcA := World.cell?_setCell_same W2 _ (Value.bool true) v1
              have hbA := HFIN.out.2.2.grown (gb_set W2 ⟨w.heap.size + 1 + 1 + 1, 0, none⟩ (.bool true)) HFIN.out.2.2.size (fun b hb => by cases hb; show w.heap.size ≤ w.heap.size + 1 + 1 + 1; omega)
              have gq2 := grownBy_putObj' (W2.setCell ⟨w.heap.size + 1 + 1 + 1, 0, none⟩ (.bool true)) w6.heap.size (.deferred none)
              have hc5 := gq2.cell hcA (by intro e; injection e with e; have h : w.heap.size + 1 + 1 + 1 = w6.heap.size := e; have := HLB.out; omega)
              have hbA2 := hbA.grown gq2 hbA.size (fun b e => by cases e; have := HLB.out; omega)
              refine ⟨by simp, .inl ⟨_, _, rfl, run_takeDeferred hdA, ?_⟩⟩
              refine ⟨.bool true, ?_, rfl, hbA2⟩
              simp [results, Try.results5, go_sem, hc5]
  case stop =>
    rintro D j W rfl ⟨rfl, t, wv, ⟨⟨htc, ht0⟩, hno⟩, ha, gv, L, hgc, hgot⟩ hD
    have hsc : ¬ (t : Int) < (c : Int) := by omega
    have HNO := Lib.hid (show ∀ i, i < t → ∀ r, r < i → ¬ LastS N K r from fun i hi r hr => hno r (by omega))
    clear hno
    have hDl : w6.heap.size < W.heap.size := (Array.getElem?_eq_some_iff.1 hD).1
    obtain ⟨u0, u0'⟩ := ha.cw
    obtain ⟨u1, u1'⟩ := ha.ci
    have u2 := ha.cn
    have u3 := ha.ck
    have u4 := ha.cc
    have HA := Lib.hid ha
    have HD := Lib.hid hD
    have HGC := Lib.hid hgc
    have HGO := Lib.hid hgot
    clear ha hD hgc hgot
    gi_wp2
    refine ⟨trivial, (callsIn_wide.2 (Some_good K N W hN hK)).mono ?_⟩
    rintro e w7 ⟨hb7, g7, cap7, rfl, hwl7⟩
    have HA7 := Lib.hid (HA.out.below hb7)
    have HD7 := Lib.hid ((hb7.block w6.heap.size hDl).trans HD.out)
    have HGC7 := Lib.hid (And.intro (cell_stays hb7 HGC.out.1) (froz_stays hb7 HGC.out.1 HGC.out.2))
    have HGO7 := Lib.hid (HGO.out.below hb7)
    have HW7 := Lib.hid hwl7
    have HBX := Lib.hid (show bi < W.heap.size ∧ bw < W.heap.size ∧ nb < W.heap.size ∧ kb < W.heap.size ∧ bg < W.heap.size ∧ w6.heap.size < W.heap.size ∧ w.heap.size + 4 ≤ W.heap.size from by
      have h1 := World.block_lt_of_cell? _ _ u1
      have h2 := World.block_lt_of_cell? _ _ HA.out.nn
      have h3 := World.block_lt_of_cell? _ _ HA.out.kk
      have h4 := World.block_lt_of_cell? _ _ u0
      have h5 := World.block_lt_of_cell? _ _ HGC.out.1
      have h6 := HA.out.lw
      simp only at h1 h2 h3 h4 h5
      omega)
    have HB7 := Lib.hid (show Wnt w7 w.heap.size (fun b => W.heap.size ≤ b) (.slice (some ⟨g7, 0, none⟩) 1 cap7) N K 0 from ⟨fun _ => wn1_start HW7.out (Below.refl _ _) (by have := HBX.out; omega) (fun b h _ => h), fun ⟨s, hs, _⟩ => absurd hs (by omega)⟩)
    have HG7 := Lib.hid ((HGO.out.sep (Sp' := fun b => b < W.heap.size ∧ Sep w nb kb bw bi w6.heap.size b) (fun b h k => ⟨h, k.1⟩)).below hb7)
    obtain ⟨m, hm⟩ : ∃ m, m = min t 400 := ⟨_, rfl⟩
    rw [← hm] at HG7
    obtain ⟨ga, gc, rfl⟩ := own_slice HG7.out.own
    have hm4 : m ≤ 400 := by omega
    have hmt : m ≤ t := by omega
    have v0 := HGC7.out.1
    clear u0 u0' u1 u1' u2 u3 u4 hb7 hwl7 HA HD HGC HGO HGO7 HW7 hm hsc
    gi_wp2
    gi_loopw [13, 14, 15] (fun v13 v14 v15 wr => ∃ i : Nat, i ≤ m ∧ v14 = .int .i64 i ∧ AgB w nb kb bw bi N K c (t : Nat) wv wr ∧ (wr.cell? ⟨bg, 0, none⟩ = some (.slice ga m gc) ∧ wr.frozen? ⟨bg, 0, none⟩ = false) ∧ GotS wr w.heap.size (fun b => b < W.heap.size ∧ Sep w nb kb bw bi w6.heap.size b) (.slice ga m gc) m K N L ∧ Wnt wr w.heap.size (fun b => W.heap.size ≤ b) v13 N K i ∧ wr.heap[w6.heap.size]? = some (.deferred (some []))) (fun _ v14 _ _ => m - (intOf v14).toNat)
    case atStart => exact ⟨0, Nat.zero_le _, rfl, HA7.out, HGC7.out, HG7.out, HB7.out, HD7.out⟩
    case round =>
      obtain ⟨i, hi, rfl, ha, ⟨hc0, hf0⟩, hg, hw, hd⟩ := hrel
      by_cases him : i < m
      · have him' : (i : Int) < (m : Int) := by omega
        obtain ⟨gq, cq, e, hcell⟩ := own_cellN hg.own him
        simp only [Value.slice.injEq, true_and] at e
        obtain ⟨rfl, rfl⟩ := e
        have hwn := hw.1 (HNO.out i (by omega))
        obtain ⟨u, g, cap, rfl, gu, hu, hsp⟩ := hwn.elem
        have hK64 : K ≤ 64 := by omega
        have HLQ := Lib.hid (fun n => LikeNums_quiet _ _ K (setS N K i) (wr.drewN n) hK64 (rdI64_drewN ((hg.ls i him).read hK64) n) (rdI64_drewN (hu.read hK64) n))
        have HA := Lib.hid ha
        have HG := Lib.hid hg
        have HW := Lib.hid hwn
        have HD := Lib.hid hd
        clear ha hg hw hwn hd hu
        have hmix : Try.prog.follows .mixedOrders = true := by kernel_rfl
        gi_wp2
        refine wpIn_wide.2 ?_
        go_quiet ((go_at_call 31; exact Calls.quiet_of (HLQ.out _)))
        have hbd : Below wr.heap.size wr (wr.drewN nq) := ⟨rfl, rfl, rfl, Nat.le_refl _, fun _ _ => rfl⟩
        have HA1 := Lib.hid (HA.out.below hbd)
        have HG1 := Lib.hid (HG.out.below hbd)
        have HW1 := Lib.hid (HW.out.below hbd)
        have HC1 := Lib.hid (And.intro (cell_stays hbd hc0) (froz_stays hbd hc0 hf0))
        have HD1 := Lib.hid ((hbd.block w6.heap.size (Array.getElem?_eq_some_iff.1 HD.out).1).trans HD.out)
        replace gu := cell_stays hbd gu
        have s1 := HA1.out.cn
        clear hbd HA HG HW HD hc0 hf0 hcell HLQ
        generalize wr.drewN nq = W1 at *
        have hnum : NumL W1 w.heap.size u K (setS N K i) := by
          obtain ⟨u', g', cap', e, g1, g2, -⟩ := HW1.out.elem
          simp only [Value.slice.injEq, Option.some.injEq, Addr.mk.injEq, and_true, true_and] at e
          obtain ⟨rfl, rfl⟩ := e
          rw [gu] at g1
          injection g1 with g1
          rw [g1]; exact g2
        have HNX := Lib.hid (Next_any u K N (setS N K i) W1.drew hN hK ((hnum.read hK64).below (bl_drew _)) (setS_ris hK i (HNO.out i (by omega))))
        clear hnum
        gi_wp2
        refine wpIn_wide.2 ?_
        refine wp_region_still_tail 4 (by kernel_rfl) (by kernel_rfl) ?_
        simp only [List.take_succ_cons, List.take_zero, List.drop_succ_cons, List.drop_zero]
        repeat still_step
        refine wpStill_nil ?_
        change wpList _ _ _ _ _ W1.drew
        have hbd : Below W1.heap.size W1 W1.drew := bl_drew _
        go_wp2_with (go_at_call 32; (with_reducible refine HNX.out.mono ?_); rintro e W2 ⟨hb2, hnx⟩; obtain ⟨vn, rfl, hnv⟩ : ∃ vn, e = .returned vn ∧ ((hiI N K (setS N K i) K = 0 ∧ vn = .slice none 0 0) ∨ (0 < hiI N K (setS N K i) K ∧ ∃ g cap, vn = .slice (some ⟨g, 0, none⟩) K cap ∧ NumL W2 W1.heap.size (.slice (some ⟨g, 0, none⟩) K cap) K (setS N K (i + 1)))) := (by
          rcases hnx with ⟨h1, rfl⟩ | ⟨h1, g, cap, rfl, h2⟩
          · exact ⟨_, rfl, Or.inl ⟨h1, rfl⟩⟩
          · exact ⟨_, rfl, Or.inr ⟨h1, g, cap, rfl, h2⟩⟩); have HNV := Lib.hid hnv; have HB2 := Lib.hid (hbd.trans (hb2.mono hbd.size)); clear hnx hnv hb2)
        have HA2 := Lib.hid (HA1.out.below HB2.out)
        have HG2 := Lib.hid (HG1.out.below HB2.out)
        have HC2 := Lib.hid (And.intro (cell_stays HB2.out HC1.out.1) (froz_stays HB2.out HC1.out.1 HC1.out.2))
        have HD2 := Lib.hid ((HB2.out.block w6.heap.size (Array.getElem?_eq_some_iff.1 HD1.out).1).trans HD1.out)
        have HW2 := Lib.hid (HW1.out.below HB2.out)
        have HRM := Lib.hid HW2.out.room
        have HWC := Lib.hid HW2.out.cut
        have hgl : g < W1.heap.size := World.block_lt_of_cell? _ _ gu
        have hgW : W.heap.size ≤ g := by obtain ⟨a0, c0, e0, -, h⟩ := HWC.out; exact h g rfl
        have hs2 : W1.heap.size ≤ W2.heap.size := HB2.out.size
        have hdl : w6.heap.size < W2.heap.size := (Array.getElem?_eq_some_iff.1 HD2.out).1
        clear hbd HA1 HG1 HC1 HD1 HW1 HW2 HNX HB2 gu s1 hsp
        have he0 : ∀ w : World, (binOp .neq 25 (.slice none 0 0) (.slice none 0 0)).run Try.prog w = .ok (.bool false) w := fun _ => rfl
        have he1 : ∀ (g n c : Nat) (w : World), (binOp .neq 25 (.slice (some ⟨g, 0, none⟩) n c) (.slice none 0 0)).run Try.prog w = .ok (.bool true) w := fun _ _ _ _ => rfl
        rcases HNV.out with ⟨hh, rfl⟩ | ⟨hh, g', cap', rfl, hn'⟩
        · have HWN := Lib.hid (wn0_next HWC.out hh)
          clear hh HNV HWC
          gi_wp2
          go_roundw
          case rel => exact ⟨i + 1, by omega, by go_num, HA2.out, HC2.out, HG2.out, HWN.out, HD2.out⟩
          case measure => simp [intOf] <;> omega
        · obtain ⟨i0, hi, hz0, hz1, hz2⟩ := info_parts infoNs
          have HI := Lib.hid (And.intro hi (And.intro hz0 (And.intro hz1 hz2)))
          obtain ⟨a0, c0, e0, ho, -⟩ := HWC.out
          simp only [Value.slice.injEq] at e0
          obtain ⟨rfl, -, rfl⟩ := e0
          have HO := Lib.hid (own_below ho (bl_alloc W2 (.cells #[.slice (some ⟨g', 0, none⟩) K cap'] 25)))
          have HN2 := Lib.hid hn'
          have HST := Lib.hid (fun (W7 : World) (k1 : W7.ownsRow w.heap.size 25 1 (.slice (some ⟨g, 0, none⟩) (0 + 1) cap) (0 + 1) ([] ++ [.slice (some ⟨g', 0, none⟩) K cap'])) (k2 : (W2.alloc (.cells #[.slice (some ⟨g', 0, none⟩) K cap'] 25)).grownBy W7 (some g)) =>
            (show AgB w nb kb bw bi N K c (t : Nat) wv W7 ∧ (W7.cell? ⟨bg, 0, none⟩ = some (.slice (some ⟨gq, 0, none⟩) m gc) ∧ W7.frozen? ⟨bg, 0, none⟩ = false) ∧ GotS W7 w.heap.size (fun b => b < W.heap.size ∧ Sep w nb kb bw bi w6.heap.size b) (.slice (some ⟨gq, 0, none⟩) m gc) m K N L ∧ Wnt W7 w.heap.size (fun b => W.heap.size ≤ b) (.slice (some ⟨g, 0, none⟩) 1 cap) N K (i + 1) ∧ W7.heap[w6.heap.size]? = some (.deferred (some [])) from by
              have gb : W2.grownBy W7 (some g) := gb_trans (gb_below (bl_alloc W2 _) _) k2
              have hbx := HBX.out
              have hbl := HA2.out.bel.size
              refine ⟨HA2.out.grown gb (fun b e => by cases e; omega), ⟨gb.cell HC2.out.1 (fun e => by injection e with e; have h : bg = g := e; omega), (World.frozen?_of_block (w := W2) (a := ⟨bg, 0, none⟩) (gb.block bg (World.block_lt_of_cell? _ _ HC2.out.1) (fun e => by injection e with e; omega))).trans HC2.out.2⟩, HG2.out.grown gb (fun b e hs => by cases e; have h := hs.1; omega),
                wn1_next (wn1_push HN2.out (by omega) hgW (fun b h1 h2 => by omega) hgl k1 k2) (fun s hs => HNO.out i (by omega) s hs) hh, (gb.block _ hdl (fun e => by injection e with e; omega)).trans HD2.out⟩))
          clear hi hz0 hz1 hz2 ho hn' HWC HNV hh
          gi_upto_region 99 with (gi_at_builtin; refine wpListIn_append_fits _ (by rfl) _ _ 52 (by rfl) w.heap.size 25 i0 1 Try.underlying52 HI.out.1 HI.out.2.2.1 g 0 cap [] (by rfl) HO.out ⟨W2.heap.size, 0, none⟩ 1 1 [.slice (some ⟨g', 0, none⟩) K cap'] (by rfl) (by simp) (news_one _ _ _) (one_one rfl) HRM.out ?_; intro W7 k1 k2; have HKK := Lib.hid (HST.out W7 k1 k2); clear k1 k2)
          go_roundw
          case rel => exact ⟨i + 1, by omega, by go_num, HKK.out⟩
          case measure => simp [intOf] <;> omega
      · obtain rfl : i = m := by omega
        have him' : ¬ (i : Int) < (i : Int) := by omega
        obtain ⟨v0, v0'⟩ := And.intro hc0 hf0
        have HA := Lib.hid ha
        have HG := Lib.hid hg
        have HD := Lib.hid hd
        clear ha hg hw hd hc0 hf0 him
        have HBK0 := Lib.hid (BookN.start wr 60 L)
        have HBB0 := Lib.hid (bl_alloc wr (.cells #[.slice none 0 0, .slice none 0 0, .slice none 0 0] 60))
        obtain ⟨bk, hbk⟩ : ∃ bk, bk = wr.heap.size := ⟨_, rfl⟩
        have hi4 : i ≤ 400 := by omega
        gi_wp2
        rw [← hbk] at HBK0 HBB0 ⊢
        have HBKE := Lib.hid hbk
        clear hbk
        obtain ⟨Wb, hWb⟩ : ∃ Wb, Wb = wr := ⟨_, rfl⟩
        subst hWb
        generalize Wb.alloc (.cells #[.slice none 0 0, .slice none 0 0, .slice none 0 0] 60) = Wa at *
        have HV0 := Lib.hid (And.intro v0 v0')
        obtain ⟨gq, hgq⟩ : ∃ gq : Nat → Nat × Nat × Option Addr, ∀ j, j < i → L j = .slice (gq j).2.2 (gq j).1 (gq j).2.1 := ⟨fun j => match L j with | .slice a l c => (l, c, a) | _ => (0, 0, none), fun j hj => by
          obtain ⟨a, c, e⟩ := own_slice (HG.out.ls j hj)
          simp only [e]⟩
        have HGQ := Lib.hid hgq
        clear v0 v0' hgq
        gi_loopw [17] (fun v17 wr => ∃ (j : Nat) (vW : Value), j ≤ i ∧ v17 = .int .i64 j ∧ Below bk Wb wr ∧ BookN wr bk vW j L (.slice none 0 0) 0 (fun _ => .slice none 0 0)) (fun v17 _ => i - (intOf v17).toNat)
        case atStart => exact ⟨0, _, Nat.zero_le _, rfl, HBB0.out, HBK0.out⟩
        case round =>
          obtain ⟨j, vW, hj, rfl, hbl, hbo⟩ := hrel
          have w0 : wr.cell? ⟨bg, 0, none⟩ = some (.slice ga i gc) := cell_stays (hbl.mono (Nat.le_of_eq HBKE.out.symm)) HV0.out.1
          by_cases hji : j < i
          · have hji' : (j : Int) < (i : Int) := by omega
            obtain ⟨g1, c1, e1, hcell⟩ := own_cellN HG.out.own hji
            simp only [Value.slice.injEq, true_and] at e1
            obtain ⟨rfl, rfl⟩ := e1
            replace hcell := cell_stays (hbl.mono (Nat.le_of_eq HBKE.out.symm)) hcell
            have HNU := Lib.hid (fun a l c (e : L j = .slice a l c) => Num_any bk vW j L (.slice none 0 0) 0 (fun _ => .slice none 0 0) a l c (by omega) wr hbo L (fun _ _ => rfl) e)
            rw [HGQ.out j hji] at hcell
            have HNU2 := Lib.hid (HNU.out _ _ _ (HGQ.out j hji))
            have HBL := Lib.hid hbl
            clear hbl hbo HNU
            gi_wp2
            refine ⟨trivial, (callsIn_wide.2 HNU2.out).mono ?_⟩
            rintro e W2 ⟨rfl, ⟨vW', hb3⟩, hbl3⟩
            have HBL3 := Lib.hid (HBL.out.trans hbl3)
            have HBO3 := Lib.hid hb3
            clear hbl3 hb3 HBL HNU2
            gi_wp2
            go_roundw
            case rel => exact ⟨j + 1, vW', by omega, by go_num, HBL3.out, HBO3.out⟩
            case measure => simp [intOf] <;> omega
          · obtain rfl : j = i := by omega
            have hji' : ¬ (j : Int) < (j : Int) := by omega
            have HAP := Lib.hid (ApartN_grown w.heap.size bk j L (fun _ => K) vW _ (by omega) (fun _ _ => by omega) wr (HG.out.book hbl (Nat.le_of_eq HBKE.out.symm) hbo) (by have := HA.out.bel.size; have := hbl.size; omega))
            have HBL := Lib.hid hbl
            clear hbl hbo
            gi_wp2
            refine ⟨trivial, (callsIn_wide.2 HAP.out).mono ?_⟩
            rintro e W2 ⟨rfl, hgs⟩
            have hS : ∀ b, SNs j L b → b < W.heap.size ∧ Sep w nb kb bw bi w6.heap.size b := fun b ⟨k, hk, e⟩ => HG.out.lsp k hk b e
            have HFIN := Lib.hid (show (W2.cell? ⟨w.heap.size + 1 + 1 + 1, 0, none⟩ = some (.bool false) ∧ W2.frozen? ⟨w.heap.size + 1 + 1 + 1, 0, none⟩ = false) ∧ W2.heap[w6.heap.size]? = some (.deferred (some [])) ∧ Below w.heap.size w W2 from by
              have hb1 := HBL.out.mono (Nat.le_of_eq HBKE.out.symm)
              have hc1 := cell_stays hb1 HA.out.cr.1
              have hf1 := froz_stays hb1 HA.out.cr.1 HA.out.cr.2
              have hd1 := (hb1.block w6.heap.size (Array.getElem?_eq_some_iff.1 HD.out).1).trans HD.out
              have hne1 : ¬ SNs j L (w.heap.size + 1 + 1 + 1) := fun h => by have := (hS _ h).2.1; omega
              have hne2 : ¬ SNs j L w6.heap.size := fun h => (hS _ h).2.2.2.2.2.2.1 rfl
              have hlt1 := World.block_lt_of_cell? _ _ hc1
              have hk1 := hgs.block _ hlt1 hne1
              refine ⟨⟨(World.cell?_of_block (w := wr) (a := ⟨w.heap.size + 1 + 1 + 1, 0, none⟩) hk1).trans hc1, (World.frozen?_of_block (w := wr) (a := ⟨w.heap.size + 1 + 1 + 1, 0, none⟩) hk1).trans hf1⟩, (hgs.block _ (Array.getElem?_eq_some_iff.1 hd1).1 hne2).trans hd1, (below_via HA.out.bel hb1).trans (hgs.toBelow (Nat.le_trans HA.out.bel.size hb1.size) (fun k hk => by have := (hS k hk).2.1; omega))⟩)
            have HLB := Lib.hid (show w.heap.size + 1 + 1 + 1 < w6.heap.size from by have := HSB.out; have := HA.out.lw; omega)
            clear hS hgs HAP HBL HA HG HD w0 HV0
            obtain ⟨⟨v1, v1'⟩, -, -⟩ := HFIN.out
            gi_wp2
            have hk9 := KeepsOthers.setCell W2 ⟨w.heap.size + 1 + 1 + 1, 0, none⟩ (.bool true)
            have hdA := hk9.same _ _ HFIN.out.2.1 rfl
            have hcA := World.cell?_setCell_same W2 _ (Value.bool true) v1
            have hbA := HFIN.out.2.2.grown (gb_set W2 ⟨w.heap.size + 1 + 1 + 1, 0, none⟩ (.bool true)) HFIN.out.2.2.size (fun b hb => by cases hb; show w.heap.size ≤ w.heap.size + 1 + 1 + 1; omega)
            have gq2 := grownBy_putObj' (W2.setCell ⟨w.heap.size + 1 + 1 + 1, 0, none⟩ (.bool true)) w6.heap.size (.deferred none)
            have hc5 := gq2.cell hcA (by intro e; injection e with e; have h : w.heap.size + 1 + 1 + 1 = w6.heap.size := e; have := HLB.out; omega)
            have hbA2 := hbA.grown gq2 hbA.size (fun b e => by cases e; have := HLB.out; omega)
            refine ⟨by simp, .inl ⟨_, _, rfl, run_takeDeferred hdA, ?_⟩⟩
            refine ⟨.bool true, ?_, rfl, hbA2⟩
            simp [results, Try.results5, go_sem, hc5]
end Go.Proofs.Ytncldpadakckjaa

namespace Go.Proofs.Ytncldpadakckjaa
open Go.RowKit Go.Shelf

attribute [local go_sem] Oper.semAt_some

set_option maxHeartbeats 8000000 in
set_option maxRecDepth 100000 in
theorem SSets_bad (N K : Int) (cut : Int) (hbad : N < 0 ∨ 64 < N ∨ K < 0 ∨ N < K) (hcut : -9223372036854775808 ≤ cut ∧ cut ≤ 9223372036854775807) (w : World) :
    Calls Try.prog 5 #[.int .i64 N, .int .i64 K, .int .i64 cut] w fun e w' => e = .returned (.bool true) ∧ Below w.heap.size w w' := by
  refine (callsIn_wide (n := 9)).1 ?_
  refine callsIn_of_wp_marks Try.func5 rfl trivial ?_ rfl
  simp only [Try.ntmps5, List.size_toArray, List.length_cons, List.length_nil, Nat.reduceAdd, Nat.reduceSub, Array.replicate_succ, Array.replicate_zero, List.push_toArray, List.append_toArray, List.nil_append, List.cons_append]
  obtain ⟨q0, q1, ⟨q2, q2'⟩, ⟨q3, q3'⟩, hB, hsz⟩ := four_boxes w (.int .i64 N) (.int .i64 K) (.int .i64 cut) (.bool false) 3 4
  have HB := Lib.hid hB
  have HSZ := Lib.hid hsz
  clear hB hsz
  gi_wp2
  generalize (((w.alloc (.cells #[.int .i64 N] 3)).alloc (.cells #[.int .i64 K] 3)).alloc (.cells #[.int .i64 cut] 3)).alloc (.cells #[.bool false] 4) = W at *
  refine ⟨trivial, (callsIn_wide.2 (awake14_any W)).mono ?_⟩
  rintro e w1 ⟨rfl, hb1⟩
  have HS1 := Lib.hid (show w.heap.size + 4 ≤ w1.heap.size by have := HSZ.out; have := hb1.size; omega)
  replace HB := Lib.hid (below_via HB.out hb1)
  replace q2' := froz_stays hb1 q2 q2'
  replace q3' := froz_stays hb1 q3 q3'
  replace q0 := cell_stays hb1 q0
  replace q1 := cell_stays hb1 q1
  replace q2 := cell_stays hb1 q2
  replace q3 := cell_stays hb1 q3
  clear hb1 HSZ
  gi_wp2
  refine ⟨trivial, (callsIn_wide.2 (below_any' cut hcut w1)).mono ?_⟩
  rintro e w2 ⟨⟨c, hc, rfl⟩, rfl⟩
  have g1 := gb_set w1 ⟨w.heap.size + 1 + 1, 0, none⟩ (.int .i64 c)
  have HB3 := Lib.hid (HB.out.grown g1 HB.out.size (fun b hb => by cases hb; show w.heap.size ≤ w.heap.size + 1 + 1; omega))
  have ho : ∀ {b : Nat} {x : Value}, w1.cell? ⟨b, 0, none⟩ = some x → b ≠ w.heap.size + 1 + 1 → (w1.setCell ⟨w.heap.size + 1 + 1, 0, none⟩ (.int .i64 c)).cell? ⟨b, 0, none⟩ = some x := fun hx hb => by
    rw [World.cell?_setCell_other _ _ _ _ (by intro e; injection e with e _ _; exact hb e.symm)]; exact hx
  have r0 := ho q0 (by omega)
  have r1 := ho q1 (by omega)
  have r2 := World.cell?_setCell_same _ _ (Value.int .i64 c) q2
  have r3 := ho q3 (by omega)
  have r3' : (w1.setCell ⟨w.heap.size + 1 + 1, 0, none⟩ (.int .i64 c)).frozen? ⟨w.heap.size + 1 + 1 + 1, 0, none⟩ = false := by rw [World.frozen?_setCell]; exact q3'
  have HS3 := Lib.hid (Nat.le_trans HS1.out g1.size)
  have HR := Lib.hid (And.intro r0 (And.intro r1 (And.intro r2 (And.intro r3 r3'))))
  clear r0 r1 r2 r3 r3' g1 ho HB HS1
  gi_wp2
  generalize w1.setCell ⟨w.heap.size + 1 + 1, 0, none⟩ (.int .i64 c) = w3 at *
  refine ⟨trivial, (callsIn_wide.2 (Sets_any N K w3)).mono ?_⟩
  rintro e w4 ⟨rfl, hw4⟩
  obtain ⟨⟨n0, -⟩, ⟨n1, -⟩, hb4, hs4⟩ := two_boxes w3 (.int .i64 N) (.int .i64 K) 3 3
  rw [← hw4] at n0 n1 hb4 hs4
  obtain ⟨r0, r1, r2, r3, r3'⟩ := HR.out
  replace r3' := froz_stays hb4 r3 r3'
  replace r0 := cell_stays hb4 r0
  replace r1 := cell_stays hb4 r1
  replace r2 := cell_stays hb4 r2
  replace r3 := cell_stays hb4 r3
  have HB4 := Lib.hid (below_via HB3.out hb4)
  have HS4 := Lib.hid (And.intro HS3.out hs4)
  clear hw4 hb4 hs4 HR HB3 HS3 q0 q1 q2 q2' q3 q3'
  have he : ∀ (lb : Array Value) (w : World), (binOp .eql 50 (.func (.func 71) #[] lb) .nilFunc).run Try.prog w = .ok (.bool false) w := fun _ _ => rfl
  gi_wp2
  refine ⟨trivial, (callsIn_wide.2 (Some_bad N K w4 hbad)).mono ?_⟩
  rintro e w5 ⟨rfl, rfl⟩
  obtain ⟨p0, pg, p1, hb6, hs6⟩ := three_boxes w4 (.slice none 0 0) (.slice none 0 0) (.int .i64 0) 52 52 3
  have HT := Lib.hid (And.intro p0 (And.intro pg (And.intro p1 (And.intro hb6 hs6))))
  clear p0 pg p1 hb6 hs6
  gi_wp2
  generalize hw6 : ((w4.alloc (.cells #[.slice none 0 0] 52)).alloc (.cells #[.slice none 0 0] 52)).alloc (.cells #[.int .i64 0] 3) = w6 at *
  obtain ⟨p0, ⟨pg, pg'⟩, p1, hb6, hs6⟩ := HT.out
  obtain ⟨hs3, hs4⟩ := HS4.out
  replace r3' := froz_stays hb6 r3 r3'
  replace r0 := cell_stays hb6 r0
  replace r1 := cell_stays hb6 r1
  replace r2 := cell_stays hb6 r2
  replace r3 := cell_stays hb6 r3
  replace n0 := cell_stays hb6 n0
  replace n1 := cell_stays hb6 n1
  obtain ⟨nb, hnb⟩ : ∃ nb, nb = w3.heap.size := ⟨_, rfl⟩
  obtain ⟨kb, hkb⟩ : ∃ kb, kb = w3.heap.size + 1 := ⟨_, rfl⟩
  obtain ⟨bw, hbw⟩ : ∃ bw, bw = w4.heap.size := ⟨_, rfl⟩
  obtain ⟨bg, hbg⟩ : ∃ bg, bg = w4.heap.size + 1 := ⟨_, rfl⟩
  obtain ⟨bi, hbi⟩ : ∃ bi, bi = w4.heap.size + 1 + 1 := ⟨_, rfl⟩
  rw [← hnb] at n0
  rw [← hkb] at n1
  rw [← hbw] at p0
  rw [← hbi] at p1
  rw [← hbg] at pg pg'
  have hI0 : AgB w nb kb bw bi N K c 0 (.slice none 0 0) w6 := ⟨below_via HB4.out hb6, by omega, by omega, by omega, ⟨by omega, by omega, by omega⟩, ⟨by omega, by omega, by omega⟩, r0, r1, r2, ⟨r3, r3'⟩, p1, p0, n0, n1⟩
  have HI0 := Lib.hid hI0
  have HGB := Lib.hid (show bg < w6.heap.size by omega)
  have HPG := Lib.hid (And.intro pg pg')
  have HSB := Lib.hid (show bi < w6.heap.size ∧ bw < w6.heap.size ∧ nb < w6.heap.size ∧ kb < w6.heap.size by omega)
  rw [← hkb, ← hnb, ← hbi, ← hbg, ← hbw]
  clear hnb hkb hbw hbi hbg pg pg' hI0 r0 r1 r2 r3 r3' n0 n1 p0 p1 hb6 hs6 hs3 hs4 HT HS4 HB4 hw6
  refine range_stops (n := 9) (by omega) (gf := 71) (lb := #[.pointer (some ⟨nb, 0, none⟩), .pointer (some ⟨kb, 0, none⟩)]) rfl (enters_of Try.func71 (by kernel_rfl) rfl) rfl
    (fun t => t = 0) (fun _ _ _ _ => False) (fun t W0 W W' v h hg => h)
    (fun t W => AgB w nb kb bw bi N K c 0 (.slice none 0 0) W ∧ W.cell? ⟨bg, 0, none⟩ = some (.slice none 0 0))
    (fun j W => False) ?inv ?invx ?seq ⟨HI0.out, HPG.out.1⟩ ?round ?done ?stop
  case inv =>
    rintro t W W' r ⟨h1, h2⟩ hg hr
    have hb := HSB.out
    have hgb := HGB.out
    have hl := h1.li
    exact ⟨h1.grown hg (fun b e => by rcases hr b e with h | h <;> (have := h1.lw; have := h1.ln; have := h1.lk; omega)), hg.cell h2 (fun e => by rcases hr _ e.symm with h | h <;> (have h : bg = _ := h; omega))⟩
  case invx => exact fun j W W' r h _ _ => h
  case seq =>
    intro l J Jx W hW j1 j2 j3 j4
    have h := (j2 0 W j4).1
    refine (sets1_no 8 (by omega) nb kb N K hbad l W h.nn h.kk).mono ?_
    rintro e W' ⟨hv, rfl⟩
    exact ⟨hv, Or.inl ⟨0, rfl, j4⟩⟩
  case round =>
    intro l t v
    exact ⟨_, fun W K0 hK => by gi_wp2; exact hK, fun W0 W _ _ h => h.elim⟩
  case stop => exact fun D c W _ h _ => h.elim
  case done =>
    rintro D t W rfl rfl ⟨ha, v0⟩ hD
    obtain ⟨u0, u0'⟩ := ha.cw
    obtain ⟨u1, u1'⟩ := ha.ci
    have u2 := ha.cn
    have u3 := ha.ck
    have u4 := ha.cc
    have HA := Lib.hid ha
    have HD := Lib.hid hD
    clear ha hD
    have HBB : ∀ (P : Prop), ((0 : Int) < (c : Int) → P) → (¬ (0 : Int) < (c : Int) → P) → P := fun P h1 h2 => by
      by_cases h : (0 : Int) < (c : Int)
      · exact h1 h
      · exact h2 h
    refine HBB _ (fun hsc => ?_) (fun hsc => ?_)
    · clear HBB
      gi_wp2
      refine ⟨trivial, (callsIn_wide.2 (Some_bad N K W hbad)).mono ?_⟩
      rintro e w7 ⟨rfl, rfl⟩
      gi_wp2
      gi_loopw [13, 14, 15] (fun v13 v14 v15 wr => v13 = .slice none 0 0 ∧ v14 = .int .i64 0 ∧ wr = W) (fun _ _ _ _ => 0)
      case atStart => exact ⟨rfl, rfl, rfl⟩
      case round =>
        obtain ⟨rfl, rfl, rfl⟩ := hrel
        have HBK0 := Lib.hid (BookN.start wr 60 (fun _ => .slice none 0 0))
        have HBB0 := Lib.hid (bl_alloc wr (.cells #[.slice none 0 0, .slice none 0 0, .slice none 0 0] 60))
        have v0' := cell_stays HBB0.out v0
        gi_wp2
        obtain ⟨bk, hbk⟩ : ∃ bk, bk = wr.heap.size := ⟨_, rfl⟩
        rw [← hbk] at HBK0 HBB0 ⊢
        have HBKE := Lib.hid hbk
        clear hbk
        generalize wr.alloc (.cells #[.slice none 0 0, .slice none 0 0, .slice none 0 0] 60) = Wa at *
        gi_loopw [17] (fun v17 wq => v17 = .int .i64 0 ∧ wq = Wa) (fun _ _ => 0)
        case atStart => exact ⟨rfl, rfl⟩
        case round =>
          obtain ⟨rfl, rfl⟩ := hrel
          have HAP := Lib.hid (ApartN_grown w.heap.size bk 0 (fun _ => .slice none 0 0) (fun _ => 0) (.slice none 0 0) (fun _ _ => 0) (by omega) (fun _ _ => by omega) wr ⟨HBK0.out, fun k hk => absurd hk (by omega), GrownS.refl _ _, fun k hk => absurd hk (by omega), fun k l hk => absurd hk (by omega)⟩ (by have := HA.out.bel.size; have := HBB0.out.size; have := HBKE.out; omega))
          gi_wp2
          refine ⟨trivial, (callsIn_wide.2 HAP.out).mono ?_⟩
          rintro e W2 ⟨rfl, hgs⟩
          have hb2 : Below wr.heap.size wr W2 := hgs.toBelow (Nat.le_refl _) (fun k ⟨i, hi, _⟩ => absurd hi (by omega))
          have HB2 := Lib.hid (below_via (HBB0.out.mono (Nat.le_of_eq HBKE.out.symm)) hb2)
          have HLB := Lib.hid (show w.heap.size + 1 + 1 + 1 < w6.heap.size from by have := HSB.out; have := HA.out.lw; omega)
          have hdA0 := (HB2.out.block w6.heap.size (Array.getElem?_eq_some_iff.1 HD.out).1).trans HD.out
          have v1 := cell_stays HB2.out HA.out.cr.1
          have v1' := froz_stays HB2.out HA.out.cr.1 HA.out.cr.2
          have HW2 := Lib.hid (And.intro hdA0 (below_via HA.out.bel HB2.out))
          clear hdA0 hb2 hgs HAP
          gi_wp2
          have hk9 := KeepsOthers.setCell W2 ⟨w.heap.size + 1 + 1 + 1, 0, none⟩ (.bool true)
          have hdA := hk9.same _ _ HW2.out.1 rfl
          have hcA := World.cell?_setCell_same W2 _ (Value.bool true) v1
          have hbA := HW2.out.2.grown (gb_set W2 ⟨w.heap.size + 1 + 1 + 1, 0, none⟩ (.bool true)) HW2.out.2.size (fun b hb => by cases hb; show w.heap.size ≤ w.heap.size + 1 + 1 + 1; omega)
          have gq2 := grownBy_putObj' (W2.setCell ⟨w.heap.size + 1 + 1 + 1, 0, none⟩ (.bool true)) w6.heap.size (.deferred none)
          have hc5 := gq2.cell hcA (by intro e; injection e with e; have h : w.heap.size + 1 + 1 + 1 = w6.heap.size := e; have := HLB.out; omega)
          have hbA2 := hbA.grown gq2 hbA.size (fun b e => by cases e; have := HLB.out; omega)
          refine ⟨by simp, .inl ⟨_, _, rfl, run_takeDeferred hdA, ?_⟩⟩
          refine ⟨.bool true, ?_, rfl, hbA2⟩
          simp [results, Try.results5, go_sem, hc5]
    · clear HBB
      gi_wp2
      refine ⟨trivial, (callsIn_wide.2 (Some_bad N K W hbad)).mono ?_⟩
      rintro e w7 ⟨rfl, rfl⟩
      gi_wp2
      gi_loopw [13, 14, 15] (fun v13 v14 v15 wr => v13 = .slice none 0 0 ∧ v14 = .int .i64 0 ∧ wr = W) (fun _ _ _ _ => 0)
      case atStart => exact ⟨rfl, rfl, rfl⟩
      case round =>
        obtain ⟨rfl, rfl, rfl⟩ := hrel
        have HBK0 := Lib.hid (BookN.start wr 60 (fun _ => .slice none 0 0))
        have HBB0 := Lib.hid (bl_alloc wr (.cells #[.slice none 0 0, .slice none 0 0, .slice none 0 0] 60))
        have v0' := cell_stays HBB0.out v0
        gi_wp2
        obtain ⟨bk, hbk⟩ : ∃ bk, bk = wr.heap.size := ⟨_, rfl⟩
        rw [← hbk] at HBK0 HBB0 ⊢
        have HBKE := Lib.hid hbk
        clear hbk
        generalize wr.alloc (.cells #[.slice none 0 0, .slice none 0 0, .slice none 0 0] 60) = Wa at *
        gi_loopw [17] (fun v17 wq => v17 = .int .i64 0 ∧ wq = Wa) (fun _ _ => 0)
        case atStart => exact ⟨rfl, rfl⟩
        case round =>
          obtain ⟨rfl, rfl⟩ := hrel
          have HAP := Lib.hid (ApartN_grown w.heap.size bk 0 (fun _ => .slice none 0 0) (fun _ => 0) (.slice none 0 0) (fun _ _ => 0) (by omega) (fun _ _ => by omega) wr ⟨HBK0.out, fun k hk => absurd hk (by omega), GrownS.refl _ _, fun k hk => absurd hk (by omega), fun k l hk => absurd hk (by omega)⟩ (by have := HA.out.bel.size; have := HBB0.out.size; have := HBKE.out; omega))
          gi_wp2
          refine ⟨trivial, (callsIn_wide.2 HAP.out).mono ?_⟩
          rintro e W2 ⟨rfl, hgs⟩
          have hb2 : Below wr.heap.size wr W2 := hgs.toBelow (Nat.le_refl _) (fun k ⟨i, hi, _⟩ => absurd hi (by omega))
          have HB2 := Lib.hid (below_via (HBB0.out.mono (Nat.le_of_eq HBKE.out.symm)) hb2)
          have HLB := Lib.hid (show w.heap.size + 1 + 1 + 1 < w6.heap.size from by have := HSB.out; have := HA.out.lw; omega)
          have hdA0 := (HB2.out.block w6.heap.size (Array.getElem?_eq_some_iff.1 HD.out).1).trans HD.out
          have v1 := cell_stays HB2.out HA.out.cr.1
          have v1' := froz_stays HB2.out HA.out.cr.1 HA.out.cr.2
          have HW2 := Lib.hid (And.intro hdA0 (below_via HA.out.bel HB2.out))
          clear hdA0 hb2 hgs HAP
          gi_wp2
          have hk9 := KeepsOthers.setCell W2 ⟨w.heap.size + 1 + 1 + 1, 0, none⟩ (.bool true)
          have hdA := hk9.same _ _ HW2.out.1 rfl
          have hcA := World.cell?_setCell_same W2 _ (Value.bool true) v1
          have hbA := HW2.out.2.grown (gb_set W2 ⟨w.heap.size + 1 + 1 + 1, 0, none⟩ (.bool true)) HW2.out.2.size (fun b hb => by cases hb; show w.heap.size ≤ w.heap.size + 1 + 1 + 1; omega)
          have gq2 := grownBy_putObj' (W2.setCell ⟨w.heap.size + 1 + 1 + 1, 0, none⟩ (.bool true)) w6.heap.size (.deferred none)
          have hc5 := gq2.cell hcA (by intro e; injection e with e; have h : w.heap.size + 1 + 1 + 1 = w6.heap.size := e; have := HLB.out; omega)
          have hbA2 := hbA.grown gq2 hbA.size (fun b e => by cases e; have := HLB.out; omega)
          refine ⟨by simp, .inl ⟨_, _, rfl, run_takeDeferred hdA, ?_⟩⟩
          refine ⟨.bool true, ?_, rfl, hbA2⟩
          simp [results, Try.results5, go_sem, hc5]

/-- the law, for any arguments -/
theorem SSets_law (N K cut : Int) (hcut : -9223372036854775808 ≤ cut ∧ cut ≤ 9223372036854775807) (w : World) :
    Calls Try.prog 5 #[.int .i64 N, .int .i64 K, .int .i64 cut] w fun e w' => e = .returned (.bool true) ∧ Below w.heap.size w w' := by
  by_cases h : N < 0 ∨ 64 < N ∨ K < 0 ∨ N < K
  · exact SSets_bad N K cut h hcut w
  · obtain ⟨n, rfl⟩ := Int.eq_ofNat_of_zero_le (show 0 ≤ N by omega)
    obtain ⟨k, rfl⟩ := Int.eq_ofNat_of_zero_le (show 0 ≤ K by omega)
    exact SSets_good n k cut (by omega) (by omega) hcut w
end Go.Proofs.Ytncldpadakckjaa

namespace Go.Proofs.Ytncldpadakckjaa.minorsSets
open Go.ChangeShapes Go.WideShapes Go.ChangeAt Go.RowKit

theorem own : ownKnob Try.prog.godebug = none := by kernel_rfl

set_option maxRecDepth 100000 in
theorem lifted (os : Os) (started : os.Started) (H : Type) (enc : TypeId × Value → H) :
    ReturnsInHanded {} Try.checked os 5 .any (Rows.minorsSetsSpec.pre6 enc Try.prog Try.f5 Rows.minorsSetsRow.domain false) (Rows.minorsSetsSpec.post enc Try.prog Try.f5 false true false false) := by
  refine returnsInHanded_of_change (C := Try.checked) own started (by kernel_rfl) Try.func5
    (ChangeSpec.witness6 (enc := enc) (C := Try.checked) false ⟨#[], #[.int .i64 0, .int .i64 0, .int .i64 0], []⟩ 8 (by kernel_rfl) (by kernel_rfl) (by kernel_rfl) (by kernel_rfl)) ?_
  intro W base args ds gs before hval0 hW hcnd _
  have hval : ∀ (j : Nat) t v, Try.f5.params[j]? = some t → args[j]? = some v → Value.okWide Try.prog W .any base t v := hval0
  have hW' := hW
  obtain ⟨p, q, hA0, hV, rfl, hfz, hnd⟩ := hW
  have hA : DataW.TrodAll enc Try.prog W 0 (fun _ => true) true Try.f5.params.toList args.toList ds p := hA0
  rw [Try.params5] at hA hval
  obtain ⟨v0, vs0, d0, ds0, p0, q0, hargs, rfl, rfl, h0, r0⟩ := trodAll_cons hA
  obtain ⟨v1, vs1, d1, ds1, p1, q1, rfl, rfl, rfl, h1, r1⟩ := trodAll_cons r0
  obtain ⟨v2, vs2, d2, ds2, p2, q2, rfl, rfl, rfl, h2, r2⟩ := trodAll_cons r1
  obtain ⟨rfl, rfl, rfl⟩ := trodAll_nil r2
  obtain rfl : args = #[v0, v1, v2] := by cases args; simp_all
  obtain ⟨rfl, rfl⟩ := trodVars_none hV
  obtain ⟨a0, rfl, rfl, rfl, w0⟩ := open_int Try.underlying3 (hval 0 3 v0 rfl rfl) h0
  obtain ⟨a1, rfl, rfl, rfl, w1⟩ := open_int Try.underlying3 (hval 1 3 v1 rfl rfl) h1
  obtain ⟨a2, rfl, rfl, rfl, w2⟩ := open_int Try.underlying3 (hval 2 3 v2 rfl rfl) h2
  clear hA0 hval0
  simp only [List.append_nil] at hW'
  have b0 : -9223372036854775808 ≤ a0 ∧ a0 ≤ 9223372036854775807 := by simp [Lit.wf, IntKind.min, IntKind.max, IntKind.signed, IntKind.bits] at w0; omega
  have b1 : -9223372036854775808 ≤ a1 ∧ a1 ≤ 9223372036854775807 := by simp [Lit.wf, IntKind.min, IntKind.max, IntKind.signed, IntKind.bits] at w1; omega
  have b2 : -9223372036854775808 ≤ a2 ∧ a2 ≤ 9223372036854775807 := by simp [Lit.wf, IntKind.min, IntKind.max, IntKind.signed, IntKind.bits] at w2; omega
  refine (SSets_law a0 a1 a2 b2 W).mono fun e W' ⟨he, hg⟩ => ?_
  subst he
  exact ⟨_, rfl, post_of_below (pa := []) (pv := []) hW' (fun _ _ _ => (trodAll_cons_mk (shut_bool Try.underlying4 _) trodAll_mk0)) (fun sp _ => (trodAll_cons_mk (shut_int Try.underlying3 w0) (trodAll_cons_mk (shut_int Try.underlying3 w1) (trodAll_cons_mk (shut_int Try.underlying3 w2) trodAll_mk0)))) (fun _ _ => rfl) (by simp)
    hg (ok_one (by kernel_rfl) rfl (okWide_bool_mk Try.underlying4 _))⟩

theorem over : Rows.minorsSetsRow.holds Try.pinned (OpenSpec.ofChange Rows.minorsSetsSpec) :=
  OpenClaim.holds_of_wide 5 Try.f5 rfl rfl rfl rfl rfl rfl rfl ⟨rfl, rfl, rfl, rfl, rfl⟩ rfl rfl rfl rfl rfl (by kernel_rfl) Try.func5 (by kernel_rfl)
    (of_decide_eq_true (by kernel_rfl)) (by unfold Func.isWrapper; first | (rw [if_pos (by decide +kernel)]; kernel_rfl) | (rw [if_neg (by decide +kernel)]; exact ⟨rfl, rfl⟩))
    (fun os started H enc _ => lifted os started H enc)

/-- the statement -/
theorem proved : Rows.MinorsSetsSaid := over
#print axioms proved
end Go.Proofs.Ytncldpadakckjaa.minorsSets
