/- The walks of trellisref09.Add and Scale. The walk of trellisref09.Scale. The walks of trellisref09.outside, Zero, Unit and Sub. The walk of trellisref09.Sub. -/
import Derived.Test.YtdlpemmoobbgnaaGI
import Derived.Deep.RegionHeld3
set_option linter.unusedVariables false
set_option linter.unusedSimpArgs false
namespace Go.Proofs.Ytdlpemmoobbgnaa
open Go.RowKit

theorem ZB.sum {S T : Nat} {x y : Int} (hx : ZB S x) (hy : ZB T y) {U : Nat} (h : S + T + 1 ≤ U) : ZB U (x + y) := (hx.add hy).mono h

set_option maxHeartbeats 4000000 in
set_option maxRecDepth 100000 in
theorem Add_any (R C : Nat) (hR : R ≤ 64) (hC : C ≤ 64) (s1 s2 : Value) (z1 z2 : Nat → Int) (S1 S2 : Nat) (hS : S1 + S2 + 1 ≤ 274877906944) (w : World) (h1 : RdN w s1 (R * C) z1 S1) (h2 : RdN w s2 (R * C) z2 S2) :
    Calls Try.prog 51 #[.agg #[.int .i64 R, .int .i64 C, s1], .agg #[.int .i64 R, .int .i64 C, s2]] w fun e w' => ∃ lb bm, e = .returned (.tuple #[.agg #[.int .i64 R, .int .i64 C, .slice (some ⟨lb, 0, none⟩) (R * C) (R * C)], .int .i64 0]) ∧
      ZG 56 w' w.heap.size bm lb (R * C) (fun q => z1 q + z2 q) ∧ Below w.heap.size w w' := by
  obtain ⟨a, cap, rfl, hn⟩ := h1.slice
  obtain ⟨b, cap', rfl, hn'⟩ := h2.slice
  obtain ⟨N, hN⟩ : ∃ N, N = R * C := ⟨_, rfl⟩
  have hN4 : N ≤ 4096 := by rw [hN]; exact Nat.mul_le_mul hR hC
  rw [← hN] at h1 hn h2 hn'
  have hboth := fun W => both_any R C R C a b N cap N cap' hn hn' W (by omega) (by omega) (by rw [hN]; simp) (by omega) (by omega) (by rw [hN]; simp)
  obtain ⟨W0, hW0, ⟨x0, x1, x2⟩, ⟨x3, x4, x5⟩, ⟨y0, y1, y2⟩, ⟨f0, f1, f2⟩, hb0, hs0⟩ := three_boxes w (.int .i64 R) (.int .i64 C) (.slice a N cap) (.int .i64 R) (.int .i64 C) (.slice b N cap') 34
  have HR1 := Lib.hid h1
  have HR2 := Lib.hid h2
  have HC := Lib.hid hboth
  have HN := Lib.hid hN
  have HB0 := Lib.hid hb0
  have HS0 := Lib.hid hs0
  rw [← hN]
  clear h1 h2 hboth hN hb0 hs0
  go_enter Try.func51, Try.ntmps51
  rw [hW0] at x0 x1 x2 x3 x4 x5 y0 y1 y2 f0 f1 f2 HB0 HS0
  clear hW0
  go_wp2_with (first
    | (go_at_call 38; refine (HC.out _).mono ?_; rintro e w2 ⟨rfl, hb2⟩; have HB2 := Lib.hid (HB0.out.trans (hb2.mono HB0.out.size)); have HS2 := Lib.hid hb2.size; replace x0 := cell_stays hb2 x0; replace x1 := cell_stays hb2 x1; replace x2 := cell_stays hb2 x2; replace x3 := cell_stays hb2 x3; replace x4 := cell_stays hb2 x4; replace x5 := cell_stays hb2 x5; replace f0 := froz_stays hb2 y0 f0; replace f1 := froz_stays hb2 y1 f1; replace f2 := froz_stays hb2 y2 f2; replace y0 := cell_stays hb2 y0; replace y1 := cell_stays hb2 y1; replace y2 := cell_stays hb2 y2; clear hb2)
    | (go_at_call 39; refine (blank_any R C hR hC _).mono ?_; rintro e w3 ⟨lb, rfl, hz3, hb3⟩; have HB3 := Lib.hid (HB2.out.trans (hb3.mono HB2.out.size)); have HZ3 := Lib.hid hz3; replace x0 := cell_stays hb3 x0; replace x1 := cell_stays hb3 x1; replace x2 := cell_stays hb3 x2; replace x3 := cell_stays hb3 x3; replace x4 := cell_stays hb3 x4; replace x5 := cell_stays hb3 x5; replace f0 := froz_stays hb3 y0 f0; replace f1 := froz_stays hb3 y1 f1; replace f2 := froz_stays hb3 y2 f2; replace y0 := cell_stays hb3 y0; replace y1 := cell_stays hb3 y1; replace y2 := cell_stays hb3 y2; clear hb3 hz3))
  have hbox := (Below.refl w3.heap.size w3).alloc (Nat.le_refl _) (.cells #[.int .i64 R, .int .i64 C, .slice (some ⟨lb, 0, none⟩) (R * C) (R * C)] 34)
  have hm := three_cells w3 (.int .i64 R) (.int .i64 C) (.slice (some ⟨lb, 0, none⟩) (R * C) (R * C)) 34
  have h0 : GS w (w3.alloc (.cells #[.int .i64 R, .int .i64 C, .slice (some ⟨lb, 0, none⟩) (R * C) (R * C)] 34)) (six w.heap.size (.int .i64 R) (.int .i64 C) (.slice a N cap) (.int .i64 R) (.int .i64 C) (.slice b N cap')) (w.heap.size + 2) R C lb w3.heap.size (upZ (fun q => z1 q + z2 q) 0) := by
    have h2 : w.heap.size + 3 ≤ w2.heap.size := by rw [← HS0.out]; exact HS2.out
    have h3 := HZ3.out.own
    exact ⟨((HZ3.out.mono (by omega)).congr fun q _ => by unfold upZ; rw [if_neg (by omega)]).below hbox, HB3.out.alloc HB3.out.size _, by omega, by omega, by simp, six_all (by omega) (cell_stays hbox x0) (cell_stays hbox x1) (cell_stays hbox x2) (cell_stays hbox x3) (cell_stays hbox x4) (cell_stays hbox x5), ⟨cell_stays hbox y0, cell_stays hbox y1, cell_stays hbox y2⟩,
      ⟨froz_stays hbox y0 f0, froz_stays hbox y1 f1, froz_stays hbox y2 f2⟩, ⟨(hm 0 _ rfl).1, (hm 1 _ rfl).1, (hm 2 _ rfl).1⟩⟩
  have H0 := Lib.hid h0
  generalize w3.alloc (.cells #[.int .i64 R, .int .i64 C, .slice (some ⟨lb, 0, none⟩) (R * C) (R * C)] 34) = w4 at H0 ⊢
  generalize w3.heap.size = nb at H0 ⊢
  clear hbox hm h0 x0 x1 x2 x3 x4 x5 y0 y1 y2 f0 f1 f2 HZ3 HB3 HB2 HS2 HB0 HS0 HC
  go_loopw [8] (fun iv wr => ∃ i : Nat, i ≤ N ∧ iv = .int .i64 i ∧ GS w wr (six w.heap.size (.int .i64 R) (.int .i64 C) (.slice a N cap) (.int .i64 R) (.int .i64 C) (.slice b N cap')) (w.heap.size + 2) R C lb nb (upZ (fun q => z1 q + z2 q) i)) (fun iv _ => N - (intOf iv).toNat)
  case atStart => exact ⟨0, by omega, rfl, H0.out⟩
  case round =>
    clear H0
    obtain ⟨i, i1, rfl, h⟩ := hrel
    obtain ⟨x0, x1, x2, x3, x4, x5⟩ := h.six
    by_cases hi : i < N
    · have hiN : i < R * C := by rw [← HN.out]; exact hi
      obtain ⟨b1, o1, g1, am, nm, cm, rfl, cw0, cw1, cw2, cz⟩ := HR1.out.at (by omega) hi
      obtain ⟨b2, o2, g2, al, nl, cl, rfl, dw0, dw1, dw2, dz⟩ := HR2.out.at (by omega) hi
      have c0 := cell_stays h.bel cw0
      have c1 := cell_stays h.bel cw1
      have d0 := cell_stays h.bel dw0
      have d1 := cell_stays h.bel dw1
      obtain ⟨n0, n1, n2⟩ := h.m
      have s1 := World.block_lt_of_cell? w _ cw0
      have s2 := World.block_lt_of_cell? w _ dw0
      dsimp only at s1 s2
      have l1 := h.lo
      have l2 := h.zg.lt
      have e1 : b1 ≠ lb := by omega
      have e2 : b2 ≠ lb := by omega
      have e3 : nb ≠ lb := by omega
      have e4 : w.heap.size ≠ lb := by omega
      have e5 : w.heap.size + 1 ≠ lb := by omega
      have hcall : ∀ W, Below wr.heap.size wr W → Calls Try.prog 58 #[.agg #[.bool g1, .slice am nm cm], .agg #[.bool g2, .slice al nl cl]] W fun e w' => ∃ av nv cv, e = .returned (.agg #[.bool (decide (z1 i + z2 i < 0)), .slice av nv cv]) ∧
          FrZ w' W.heap.size (.agg #[.bool (decide (z1 i + z2 i < 0)), .slice av nv cv]) (z1 i + z2 i) ∧ Below wr.heap.size wr w' := fun W hW => by
        have hWw := h.bel.trans (hW.mono h.bel.size)
        refine (Add05_any _ _ _ _ W (cw2.below hWw) (dw2.below hWw)).mono ?_
        rintro e w' ⟨v, rfl, ⟨m, n', f, rfl, p1, p2⟩, h3⟩
        obtain ⟨a', c', rfl⟩ := p1.slice
        exact ⟨a', n', c', rfl, ⟨_, n', f, rfl, p1, p2⟩, hW.trans (h3.mono hW.size)⟩
      have HCL := Lib.hid hcall
      have HG := Lib.hid h
      have hlt := h.lt
      have q0 : (0 : Int) ≤ (i : Int) := by omega
      have q1 : (i : Int) < (N : Int) := by omega
      have q2 : (i : Int) < (R : Int) * (C : Int) := by
        have h9 : ((i : Nat) : Int) < ((R * C : Nat) : Int) := by omega
        push_cast at h9; exact h9
      clear hcall h cw0 cw1 cw2 cz dw0 dw1 dw2 dz
      go_wp2_with fail
      go_region_held3 (fun w' => w'.cell? ⟨nb, 2, none⟩ = some (.slice (some ⟨lb, 0, none⟩) (R * C) (R * C)) ∧ w'.cell? ⟨w.heap.size, 2, none⟩ = some (.slice (some ⟨b1, o1, none⟩) N cap) ∧ w'.cell? ⟨w.heap.size + 1, 2, none⟩ = some (.slice (some ⟨b2, o2, none⟩) N cap') ∧
          w'.cell? ⟨b1, o1 + i * 2, none⟩ = some (.bool g1) ∧ w'.cell? ⟨b1, o1 + i * 2 + 1, none⟩ = some (.slice am nm cm) ∧ w'.cell? ⟨b2, o2 + i * 2, none⟩ = some (.bool g2) ∧ w'.cell? ⟨b2, o2 + i * 2 + 1, none⟩ = some (.slice al nl cl))
        (first
          | go_keep
          | (exact ⟨cell_stays hb6 n2, cell_stays hb6 x2, cell_stays hb6 x5, cell_stays hb6 c0, cell_stays hb6 c1, cell_stays hb6 d0, cell_stays hb6 d1⟩)
          | (have hk := gb_trans (gb_set w6 ⟨lb, i * 2, none⟩ (.bool (decide (z1 i + z2 i < 0)))) (gb_set _ ⟨lb, i * 2 + 1, none⟩ (.slice av nv cv)); exact ⟨hk.cell (cell_stays hb6 n2) (fun e => e3 (Option.some.inj e)), hk.cell (cell_stays hb6 x2) (fun e => e4 (Option.some.inj e)), hk.cell (cell_stays hb6 x5) (fun e => e5 (Option.some.inj e)), hk.cell (cell_stays hb6 c0) (fun e => e1 (Option.some.inj e)), hk.cell (cell_stays hb6 c1) (fun e => e1 (Option.some.inj e)), hk.cell (cell_stays hb6 d0) (fun e => e2 (Option.some.inj e)), hk.cell (cell_stays hb6 d1) (fun e => e2 (Option.some.inj e))⟩))
        (first
          | (go_at_call 58; (with_reducible refine (HCL.out wr.drew ((Below.refl _ _).drew)).mono ?_); rintro e w6 ⟨av, nv, cv, rfl, hz6, hb6⟩; have HG6 := Lib.hid (HG.out.below hb6); obtain ⟨t0, t1, t2, v1, v2, -⟩ := HG6.out.zg.cells i hiN; have v3 := HG6.out.zg.froz (i := i * 2) (by omega); have v4 := HG6.out.zg.froz (i := i * 2 + 1) (by omega)))
      all_goals
        have R1 := Lib.hid (HG6.out.put (k := i) hiN hz6 (Nat.le_of_lt hlt) (z' := upZ (fun q => z1 q + z2 q) (i + 1)) (fun q' _ => up_put q'))
        go_wp2_with fail
        go_roundw
        case rel => exact ⟨i + 1, by omega, by go_num, R1.out⟩
        case measure => simp [intOf]; omega
    · obtain rfl : i = N := by omega
      have H := Lib.hid h
      obtain ⟨y0, y1, y2⟩ := h.y
      obtain ⟨n0, n1, n2⟩ := h.m
      obtain ⟨f0, f1, f2⟩ := h.f
      clear h
      go_wp2_with fail
      obtain ⟨r0, r1, r2, r3, r4⟩ := H.out.done
      refine bodyPost_ret (v := .tuple #[.agg #[.int .i64 R, .int .i64 C, .slice (some ⟨lb, 0, none⟩) (R * C) (R * C)], .int .i64 0]) ?_ rfl ⟨lb, nb, by rw [HN.out], ?_, r4⟩
      · simp [results, Try.results51, go_sem, r0, r1, r2]
      · rw [HN.out]; exact r3.congr (y := fun q => z1 q + z2 q) fun q hq => if_pos (by rw [HN.out]; exact hq)

theorem Add_rd (R C : Nat) (hR : R ≤ 64) (hC : C ≤ 64) (s1 s2 : Value) (z1 z2 : Nat → Int) (S1 S2 : Nat) (hS : S1 + S2 + 1 ≤ 274877906944) (w : World) (h1 : RdN w s1 (R * C) z1 S1) (h2 : RdN w s2 (R * C) z2 S2) :
    Calls Try.prog 51 #[.agg #[.int .i64 R, .int .i64 C, s1], .agg #[.int .i64 R, .int .i64 C, s2]] w fun e w' => ∃ lb, e = .returned (.tuple #[.agg #[.int .i64 R, .int .i64 C, .slice (some ⟨lb, 0, none⟩) (R * C) (R * C)], .int .i64 0]) ∧
      RdN w' (.slice (some ⟨lb, 0, none⟩) (R * C) (R * C)) (R * C) (fun q => z1 q + z2 q) (S1 + S2 + 1) ∧ Below w.heap.size w w' := by
  refine (Add_any R C hR hC s1 s2 z1 z2 S1 S2 hS w h1 h2).mono ?_
  rintro e w' ⟨lb, bm, rfl, hz, hb⟩
  exact ⟨lb, rfl, hz.read (Nat.le_trans (Nat.mul_le_mul hR hC) (by decide)) hS (fun q hq => (h1.zb hq).add (h2.zb hq)), hb⟩
end Go.Proofs.Ytdlpemmoobbgnaa

namespace Go.Proofs.Ytdlpemmoobbgnaa
open Go.RowKit

def five (n : Nat) (v0 v1 v2 v3 v4 : Value) : List (Addr × Value) := [(⟨n, 0, none⟩, v0), (⟨n, 1, none⟩, v1), (⟨n + 1, 0, none⟩, v2), (⟨n + 1, 1, none⟩, v3), (⟨n + 1, 2, none⟩, v4)]
theorem GS.five {w wr : World} {n rb R C lb nb : Nat} {z : Nat → Int} {v0 v1 v2 v3 v4 : Value} (h : GS w wr (five n v0 v1 v2 v3 v4) rb R C lb nb z) :
    wr.cell? ⟨n, 0, none⟩ = some v0 ∧ wr.cell? ⟨n, 1, none⟩ = some v1 ∧ wr.cell? ⟨n + 1, 0, none⟩ = some v2 ∧ wr.cell? ⟨n + 1, 1, none⟩ = some v3 ∧ wr.cell? ⟨n + 1, 2, none⟩ = some v4 :=
  ⟨(h.kept (⟨n, 0, none⟩, v0) (by simp [Proofs.Ytdlpemmoobbgnaa.five])).2, (h.kept (⟨n, 1, none⟩, v1) (by simp [Proofs.Ytdlpemmoobbgnaa.five])).2, (h.kept (⟨n + 1, 0, none⟩, v2) (by simp [Proofs.Ytdlpemmoobbgnaa.five])).2, (h.kept (⟨n + 1, 1, none⟩, v3) (by simp [Proofs.Ytdlpemmoobbgnaa.five])).2, (h.kept (⟨n + 1, 2, none⟩, v4) (by simp [Proofs.Ytdlpemmoobbgnaa.five])).2⟩
theorem five_all {n : Nat} {v0 v1 v2 v3 v4 : Value} {wr : World} {lb : Nat} (hl : n + 1 < lb) (h0 : wr.cell? ⟨n, 0, none⟩ = some v0) (h1 : wr.cell? ⟨n, 1, none⟩ = some v1) (h2 : wr.cell? ⟨n + 1, 0, none⟩ = some v2) (h3 : wr.cell? ⟨n + 1, 1, none⟩ = some v3) (h4 : wr.cell? ⟨n + 1, 2, none⟩ = some v4) :
    ∀ p ∈ five n v0 v1 v2 v3 v4, p.1.block < lb ∧ wr.cell? p.1 = some p.2 := by
  intro p hp
  simp only [Proofs.Ytdlpemmoobbgnaa.five, List.mem_cons, List.not_mem_nil, or_false] at hp
  rcases hp with rfl | rfl | rfl | rfl | rfl
  · exact ⟨by show n < lb; omega, h0⟩
  · exact ⟨by show n < lb; omega, h1⟩
  · exact ⟨hl, h2⟩
  · exact ⟨hl, h3⟩
  · exact ⟨hl, h4⟩

/-- the boxes of an integer and a matrix handed in and of the result -/
theorem scale_boxes (w : World) (v0 v1 v2 v3 v4 : Value) (t u : TypeId) : ∃ W, W = ((w.alloc (.cells #[v0, v1] u)).alloc (.cells #[v2, v3, v4] t)).alloc (.cells #[.int .i64 0, .int .i64 0, .slice none 0 0] t) ∧
    (W.cell? ⟨w.heap.size, 0, none⟩ = some v0 ∧ W.cell? ⟨w.heap.size, 1, none⟩ = some v1) ∧
    (W.cell? ⟨w.heap.size + 1, 0, none⟩ = some v2 ∧ W.cell? ⟨w.heap.size + 1, 1, none⟩ = some v3 ∧ W.cell? ⟨w.heap.size + 1, 2, none⟩ = some v4) ∧
    (W.cell? ⟨w.heap.size + 2, 0, none⟩ = some (.int .i64 0) ∧ W.cell? ⟨w.heap.size + 2, 1, none⟩ = some (.int .i64 0) ∧ W.cell? ⟨w.heap.size + 2, 2, none⟩ = some (.slice none 0 0)) ∧
    (W.frozen? ⟨w.heap.size + 2, 0, none⟩ = false ∧ W.frozen? ⟨w.heap.size + 2, 1, none⟩ = false ∧ W.frozen? ⟨w.heap.size + 2, 2, none⟩ = false) ∧ Below w.heap.size w W ∧ W.heap.size = w.heap.size + 3 := by
  refine ⟨_, rfl, ?_⟩
  have k := cells2 w v0 v1 u
  have l := three_cells (w.alloc (.cells #[v0, v1] u)) v2 v3 v4 t
  have m := three_cells ((w.alloc (.cells #[v0, v1] u)).alloc (.cells #[v2, v3, v4] t)) (.int .i64 0) (.int .i64 0) (.slice none 0 0) t
  have h1 : (w.alloc (.cells #[v0, v1] u)).heap.size = w.heap.size + 1 := by simp
  have h2 : ((w.alloc (.cells #[v0, v1] u)).alloc (.cells #[v2, v3, v4] t)).heap.size = w.heap.size + 2 := by simp
  have b2 := (Below.refl (w.alloc (.cells #[v0, v1] u)).heap.size (w.alloc (.cells #[v0, v1] u))).alloc (Nat.le_refl _) (.cells #[v2, v3, v4] t)
  have b3 := (Below.refl ((w.alloc (.cells #[v0, v1] u)).alloc (.cells #[v2, v3, v4] t)).heap.size ((w.alloc (.cells #[v0, v1] u)).alloc (.cells #[v2, v3, v4] t))).alloc (Nat.le_refl _) (.cells #[.int .i64 0, .int .i64 0, .slice none 0 0] t)
  rw [h1] at l
  rw [h2] at m
  refine ⟨⟨cell_stays b3 (cell_stays b2 (k 0 _ rfl).1), cell_stays b3 (cell_stays b2 (k 1 _ rfl).1)⟩, ⟨cell_stays b3 (l 0 _ rfl).1, cell_stays b3 (l 1 _ rfl).1, cell_stays b3 (l 2 _ rfl).1⟩,
    ⟨(m 0 _ rfl).1, (m 1 _ rfl).1, (m 2 _ rfl).1⟩, ⟨(m 0 _ rfl).2, (m 1 _ rfl).2, (m 2 _ rfl).2⟩, (((Below.refl _ _).alloc (Nat.le_refl _) _).alloc (by simp) _).alloc (by simp; omega) _, by simp⟩

set_option maxHeartbeats 4000000 in
set_option maxRecDepth 100000 in
theorem Scale_rd (R C : Nat) (hR : R ≤ 64) (hC : C ≤ 64) (gk : Bool) (ak : Option Addr) (nk ck : Nat) (k : Int) (s2 : Value) (z2 : Nat → Int) (S1 S2 : Nat) (hS : S1 + S2 ≤ 274877906944) (w : World) (hk : RdZ w (.agg #[.bool gk, .slice ak nk ck]) k) (hkb : ZB S1 k) (h2 : RdN w s2 (R * C) z2 S2) :
    Calls Try.prog 50 #[.agg #[.bool gk, .slice ak nk ck], .agg #[.int .i64 R, .int .i64 C, s2]] w fun e w' => ∃ lb, e = .returned (.tuple #[.agg #[.int .i64 R, .int .i64 C, .slice (some ⟨lb, 0, none⟩) (R * C) (R * C)], .int .i64 0]) ∧
      RdN w' (.slice (some ⟨lb, 0, none⟩) (R * C) (R * C)) (R * C) (fun q => k * z2 q) (S1 + S2) ∧ Below w.heap.size w w' := by
  obtain ⟨b, cap', rfl, hn'⟩ := h2.slice
  obtain ⟨N, hN⟩ : ∃ N, N = R * C := ⟨_, rfl⟩
  have hN4 : N ≤ 4096 := by rw [hN]; exact Nat.mul_le_mul hR hC
  rw [← hN] at h2 hn'
  have hcheck := fun W => Check09_any R C b N cap' hn' W (by omega) (by omega) (by rw [hN]; simp)
  obtain ⟨W0, hW0, ⟨x0, x1⟩, ⟨x3, x4, x5⟩, ⟨y0, y1, y2⟩, ⟨f0, f1, f2⟩, hb0, hs0⟩ := scale_boxes w (.bool gk) (.slice ak nk ck) (.int .i64 R) (.int .i64 C) (.slice b N cap') 34 56
  have HR1 := Lib.hid hk
  have HZ1 := Lib.hid hkb
  have HR2 := Lib.hid h2
  have HC := Lib.hid hcheck
  have HN := Lib.hid hN
  have HB0 := Lib.hid hb0
  have HS0 := Lib.hid hs0
  rw [← hN]
  clear hk hkb h2 hcheck hN hb0 hs0
  go_enter Try.func50, Try.ntmps50
  rw [hW0] at x0 x1 x3 x4 x5 y0 y1 y2 f0 f1 f2 HB0 HS0
  clear hW0
  go_wp2_with (first
    | (go_at_call 41; refine (HC.out _).mono ?_; rintro e w2 ⟨rfl, hb2⟩; have HB2 := Lib.hid (HB0.out.trans (hb2.mono HB0.out.size)); have HS2 := Lib.hid hb2.size; replace x0 := cell_stays hb2 x0; replace x1 := cell_stays hb2 x1; replace x3 := cell_stays hb2 x3; replace x4 := cell_stays hb2 x4; replace x5 := cell_stays hb2 x5; replace f0 := froz_stays hb2 y0 f0; replace f1 := froz_stays hb2 y1 f1; replace f2 := froz_stays hb2 y2 f2; replace y0 := cell_stays hb2 y0; replace y1 := cell_stays hb2 y1; replace y2 := cell_stays hb2 y2; clear hb2)
    | (go_at_call 39; refine (blank_any R C hR hC _).mono ?_; rintro e w3 ⟨lb, rfl, hz3, hb3⟩; have HB3 := Lib.hid (HB2.out.trans (hb3.mono HB2.out.size)); have HZ3 := Lib.hid hz3; replace x0 := cell_stays hb3 x0; replace x1 := cell_stays hb3 x1; replace x3 := cell_stays hb3 x3; replace x4 := cell_stays hb3 x4; replace x5 := cell_stays hb3 x5; replace f0 := froz_stays hb3 y0 f0; replace f1 := froz_stays hb3 y1 f1; replace f2 := froz_stays hb3 y2 f2; replace y0 := cell_stays hb3 y0; replace y1 := cell_stays hb3 y1; replace y2 := cell_stays hb3 y2; clear hb3 hz3))
  have hbox := (Below.refl w3.heap.size w3).alloc (Nat.le_refl _) (.cells #[.int .i64 R, .int .i64 C, .slice (some ⟨lb, 0, none⟩) (R * C) (R * C)] 34)
  have hm := three_cells w3 (.int .i64 R) (.int .i64 C) (.slice (some ⟨lb, 0, none⟩) (R * C) (R * C)) 34
  have h0 : GS w (w3.alloc (.cells #[.int .i64 R, .int .i64 C, .slice (some ⟨lb, 0, none⟩) (R * C) (R * C)] 34)) (five w.heap.size (.bool gk) (.slice ak nk ck) (.int .i64 R) (.int .i64 C) (.slice b N cap')) (w.heap.size + 2) R C lb w3.heap.size (upZ (fun q => k * z2 q) 0) := by
    have h2 : w.heap.size + 3 ≤ w2.heap.size := by rw [← HS0.out]; exact HS2.out
    have h3 := HZ3.out.own
    exact ⟨((HZ3.out.mono (by omega)).congr fun q _ => by unfold upZ; rw [if_neg (by omega)]).below hbox, HB3.out.alloc HB3.out.size _, by omega, by omega, by simp, five_all (by omega) (cell_stays hbox x0) (cell_stays hbox x1) (cell_stays hbox x3) (cell_stays hbox x4) (cell_stays hbox x5), ⟨cell_stays hbox y0, cell_stays hbox y1, cell_stays hbox y2⟩,
      ⟨froz_stays hbox y0 f0, froz_stays hbox y1 f1, froz_stays hbox y2 f2⟩, ⟨(hm 0 _ rfl).1, (hm 1 _ rfl).1, (hm 2 _ rfl).1⟩⟩
  have H0 := Lib.hid h0
  generalize w3.alloc (.cells #[.int .i64 R, .int .i64 C, .slice (some ⟨lb, 0, none⟩) (R * C) (R * C)] 34) = w4 at H0 ⊢
  generalize w3.heap.size = nb at H0 ⊢
  clear hbox hm h0 x0 x1 x3 x4 x5 y0 y1 y2 f0 f1 f2 HZ3 HB3 HB2 HS2 HB0 HS0 HC
  go_loopw [8] (fun iv wr => ∃ i : Nat, i ≤ N ∧ iv = .int .i64 i ∧ GS w wr (five w.heap.size (.bool gk) (.slice ak nk ck) (.int .i64 R) (.int .i64 C) (.slice b N cap')) (w.heap.size + 2) R C lb nb (upZ (fun q => k * z2 q) i)) (fun iv _ => N - (intOf iv).toNat)
  case atStart => exact ⟨0, by omega, rfl, H0.out⟩
  case round =>
    clear H0
    obtain ⟨i, i1, rfl, h⟩ := hrel
    obtain ⟨x0, x1, x3, x4, x5⟩ := h.five
    by_cases hi : i < N
    · have hiN : i < R * C := by rw [← HN.out]; exact hi
      obtain ⟨b2, o2, g2, al, nl, cl, rfl, dw0, dw1, dw2, dz⟩ := HR2.out.at (by omega) hi
      have d0 := cell_stays h.bel dw0
      have d1 := cell_stays h.bel dw1
      obtain ⟨n0, n1, n2⟩ := h.m
      have s2 := World.block_lt_of_cell? w _ dw0
      dsimp only at s2
      have l1 := h.lo
      have l2 := h.zg.lt
      have e2 : b2 ≠ lb := by omega
      have e3 : nb ≠ lb := by omega
      have e4 : w.heap.size ≠ lb := by omega
      have e5 : w.heap.size + 1 ≠ lb := by omega
      have hcall : ∀ W, Below wr.heap.size wr W → Calls Try.prog 69 #[.agg #[.bool gk, .slice ak nk ck], .agg #[.bool g2, .slice al nl cl]] W fun e w' => ∃ av nv cv, e = .returned (.agg #[.bool (decide (k * z2 i < 0)), .slice av nv cv]) ∧
          FrZ w' W.heap.size (.agg #[.bool (decide (k * z2 i < 0)), .slice av nv cv]) (k * z2 i) ∧ Below wr.heap.size wr w' := fun W hW => by
        have hWw := h.bel.trans (hW.mono h.bel.size)
        refine (Mul05_any _ _ _ _ W (HR1.out.below hWw) (dw2.below hWw)).mono ?_
        rintro e w' ⟨v, rfl, ⟨m, n', f, rfl, p1, p2⟩, h3⟩
        obtain ⟨a', c', rfl⟩ := p1.slice
        exact ⟨a', n', c', rfl, ⟨_, n', f, rfl, p1, p2⟩, hW.trans (h3.mono hW.size)⟩
      have HCL := Lib.hid hcall
      have HG := Lib.hid h
      have hlt := h.lt
      have q0 : (0 : Int) ≤ (i : Int) := by omega
      have q1 : (i : Int) < (N : Int) := by omega
      have q2 : (i : Int) < (R : Int) * (C : Int) := by
        have h9 : ((i : Nat) : Int) < ((R * C : Nat) : Int) := by omega
        push_cast at h9; exact h9
      clear hcall h dw0 dw1 dw2 dz
      go_wp2_with fail
      go_region_held3 (fun w' => w'.cell? ⟨nb, 2, none⟩ = some (.slice (some ⟨lb, 0, none⟩) (R * C) (R * C)) ∧ w'.cell? ⟨w.heap.size, 0, none⟩ = some (.bool gk) ∧ w'.cell? ⟨w.heap.size, 1, none⟩ = some (.slice ak nk ck) ∧ w'.cell? ⟨w.heap.size + 1, 2, none⟩ = some (.slice (some ⟨b2, o2, none⟩) N cap') ∧
          w'.cell? ⟨b2, o2 + i * 2, none⟩ = some (.bool g2) ∧ w'.cell? ⟨b2, o2 + i * 2 + 1, none⟩ = some (.slice al nl cl))
        (first
          | go_keep
          | (exact ⟨cell_stays hb6 n2, cell_stays hb6 x0, cell_stays hb6 x1, cell_stays hb6 x5, cell_stays hb6 d0, cell_stays hb6 d1⟩)
          | (have hk := gb_trans (gb_set w6 ⟨lb, i * 2, none⟩ (.bool (decide (k * z2 i < 0)))) (gb_set _ ⟨lb, i * 2 + 1, none⟩ (.slice av nv cv)); exact ⟨hk.cell (cell_stays hb6 n2) (fun e => e3 (Option.some.inj e)), hk.cell (cell_stays hb6 x0) (fun e => e4 (Option.some.inj e)), hk.cell (cell_stays hb6 x1) (fun e => e4 (Option.some.inj e)), hk.cell (cell_stays hb6 x5) (fun e => e5 (Option.some.inj e)), hk.cell (cell_stays hb6 d0) (fun e => e2 (Option.some.inj e)), hk.cell (cell_stays hb6 d1) (fun e => e2 (Option.some.inj e))⟩))
        (first
          | (go_at_call 69; (with_reducible refine (HCL.out wr.drew ((Below.refl _ _).drew)).mono ?_); rintro e w6 ⟨av, nv, cv, rfl, hz6, hb6⟩; have HG6 := Lib.hid (HG.out.below hb6); obtain ⟨t0, t1, t2, v1, v2, -⟩ := HG6.out.zg.cells i hiN; have v3 := HG6.out.zg.froz (i := i * 2) (by omega); have v4 := HG6.out.zg.froz (i := i * 2 + 1) (by omega)))
      all_goals
        have R1 := Lib.hid (HG6.out.put (k := i) hiN hz6 (Nat.le_of_lt hlt) (z' := upZ (fun q => k * z2 q) (i + 1)) (fun q' _ => up_put q'))
        go_wp2_with fail
        go_roundw
        case rel => exact ⟨i + 1, by omega, by go_num, R1.out⟩
        case measure => simp [intOf]; omega
    · obtain rfl : i = N := by omega
      have H := Lib.hid h
      obtain ⟨y0, y1, y2⟩ := h.y
      obtain ⟨n0, n1, n2⟩ := h.m
      obtain ⟨f0, f1, f2⟩ := h.f
      clear h
      go_wp2_with fail
      obtain ⟨r0, r1, r2, r3, r4⟩ := H.out.done
      refine bodyPost_ret (v := .tuple #[.agg #[.int .i64 R, .int .i64 C, .slice (some ⟨lb, 0, none⟩) (R * C) (R * C)], .int .i64 0]) ?_ rfl ⟨lb, by rw [HN.out], ?_, r4⟩
      · simp [results, Try.results50, go_sem, r0, r1, r2]
      · have hz := (r3.congr (y := fun q => k * z2 q) fun q hq => if_pos (by rw [HN.out]; exact hq)).read (by have := HN.out; omega) hS (fun q hq => HZ1.out.mul (HR2.out.zb (by rw [HN.out]; exact hq)))
        rw [HN.out]; exact hz
end Go.Proofs.Ytdlpemmoobbgnaa

namespace Go.Proofs.Ytdlpemmoobbgnaa
open Go.RowKit

set_option maxHeartbeats 400000 in
theorem outside_no (n : Nat) (hn : n ≤ 64) (w : World) : Calls Try.prog 74 #[.int .i64 n] w fun e w' => e = .returned (.bool false) ∧ w = w' := by
  go_enter Try.func74, Try.ntmps74
  go_wp2_with fail
  go_ret
  exact ⟨ret_bool (by simp; omega), rfl⟩

set_option maxHeartbeats 1000000 in
set_option maxRecDepth 100000 in
theorem Zero_rd (R C : Nat) (hR : R ≤ 64) (hC : C ≤ 64) (w : World) :
    Calls Try.prog 46 #[.int .i64 R, .int .i64 C] w fun e w' => ∃ lb, e = .returned (.tuple #[.agg #[.int .i64 R, .int .i64 C, .slice (some ⟨lb, 0, none⟩) (R * C) (R * C)], .int .i64 0]) ∧
      ZG 56 w' (w.heap.size + 1) w'.heap.size lb (R * C) (fun _ => 0) ∧ Below w.heap.size w w' := by
  have k := three_cells w (.int .i64 0) (.int .i64 0) (.slice none 0 0) 34
  have hb0 : Below w.heap.size w (w.alloc (.cells #[.int .i64 0, .int .i64 0, .slice none 0 0] 34)) := (Below.refl _ _).alloc (Nat.le_refl _) _
  have hs0 : (w.alloc (.cells #[.int .i64 0, .int .i64 0, .slice none 0 0] 34)).heap.size = w.heap.size + 1 := by simp
  have y0 := (k 0 _ rfl).1
  have y1 := (k 1 _ rfl).1
  have y2 := (k 2 _ rfl).1
  have f0 := (k 0 _ rfl).2
  have f1 := (k 1 _ rfl).2
  have f2 := (k 2 _ rfl).2
  have HB0 := Lib.hid hb0
  have HS0 := Lib.hid hs0
  clear k hb0 hs0
  go_enter Try.func46, Try.ntmps46
  go_wp2_with (first
    | (go_at_call_of 74 (Value.int .i64 R); refine (outside_no R hR _).mono ?_; rintro e w' ⟨rfl, rfl⟩)
    | (go_at_call 74; refine (outside_no C hC _).mono ?_; rintro e w' ⟨rfl, rfl⟩)
    | (go_at_call 39; refine (blank_any R C hR hC _).mono ?_; rintro e w3 ⟨lb, rfl, hz3, hb3⟩; have HB3 := Lib.hid (HB0.out.trans (hb3.mono HB0.out.size)); have HZ3 := Lib.hid hz3; replace f0 := froz_stays hb3 y0 f0; replace f1 := froz_stays hb3 y1 f1; replace f2 := froz_stays hb3 y2 f2; replace y0 := cell_stays hb3 y0; replace y1 := cell_stays hb3 y1; replace y2 := cell_stays hb3 y2; have HS3 := Lib.hid hb3.size; clear hb3 hz3))
  have hz := HZ3.out
  rw [HS0.out] at hz
  have hs3 := HS3.out
  rw [HS0.out] at hs3
  have l1 := hz.own
  have ne : ∀ {i j : Nat}, i ≠ j → (⟨w.heap.size, i, none⟩ : Addr) ≠ ⟨w.heap.size, j, none⟩ := fun hij e => by injection e with _ e _; exact hij e
  have r3 := ((hz.set (a := ⟨w.heap.size, 0, none⟩) (by show w.heap.size < _; omega) (by show w.heap.size ≠ lb; omega) (.int .i64 R)).set (a := ⟨w.heap.size, 1, none⟩) (by show w.heap.size < _; omega) (by show w.heap.size ≠ lb; omega) (.int .i64 C)).set (a := ⟨w.heap.size, 2, none⟩) (by show w.heap.size < _; omega) (by show w.heap.size ≠ lb; omega) (.slice (some ⟨lb, 0, none⟩) (R * C) (R * C))
  have r0 : (((w3.setCell ⟨w.heap.size, 0, none⟩ (.int .i64 R)).setCell ⟨w.heap.size, 1, none⟩ (.int .i64 C)).setCell ⟨w.heap.size, 2, none⟩ (.slice (some ⟨lb, 0, none⟩) (R * C) (R * C))).cell? ⟨w.heap.size, 0, none⟩ = some (.int .i64 R) := by
    rw [World.cell?_setCell_other _ _ _ _ (by intro e; injection e with _ e _; omega), World.cell?_setCell_other _ _ _ _ (by intro e; injection e with _ e _; omega)]; exact World.cell?_setCell_same _ _ _ y0
  have r1 : (((w3.setCell ⟨w.heap.size, 0, none⟩ (.int .i64 R)).setCell ⟨w.heap.size, 1, none⟩ (.int .i64 C)).setCell ⟨w.heap.size, 2, none⟩ (.slice (some ⟨lb, 0, none⟩) (R * C) (R * C))).cell? ⟨w.heap.size, 1, none⟩ = some (.int .i64 C) := by
    rw [World.cell?_setCell_other _ _ _ _ (by intro e; injection e with _ e _; omega)]
    refine World.cell?_setCell_same _ _ _ (u := .int .i64 0) ?_
    rw [World.cell?_setCell_other _ _ _ _ (by intro e; injection e with _ e _; omega)]; exact y1
  have r2 : (((w3.setCell ⟨w.heap.size, 0, none⟩ (.int .i64 R)).setCell ⟨w.heap.size, 1, none⟩ (.int .i64 C)).setCell ⟨w.heap.size, 2, none⟩ (.slice (some ⟨lb, 0, none⟩) (R * C) (R * C))).cell? ⟨w.heap.size, 2, none⟩ = some (.slice (some ⟨lb, 0, none⟩) (R * C) (R * C)) := by
    refine World.cell?_setCell_same _ _ _ (u := .slice none 0 0) ?_
    rw [World.cell?_setCell_other _ _ _ _ (by intro e; injection e with _ e _; omega), World.cell?_setCell_other _ _ _ _ (by intro e; injection e with _ e _; omega)]; exact y2
  refine bodyPost_ret (v := .tuple #[.agg #[.int .i64 R, .int .i64 C, .slice (some ⟨lb, 0, none⟩) (R * C) (R * C)], .int .i64 0]) ?_ rfl ⟨lb, rfl, ?_, ?_⟩
  · simp [results, Try.results46, go_sem, r0, r1, r2]
  · simpa [World.setCell] using r3
  · repeat (with_reducible refine Below.setCell ?_ (by show w.heap.size ≤ w.heap.size; omega) _)
    exact HB3.out

/-- 1 at the places of the diagonal before row i -/
def unitZ (n i : Nat) : Nat → Int := fun q => if q / n = q % n ∧ q / n < i then 1 else 0
theorem unit_put {n i : Nat} (hi : i < n) (q : Nat) : (if q = i * n + i then 1 else unitZ n i q) = unitZ n (i + 1) q := by
  obtain ⟨h1, h2⟩ := div_mod_lt (j := i) hi
  unfold unitZ
  by_cases e : q = i * n + i
  · rw [if_pos e, e, h1, h2, if_pos ⟨rfl, by omega⟩]
  · rw [if_neg e]
    by_cases h : q / n = q % n ∧ q / n < i
    · rw [if_pos h, if_pos ⟨h.1, by omega⟩]
    · rw [if_neg h]
      refine (if_neg ?_).symm
      rintro ⟨g1, g2⟩
      by_cases g3 : q / n < i
      · exact h ⟨g1, g3⟩
      · refine e ?_
        have h5 : q / n = i := by omega
        have h6 := Nat.div_add_mod q n
        rw [← g1, h5, Nat.mul_comm] at h6
        exact h6.symm
theorem unit_end {n : Nat} (q : Nat) (hq : q < n * n) : unitZ n n q = if q / n = q % n then 1 else 0 := by
  obtain ⟨h1, -⟩ := mul_idx (K := n) hq
  unfold unitZ
  by_cases h : q / n = q % n
  · rw [if_pos ⟨h, h1⟩, if_pos h]
  · rw [if_neg (fun g => h g.1), if_neg h]

theorem one_fr (w : World) : FrZ (w.alloc (.cells #[.int .u64 1] 22)) w.heap.size (.agg #[.bool (decide ((1 : Int) < 0)), .slice (some ⟨w.heap.size, 0, none⟩) 1 1]) 1 := by
  have hn := heap_alloc_new w (.cells #[.int .u64 1] 22)
  refine ⟨_, 1, fun _ => 1, rfl, Or.inr ⟨w.heap.size, 1, rfl, Nat.le_refl _, by decide, Nat.le_refl _, ⟨_, hn, rfl⟩, fun i hi => ?_⟩, ?_⟩
  · obtain rfl : i = 0 := by omega
    refine ⟨by rw [cell_of_row _ _ _ _ _ _ hn]; rfl, ?_⟩
    unfold World.frozen?; simp only; rw [hn]; simp
  · constructor
    all_goals first | rfl | (intro h; decide) | (intro i hi; decide) | simp [natFrom] | omega

set_option maxHeartbeats 2000000 in
set_option maxRecDepth 100000 in
theorem Unit_rd (n : Nat) (hn : n ≤ 64) (w : World) :
    Calls Try.prog 19 #[.int .i64 n] w fun e w' => ∃ lb, e = .returned (.tuple #[.agg #[.int .i64 n, .int .i64 n, .slice (some ⟨lb, 0, none⟩) (n * n) (n * n)], .int .i64 0]) ∧
      RdN w' (.slice (some ⟨lb, 0, none⟩) (n * n) (n * n)) (n * n) (fun q => if q / n = q % n then 1 else 0) 1 ∧ Below w.heap.size w w' := by
  have k := three_cells w (.int .i64 0) (.int .i64 0) (.slice none 0 0) 34
  have hb0 : Below w.heap.size w (w.alloc (.cells #[.int .i64 0, .int .i64 0, .slice none 0 0] 34)) := (Below.refl _ _).alloc (Nat.le_refl _) _
  have hs0 : (w.alloc (.cells #[.int .i64 0, .int .i64 0, .slice none 0 0] 34)).heap.size = w.heap.size + 1 := by simp
  have y0 := (k 0 _ rfl).1
  have y1 := (k 1 _ rfl).1
  have y2 := (k 2 _ rfl).1
  have f0 := (k 0 _ rfl).2
  have f1 := (k 1 _ rfl).2
  have f2 := (k 2 _ rfl).2
  have HB0 := Lib.hid hb0
  have HS0 := Lib.hid hs0
  clear k hb0 hs0
  go_enter Try.func19, Try.ntmps19
  go_wp2_with (go_at_call 46; refine (Zero_rd n n hn hn _).mono ?_; rintro e w3 ⟨lb, rfl, hz3, hb3⟩; have HB3 := Lib.hid (HB0.out.trans (hb3.mono HB0.out.size)); have HZ3 := Lib.hid hz3; replace f0 := froz_stays hb3 y0 f0; replace f1 := froz_stays hb3 y1 f1; replace f2 := froz_stays hb3 y2 f2; replace y0 := cell_stays hb3 y0; replace y1 := cell_stays hb3 y1; replace y2 := cell_stays hb3 y2; have HS3 := Lib.hid hb3.size; clear hb3 hz3)
  have hbox := (Below.refl w3.heap.size w3).alloc (Nat.le_refl _) (.cells #[.int .i64 n, .int .i64 n, .slice (some ⟨lb, 0, none⟩) (n * n) (n * n)] 34)
  have hm := three_cells w3 (.int .i64 n) (.int .i64 n) (.slice (some ⟨lb, 0, none⟩) (n * n) (n * n)) 34
  have h0 : GS w (w3.alloc (.cells #[.int .i64 n, .int .i64 n, .slice (some ⟨lb, 0, none⟩) (n * n) (n * n)] 34)) [] w.heap.size n n lb w3.heap.size (unitZ n 0) := by
    have h3 := HZ3.out.own
    rw [HS0.out] at h3
    exact ⟨((HZ3.out.mono (by rw [HS0.out]; omega)).congr fun q _ => by unfold unitZ; rw [if_neg (by omega)]).below hbox, HB3.out.alloc HB3.out.size _, by omega, Nat.le_refl _, by simp, fun p hp => absurd hp (by simp), ⟨cell_stays hbox y0, cell_stays hbox y1, cell_stays hbox y2⟩,
      ⟨froz_stays hbox y0 f0, froz_stays hbox y1 f1, froz_stays hbox y2 f2⟩, ⟨(hm 0 _ rfl).1, (hm 1 _ rfl).1, (hm 2 _ rfl).1⟩⟩
  have H0 := Lib.hid h0
  generalize w3.alloc (.cells #[.int .i64 n, .int .i64 n, .slice (some ⟨lb, 0, none⟩) (n * n) (n * n)] 34) = w4 at H0 ⊢
  generalize w3.heap.size = nb at H0 ⊢
  clear hbox hm h0 y0 y1 y2 f0 f1 f2 HZ3 HB3 HB0 HS0 HS3
  go_loopw [6] (fun iv wr => ∃ i : Nat, i ≤ n ∧ iv = .int .i64 i ∧ GS w wr [] w.heap.size n n lb nb (unitZ n i)) (fun iv _ => n - (intOf iv).toNat)
  case atStart => exact ⟨0, by omega, rfl, H0.out⟩
  case round =>
    clear H0
    obtain ⟨i, i1, rfl, h⟩ := hrel
    obtain ⟨n0, n1, n2⟩ := h.m
    by_cases hi : i < n
    · obtain ⟨q, hq⟩ : ∃ q, q = i * n + i := ⟨_, rfl⟩
      have hqN : q < n * n := by rw [hq]; exact prod_lt hi hi
      have hnn : n * n ≤ 4096 := Nat.mul_le_mul hn hn
      obtain ⟨e3, e4⟩ := prod64 (r := i) (c := n) (by omega) (by omega)
      have e2 : (i : Int) * n + i = q := by rw [hq]; simp
      have g2 : IntKind.i64.wrap ((i : Int) * n) = (i : Int) * n := IntWalk.i64_in _ (by omega)
      have g3 : IntKind.i64.wrap ((q : Nat) : Int) = q := IntWalk.i64_in _ (by omega)
      have g4 : IntKind.i64.wrap ((i : Int) * n + i) = q := by rw [e2]; exact g3
      have g0 : (0 : Int) ≤ (q : Int) := by omega
      have g1 : (q : Int) < ((n * n : Nat) : Int) := by omega
      have g1' : (q : Int) < (n : Int) * (n : Int) := by have h9 := g1; push_cast at h9; exact h9
      have hba : Below wr.heap.size wr (wr.alloc (.cells #[.int .u64 1] 22)) := (Below.refl _ _).alloc (Nat.le_refl _) _
      have h6 := h.below hba
      obtain ⟨t0, t1, t2, v1, v2, -⟩ := h6.zg.cells q hqN
      have v3 := h6.zg.froz (i := q * 2) (by omega)
      have v4 := h6.zg.froz (i := q * 2 + 1) (by omega)
      have hlt := h.lt
      have R1 := Lib.hid (h6.put (k := q) hqN (one_fr wr) (Nat.le_of_lt hlt) (z' := unitZ n (i + 1)) (fun q' _ => by rw [hq]; exact unit_put hi q'))
      have m0 := h6.m.1
      have m1 := h6.m.2.1
      have m2 := h6.m.2.2
      clear h h6 hba hq e2
      go_wp2_with fail
      go_roundw
      case rel => exact ⟨i + 1, by omega, by go_num, R1.out⟩
      case measure => simp [intOf]; omega
    · obtain rfl : i = n := by omega
      have H := Lib.hid h
      obtain ⟨y0, y1, y2⟩ := h.y
      obtain ⟨f0, f1, f2⟩ := h.f
      clear h
      go_wp2_with fail
      obtain ⟨r0, r1, r2, r3, r4⟩ := H.out.done
      refine bodyPost_ret (v := .tuple #[.agg #[.int .i64 i, .int .i64 i, .slice (some ⟨lb, 0, none⟩) (i * i) (i * i)], .int .i64 0]) ?_ rfl ⟨lb, rfl, ?_, r4⟩
      · simp [results, Try.results19, go_sem, r0, r1, r2]
      · exact (r3.congr (y := fun q => if q / i = q % i then 1 else 0) fun q hq => unit_end q hq).read (Nat.le_trans (Nat.mul_le_mul hn hn) (by decide)) (by omega) (fun q _ => by
          unfold ZB; rw [Int.pow_succ, Int.pow_zero]; split <;> decide)
end Go.Proofs.Ytdlpemmoobbgnaa

namespace Go.Proofs.Ytdlpemmoobbgnaa
open Go.RowKit

theorem minus_one (w : World) : Below w.heap.size w (w.alloc (.cells #[.int .u64 1] 22)) ∧ RdZ (w.alloc (.cells #[.int .u64 1] 22)) (.agg #[.bool true, .slice (some ⟨w.heap.size, 0, none⟩) 1 1]) (-1) :=
  ⟨(Below.refl _ _).alloc (Nat.le_refl _) _, ⟨true, 1, fun _ => 1⟩, ⟨_, rfl, one_word w 1 (by omega) (by omega) _⟩, by simp [Raw.val, Raw.mag, natFrom], (by decide : (1 : Nat) ≤ 274877906944)⟩

theorem stored_own3 {w : World} {b : Nat} {u0 u1 u2 v0 v1 v2 : Value} (y0 : w.cell? ⟨b, 0, none⟩ = some u0) (y1 : w.cell? ⟨b, 1, none⟩ = some u1) (y2 : w.cell? ⟨b, 2, none⟩ = some u2) :
    (((w.setCell ⟨b, 0, none⟩ v0).setCell ⟨b, 1, none⟩ v1).setCell ⟨b, 2, none⟩ v2).cell? ⟨b, 0, none⟩ = some v0 ∧ (((w.setCell ⟨b, 0, none⟩ v0).setCell ⟨b, 1, none⟩ v1).setCell ⟨b, 2, none⟩ v2).cell? ⟨b, 1, none⟩ = some v1 ∧
    (((w.setCell ⟨b, 0, none⟩ v0).setCell ⟨b, 1, none⟩ v1).setCell ⟨b, 2, none⟩ v2).cell? ⟨b, 2, none⟩ = some v2 := by
  refine ⟨?_, ?_, ?_⟩
  · rw [World.cell?_setCell_other _ _ _ _ (by intro e; injection e with _ e _; omega), World.cell?_setCell_other _ _ _ _ (by intro e; injection e with _ e _; omega)]; exact World.cell?_setCell_same _ _ _ y0
  · rw [World.cell?_setCell_other _ _ _ _ (by intro e; injection e with _ e _; omega)]
    refine World.cell?_setCell_same _ _ _ (u := u1) ?_
    rw [World.cell?_setCell_other _ _ _ _ (by intro e; injection e with _ e _; omega)]; exact y1
  · refine World.cell?_setCell_same _ _ _ (u := u2) ?_
    rw [World.cell?_setCell_other _ _ _ _ (by intro e; injection e with _ e _; omega), World.cell?_setCell_other _ _ _ _ (by intro e; injection e with _ e _; omega)]; exact y2

set_option maxHeartbeats 2000000 in
set_option maxRecDepth 100000 in
theorem Sub_mat (R C : Nat) (hR : R ≤ 64) (hC : C ≤ 64) (s1 s2 : Value) (z1 z2 : Nat → Int) (S1 S2 : Nat) (hS : S1 + (1 + S2) + 1 ≤ 274877906944) (w : World) (h1 : RdN w s1 (R * C) z1 S1) (h2 : RdN w s2 (R * C) z2 S2) :
    Calls Try.prog 23 #[.agg #[.int .i64 R, .int .i64 C, s1], .agg #[.int .i64 R, .int .i64 C, s2]] w fun e w' => ∃ lb, e = .returned (.tuple #[.agg #[.int .i64 R, .int .i64 C, .slice (some ⟨lb, 0, none⟩) (R * C) (R * C)], .int .i64 0]) ∧
      RdN w' (.slice (some ⟨lb, 0, none⟩) (R * C) (R * C)) (R * C) (fun q => z1 q - z2 q) (S1 + (1 + S2) + 1) ∧ Below w.heap.size w w' := by
  obtain ⟨a, cap, rfl, hn⟩ := h1.slice
  obtain ⟨b, cap', rfl, hn'⟩ := h2.slice
  obtain ⟨N, hN⟩ : ∃ N, N = R * C := ⟨_, rfl⟩
  obtain ⟨W0, hW0, ⟨x0, x1, x2⟩, ⟨x3, x4, x5⟩, ⟨y0, y1, y2⟩, ⟨f0, f1, f2⟩, hb0, hs0⟩ := three_boxes w (.int .i64 R) (.int .i64 C) (.slice a (R * C) cap) (.int .i64 R) (.int .i64 C) (.slice b (R * C) cap') 34
  obtain ⟨hba, hkz⟩ := minus_one W0
  have x0 := cell_stays hba x0
  have x1 := cell_stays hba x1
  have x2 := cell_stays hba x2
  have x3 := cell_stays hba x3
  have x4 := cell_stays hba x4
  have x5 := cell_stays hba x5
  have f0 := froz_stays hba y0 f0
  have f1 := froz_stays hba y1 f1
  have f2 := froz_stays hba y2 f2
  have y0 := cell_stays hba y0
  have y1 := cell_stays hba y1
  have y2 := cell_stays hba y2
  have hb := hb0.trans (hba.mono hb0.size)
  have hsc := Scale_rd R C hR hC _ _ _ _ _ (.slice b (R * C) cap') z2 1 S2 (by omega) _ hkz (by unfold ZB; rw [Int.pow_succ, Int.pow_zero]; decide) (h2.below hb)
  rw [hs0] at hsc hkz
  have hsz : (W0.alloc (.cells #[.int .u64 1] 22)).heap.size = w.heap.size + 4 := by simp [hs0]
  rw [hW0] at x0 x1 x2 x3 x4 x5 y0 y1 y2 f0 f1 f2 hsc hb hsz
  have HR1 := Lib.hid h1
  have HR2 := Lib.hid h2
  have HSC := Lib.hid hsc
  have HB := Lib.hid hb
  have HSZ := Lib.hid hsz
  clear h1 h2 hb0 hs0 hba hkz hsc hb hsz hW0
  go_enter Try.func23, Try.ntmps23
  go_wp2_with fail
  refine HSC.out.mono ?_
  rintro e w2 ⟨l2, rfl, hrd2, hb2⟩
  have hbx := box_mat w2 (.int .i64 R) (.int .i64 C) (.slice (some ⟨l2, 0, none⟩) (R * C) (R * C)) 34
  have hb3 := hb2.trans (hbx.1.mono hb2.size)
  have hs3 := hb3.size
  rw [HSZ.out] at hs3
  replace x0 := cell_stays hb3 x0
  replace x1 := cell_stays hb3 x1
  replace x2 := cell_stays hb3 x2
  replace f0 := froz_stays hb3 y0 f0
  replace f1 := froz_stays hb3 y1 f1
  replace f2 := froz_stays hb3 y2 f2
  replace y0 := cell_stays hb3 y0
  replace y1 := cell_stays hb3 y1
  replace y2 := cell_stays hb3 y2
  have HB3 := Lib.hid (HB.out.trans (hb3.mono HB.out.size))
  have hadd := Add_any R C hR hC _ _ z1 _ S1 (1 + S2) (by omega) _ (HR1.out.below HB3.out) (hrd2.below hbx.1)
  have HADD := Lib.hid hadd
  obtain ⟨-, n0, n1, n2⟩ := hbx
  clear x3 x4 x5 hb2 hb3 hrd2 hadd
  go_wp2_with fail
  refine HADD.out.mono ?_
  rintro e w5 ⟨l5, bm, rfl, hz5, hb5⟩
  have hs5 := Nat.le_trans hs3 hb5.size
  replace f0 := froz_stays hb5 y0 f0
  replace f1 := froz_stays hb5 y1 f1
  replace f2 := froz_stays hb5 y2 f2
  replace y0 := cell_stays hb5 y0
  replace y1 := cell_stays hb5 y1
  replace y2 := cell_stays hb5 y2
  have HB5 := Lib.hid (HB3.out.trans (hb5.mono HB3.out.size))
  have l1 := hz5.own
  have l2 := hz5.lt
  have r3 := ((hz5.set (a := ⟨w.heap.size + 2, 0, none⟩) (by show w.heap.size + 2 < _; omega) (by show w.heap.size + 2 ≠ l5; omega) (.int .i64 R)).set (a := ⟨w.heap.size + 2, 1, none⟩) (by show w.heap.size + 2 < _; omega) (by show w.heap.size + 2 ≠ l5; omega) (.int .i64 C)).set (a := ⟨w.heap.size + 2, 2, none⟩) (by show w.heap.size + 2 < _; omega) (by show w.heap.size + 2 ≠ l5; omega) (.slice (some ⟨l5, 0, none⟩) (R * C) (R * C))
  obtain ⟨r0, r1, r2⟩ := stored_own3 (v0 := .int .i64 R) (v1 := .int .i64 C) (v2 := .slice (some ⟨l5, 0, none⟩) (R * C) (R * C)) y0 y1 y2
  have HR3 := Lib.hid r3
  clear r3 hz5 hb5
  go_wp2_with fail
  refine bodyPost_ret (v := .tuple #[.agg #[.int .i64 R, .int .i64 C, .slice (some ⟨l5, 0, none⟩) (R * C) (R * C)], .int .i64 0]) ?_ rfl ⟨l5, rfl, ?_, ?_⟩
  · simp [results, Try.results23, go_sem, r0, r1, r2]
  · exact RdN.congr (HR3.out.read (Nat.le_trans (Nat.mul_le_mul hR hC) (by decide)) hS (fun q hq => (HR1.out.zb hq).add ((show ZB 1 (-1) by unfold ZB; rw [Int.pow_succ, Int.pow_zero]; decide).mul (HR2.out.zb hq)))) (fun q _ => by omega)
  · repeat (with_reducible refine Below.setCell ?_ (by show w.heap.size ≤ w.heap.size + 2; omega) _)
    exact HB5.out
end Go.Proofs.Ytdlpemmoobbgnaa
