/- The walk of modp.whole: a grid of residues as a matrix of integers. -/
import Derived.Test.YtdlpemmoobbgnaaNatW
import Derived.Test.YtdlpemmoobbgnaaList
import Derived.Test.YtdlpemmoobbgnaaGrid
import Derived.Deep.RegionLaw
set_option linter.unusedVariables false
set_option linter.unusedSimpArgs false
namespace Go.Proofs.Ytdlpemmoobbgnaa
open Go.RowKit

theorem infoI : (Try.prog.info? 56).map (fun i => (i.zero, i.size, i.bytes)) = some (some (.agg #[.bool false, .slice none 0 0]), 2, 32) := by kernel_rfl

theorem mk_ints (n : Nat) (hn : n ≤ 1048576) (u : World) : (Instr.makeSlice 32 (.int .i64 0) (.int .i64 n)).run Try.prog u =
    .ok (.slice (some ⟨u.heap.size, 0, none⟩) 0 n) (u.alloc (.cells (madeCells #[.bool false, .slice none 0 0] (n * 2)) 56)) := by
  obtain ⟨i0, hi, hz0, hz1, hz2⟩ := info_parts infoI
  have h := run_make (P := Try.prog) u 32 56 i0 (.agg #[.bool false, .slice none 0 0]) Try.underlying32 hi hz0 .i64 .i64 0 (n : Int) (by omega) (by omega) (by rw [hz2]; omega) (by omega)
  simpa [hz1, Value.cells] using h

/-- the state of whole: q entries stand in the list; the matrix lies in a box, the result's box is still empty -/
structure WRel (w wr : World) (m n K q : Nat) (x : Nat → Raw) (M : Nat → Value) : Prop where
  ls : LS 56 22 wr w.heap.size (w.heap.size + 3) (w.heap.size + 1) K q x M
  below : Below w.heap.size w wr
  size : w.heap.size + 3 ≤ wr.heap.size
  m0 : wr.cell? ⟨w.heap.size + 1 + 1, 0, none⟩ = some (.int .i64 m)
  m1 : wr.cell? ⟨w.heap.size + 1 + 1, 1, none⟩ = some (.int .i64 n)
  m2 : wr.cell? ⟨w.heap.size + 1 + 1, 2, none⟩ = some (.slice (some ⟨w.heap.size + 1, 0, none⟩) q K)
  mf : wr.frozen? ⟨w.heap.size + 1 + 1, 2, none⟩ = false
  r0 : wr.cell? ⟨w.heap.size, 0, none⟩ = some (.int .i64 0) ∧ wr.frozen? ⟨w.heap.size, 0, none⟩ = false
  r1 : wr.cell? ⟨w.heap.size, 1, none⟩ = some (.int .i64 0) ∧ wr.frozen? ⟨w.heap.size, 1, none⟩ = false
  r2 : wr.cell? ⟨w.heap.size, 2, none⟩ = some (.slice none 0 0) ∧ wr.frozen? ⟨w.heap.size, 2, none⟩ = false

theorem three_cells (w : World) (u v x : Value) (t : TypeId) : ∀ i y, [u, v, x][i]? = some y → (w.alloc (.cells #[u, v, x] t)).cell? ⟨w.heap.size, i, none⟩ = some y ∧ (w.alloc (.cells #[u, v, x] t)).frozen? ⟨w.heap.size, i, none⟩ = false := by
  intro i y hy
  have h := heap_alloc_new w (.cells #[u, v, x] t)
  refine ⟨by rw [cell_of_row _ _ _ _ _ _ h]; simpa using hy, ?_⟩
  unfold World.frozen?; simp only; rw [h]; simp

theorem WRel.start (w : World) (m n K : Nat) (x : Nat → Raw) (M : Nat → Value) :
    WRel w (((w.alloc (.cells #[.int .i64 0, .int .i64 0, .slice none 0 0] 34)).alloc (.cells (madeCells #[.bool false, .slice none 0 0] (K * 2)) 56)).alloc
      (.cells #[.int .i64 m, .int .i64 n, .slice (some ⟨w.heap.size + 1, 0, none⟩) 0 K] 34)) m n K 0 x M := by
  obtain ⟨w1, h1⟩ : ∃ w1, w1 = w.alloc (.cells #[.int .i64 0, .int .i64 0, .slice none 0 0] 34) := ⟨_, rfl⟩
  obtain ⟨w2, h2⟩ : ∃ w2, w2 = w1.alloc (.cells (madeCells #[.bool false, .slice none 0 0] (K * 2)) 56) := ⟨_, rfl⟩
  have s1 : w1.heap.size = w.heap.size + 1 := by rw [h1]; simp
  have s2 : w2.heap.size = w.heap.size + 1 + 1 := by rw [h2]; simp [s1]
  have b1 : Below w.heap.size w w1 := by rw [h1]; exact (Below.refl _ _).alloc (Nat.le_refl _) _
  have b2 : Below w1.heap.size w1 w2 := by rw [h2]; exact (Below.refl _ _).alloc (Nat.le_refl _) _
  have c1 := three_cells w (.int .i64 0) (.int .i64 0) (.slice none 0 0) 34
  rw [← h1] at c1
  have c3 := three_cells w2 (.int .i64 m) (.int .i64 n) (.slice (some ⟨w.heap.size + 1, 0, none⟩) 0 K) 34
  have ls := LS.start (T := 56) (E := 22) (base := w.heap.size) (bm := w.heap.size + 3) (cap := K) w1 (madeCells #[.bool false, .slice none 0 0] (K * 2)) (by simp [madeCells]; omega) (by omega) x M
  rw [← h2, s1] at ls
  rw [← h1, ← h2]
  have b3 : Below w2.heap.size w2 (w2.alloc (.cells #[.int .i64 m, .int .i64 n, .slice (some ⟨w.heap.size + 1, 0, none⟩) 0 K] 34)) := (Below.refl _ _).alloc (Nat.le_refl _) _
  have s3 : (w2.alloc (.cells #[.int .i64 m, .int .i64 n, .slice (some ⟨w.heap.size + 1, 0, none⟩) 0 K] 34)).heap.size = w.heap.size + 3 := by simp [s2]
  rw [s2] at c3
  generalize w2.alloc (.cells #[.int .i64 m, .int .i64 n, .slice (some ⟨w.heap.size + 1, 0, none⟩) 0 K] 34) = w3 at *
  have b13 : Below w1.heap.size w1 w3 := b2.trans (b3.mono (by omega))
  have r (i : Nat) (y : Value) (hy : [Value.int .i64 0, .int .i64 0, .slice none 0 0][i]? = some y) : w3.cell? ⟨w.heap.size, i, none⟩ = some y ∧ w3.frozen? ⟨w.heap.size, i, none⟩ = false :=
    ⟨cell_stays b13 (c1 i y hy).1, froz_stays b13 (c1 i y hy).1 (c1 i y hy).2⟩
  exact ⟨ls.below b3, b1.trans (b13.mono (by omega)), by omega, (c3 0 _ rfl).1, (c3 1 _ rfl).1, (c3 2 _ rfl).1, (c3 2 (.slice (some ⟨w.heap.size + 1, 0, none⟩) 0 K) rfl).2, r 0 _ rfl, r 1 _ rfl, r 2 _ rfl⟩

/-- one entry more: w6: behind the call that made the integer -/
theorem WRel.push {w wr w6 : World} {m n K q : Nat} {x : Nat → Raw} {M : Nat → Value} (h : WRel w wr m n K q x M) (hq : q < K) (hb : Below wr.heap.size wr w6) {b : Nat} {y : Int}
    (o1 : wr.heap.size ≤ b) (o2 : Blk w6 b (w1 y) 22) (o3 : RowAt .u64 w6 b 0 (w1 y) fun _ => y) (hx : x q = small y) :
    WRel w ((((w6.alloc (.cells #[.bool false, .slice (some ⟨b, 0, none⟩) (w1 y) (w1 y)] 56)).setCell ⟨w.heap.size + 1, q * 2, none⟩ (.bool false)).setCell ⟨w.heap.size + 1, q * 2 + 1, none⟩ (.slice (some ⟨b, 0, none⟩) (w1 y) (w1 y))).setCell
      ⟨w.heap.size + 1 + 1, 2, none⟩ (.slice (some ⟨w.heap.size + 1, 0, none⟩) (q + 1) K)) m n K (q + 1) x (fun i => if i = q then .slice (some ⟨b, 0, none⟩) (w1 y) (w1 y) else M i) := by
  have hz := h.size
  have hw1 : w1 y ≤ 1 := by unfold w1; split <;> omega
  have hfr : FrA .u64 22 w6 (w.heap.size + 3) (.slice (some ⟨b, 0, none⟩) (w1 y) (w1 y)) (w1 y) (fun _ => y) := Or.inr ⟨b, w1 y, rfl, Nat.le_refl _, by omega, by omega, o2, o3⟩
  obtain ⟨w7, h7⟩ : ∃ w7, w7 = w6.alloc (.cells #[.bool false, .slice (some ⟨b, 0, none⟩) (w1 y) (w1 y)] 56) := ⟨_, rfl⟩
  have b67 : Below w6.heap.size w6 w7 := by rw [h7]; exact (Below.refl _ _).alloc (Nat.le_refl _) _
  have b7 : Below wr.heap.size wr w7 := hb.trans (b67.mono hb.size)
  rw [← h7]
  have ls7 := h.ls.below b7
  have ls8 := ls7.push hq (s := false) (hfr.below b67) hx (fun i hi => by
    have hlt := fun k hk => ((h.ls.mags i hi).lt (b := k) hk).2
    refine ⟨fun k hk e => ?_, fun k hk e => ?_⟩
    · have := hlt k hk; simp [Value.ownBlock] at e; omega
    · simp [Value.ownBlock] at hk; have := hlt k e; omega) (by simp [Value.ownBlock]; omega)
  have g8 : w7.grownBy ((w7.setCell ⟨w.heap.size + 1, q * 2, none⟩ (.bool false)).setCell ⟨w.heap.size + 1, q * 2 + 1, none⟩ (.slice (some ⟨b, 0, none⟩) (w1 y) (w1 y))) (some (w.heap.size + 1)) := gb_trans (gb_set _ _ _) (gb_set _ _ _)
  generalize (w7.setCell ⟨w.heap.size + 1, q * 2, none⟩ (.bool false)).setCell ⟨w.heap.size + 1, q * 2 + 1, none⟩ (.slice (some ⟨b, 0, none⟩) (w1 y) (w1 y)) = w8 at *
  have s7 := b7.size
  have s8 := g8.size
  have g17 : wr.grownBy w8 (some (w.heap.size + 1)) := gb_trans (gb_below b7 _) g8
  have fz (a : Addr) (u : Value) (hu : wr.cell? a = some u) (hf : wr.frozen? a = false) (ha : a.block ≠ w.heap.size + 1) : w8.frozen? a = false := by
    have hl := World.block_lt_of_cell? wr a hu
    exact (World.frozen?_of_block (g17.block a.block hl (fun e => ha (Option.some.inj e)))).trans hf
  have g89 := gb_set w8 ⟨w.heap.size + 1 + 1, 2, none⟩ (.slice (some ⟨w.heap.size + 1, 0, none⟩) (q + 1) K)
  have c (i : Nat) (u : Value) (hu : wr.cell? ⟨w.heap.size, i, none⟩ = some u ∧ wr.frozen? ⟨w.heap.size, i, none⟩ = false) :
      (w8.setCell ⟨w.heap.size + 1 + 1, 2, none⟩ (.slice (some ⟨w.heap.size + 1, 0, none⟩) (q + 1) K)).cell? ⟨w.heap.size, i, none⟩ = some u ∧
      (w8.setCell ⟨w.heap.size + 1 + 1, 2, none⟩ (.slice (some ⟨w.heap.size + 1, 0, none⟩) (q + 1) K)).frozen? ⟨w.heap.size, i, none⟩ = false :=
    ⟨g89.cell (g17.cell hu.1 (by simp)) (by simp; omega), by rw [World.frozen?_setCell]; exact fz _ u hu.1 hu.2 (by simp)⟩
  have hm (i : Nat) (u : Value) (hi : i ≠ 2) (hu : wr.cell? ⟨w.heap.size + 1 + 1, i, none⟩ = some u) :
      (w8.setCell ⟨w.heap.size + 1 + 1, 2, none⟩ (.slice (some ⟨w.heap.size + 1, 0, none⟩) (q + 1) K)).cell? ⟨w.heap.size + 1 + 1, i, none⟩ = some u := by
    rw [World.cell?_setCell_other _ _ _ _ (by intro e'; injection e' with _ e3 _; omega)]
    exact g17.cell hu (by simp)
  refine ⟨ls8.set (by show w.heap.size + 1 + 1 < _; omega) (by show w.heap.size + 1 + 1 ≠ _; omega) _, ?_, by have := g89.size; omega, hm 0 _ (by omega) h.m0, hm 1 _ (by omega) h.m1,
    World.cell?_setCell_same _ _ _ (g17.cell h.m2 (by simp)), by rw [World.frozen?_setCell]; exact fz _ _ h.m2 h.mf (by simp), c 0 _ h.r0, c 1 _ h.r1, c 2 _ h.r2⟩
  exact (h.below.grown g17 h.below.size (fun k hk => by injection hk with hk; omega)).grown g89 (by have := h.below.size; omega) (fun k hk => by injection hk with hk; simp at hk; omega)

theorem below_drew {w w' : World} (h : Below w.drew.heap.size w.drew w') : Below w.heap.size w w' := ⟨h.os, h.tape, h.output, h.size, h.block⟩

/-- the row just built, and the room for it -/
theorem WRel.app {w wr w6 : World} {m n K q : Nat} {x : Nat → Raw} {M : Nat → Value} (h : WRel w wr m n K q x M) (hq : q < K) (hb : Below wr.heap.size wr w6) (u0 u1 : Value) :
    (∀ j u, [u0, u1][j]? = some u → (w6.alloc (.cells #[u0, u1] 56)).cell? (Addr.add ⟨w6.heap.size, 0, none⟩ j) = some u) ∧
    (∀ j, j < [u0, u1].length → ((w6.alloc (.cells #[u0, u1] 56)).cell? ⟨w.heap.size + 1, 0 + q * 2 + j, none⟩).isSome = true ∧ (w6.alloc (.cells #[u0, u1] 56)).frozen? ⟨w.heap.size + 1, 0 + q * 2 + j, none⟩ = false) ∧
    ((w6.alloc (.cells #[u0, u1] 56)).setCells (w.heap.size + 1) (q * 2) [u0, u1]).cell? ⟨w.heap.size + 1 + 1, 2, none⟩ = some (.slice (some ⟨w.heap.size + 1, 0, none⟩) q K) ∧
    ((w6.alloc (.cells #[u0, u1] 56)).setCells (w.heap.size + 1) (q * 2) [u0, u1]).frozen? ⟨w.heap.size + 1 + 1, 2, none⟩ = false ∧
    (w6.alloc (.cells #[u0, u1] 56)).cell? ⟨w.heap.size + 1 + 1, 2, none⟩ = some (.slice (some ⟨w.heap.size + 1, 0, none⟩) q K) := by
  have hg : wr.grownBy (w6.alloc (.cells #[u0, u1] 56)) none := gb_trans (gb_below hb none) (World.grownBy_alloc _ _ _)
  have hg2 : wr.grownBy ((w6.alloc (.cells #[u0, u1] 56)).setCells (w.heap.size + 1) (q * 2) [u0, u1]) (some (w.heap.size + 1)) :=
    gb_trans (gb_trans (gb_below hb _) (World.grownBy_alloc _ _ _)) (gb_trans (gb_set _ _ _) (gb_set _ _ _))
  refine ⟨fun j u hj => ?_, fun j hj => ?_, hg2.cell h.m2 (by simp), ?_, hg.cell h.m2 (by simp)⟩
  · rw [Addr.add_lit, cell_of_row _ _ _ _ _ _ (heap_alloc_new w6 _)]
    simpa using hj
  · exact (h.ls.blk.grown hg (by simp)).cell (by simp at hj; omega)
  · have hl := World.block_lt_of_cell? wr _ h.m2
    exact (World.frozen?_of_block (hg2.block (w.heap.size + 1 + 1) hl (by simp))).trans h.mf

set_option maxHeartbeats 2000000 in
set_option maxRecDepth 100000 in
theorem whole_any (m n gcap base gb go : Nat) (B O C : Nat → Nat) (G : Nat → Nat → Int) (hm : m ≤ 64) (hn : n ≤ 64) (hG : ∀ i j, i < m → j < n → 0 ≤ G i j ∧ G i j < 2147483648)
    (w : World) (hg : GridAt .u64 w base gb go m n B O C G) :
    Calls Try.prog 48 #[.slice (some ⟨gb, go, none⟩) m gcap, .int .i64 n] w fun e w' => ∃ lb M, e = .returned (.agg #[.int .i64 m, .int .i64 n, .slice (some ⟨lb, 0, none⟩) (m * n) (m * n)]) ∧
      LS 56 22 w' w.heap.size w.heap.size lb (m * n) (m * n) (fun q => small (G (q / n) (q % n))) M ∧ Below w.heap.size w w' := by
  obtain ⟨K, hK⟩ : ∃ K, K = m * n := ⟨_, rfl⟩
  rw [← hK]
  have hK4 : K ≤ 4096 := by rw [hK]; exact Nat.mul_le_mul hm hn
  have mk := mk_ints K (by omega)
  have e1 : 0 ≤ (m : Int) * n ∧ (m : Int) * n ≤ 4096 := ⟨Int.mul_nonneg (by omega) (by omega), by have := Int.mul_le_mul (show (m : Int) ≤ 64 by omega) (show (n : Int) ≤ 64 by omega) (by omega) (by omega); omega⟩
  obtain ⟨e2, e3⟩ := e1
  have e4 : (m : Int) * n = (K : Int) := by rw [hK]; simp
  have HK := Lib.hid hK
  have HGB := Lib.hid hG
  have HG := Lib.hid hg
  clear hK hG hg
  go_enter Try.func48, Try.ntmps48
  go_wp2_with fail
  have ws := WRel.start w m n K (fun q => small (G (q / n) (q % n))) (fun _ => .int .i64 0)
  have WS := Lib.hid ws
  clear ws
  obtain ⟨i0, hi, hz0, hz1, hz2⟩ := info_parts infoI
  have HI := Lib.hid (And.intro hi hz1)
  clear hi hz0 hz1 hz2 mk
  generalize ((w.alloc (.cells #[.int .i64 0, .int .i64 0, .slice none 0 0] 34)).alloc (.cells (madeCells #[.bool false, .slice none 0 0] (K * 2)) 56)).alloc
      (.cells #[.int .i64 m, .int .i64 n, .slice (some ⟨w.heap.size + 1, 0, none⟩) 0 K] 34) = W0 at WS ⊢
  go_loopw [21] (fun iv wr => ∃ (i : Nat) (M : Nat → Value), i ≤ m ∧ iv = .int .i64 i ∧ WRel w wr m n K (i * n) (fun q => small (G (q / n) (q % n))) M) (fun iv _ => m - (intOf iv).toNat)
  case atStart => exact ⟨0, _, by omega, rfl, by rw [Nat.zero_mul]; exact WS.out⟩
  case round =>
    obtain ⟨i, M, i1, rfl, hrel⟩ := hrel
    by_cases hi : i < m
    · obtain ⟨c1, c2⟩ := (HG.out.cells i hi)
      have hgl := HG.out.ltG (by omega)
      have c1 := cell_stays hrel.below c1
      have c2 := hrel.below
      have HR := Lib.hid hrel
      have HC2 := Lib.hid c2
      clear hrel c2
      go_wp2_with fail
      go_loopw [27] (fun jv wr => ∃ (j : Nat) (M : Nat → Value), j ≤ n ∧ jv = .int .i64 j ∧ WRel w wr m n K (i * n + j) (fun q => small (G (q / n) (q % n))) M) (fun jv _ => n - (intOf jv).toNat)
      case atStart => exact ⟨0, M, by omega, rfl, HR.out⟩
      case round =>
        clear HR HC2 c1 M
        obtain ⟨j, M, j1, rfl, hrel⟩ := hrel
        by_cases hj : j < n
        · obtain ⟨d1, d2⟩ := (HG.out.rows i hi j hj)
          have d1 := cell_stays hrel.below d1
          obtain ⟨q, hq⟩ : ∃ q, q = i * n + j := ⟨_, rfl⟩
          have hqK : q < K := by
            rw [hq, HK.out]
            have := Nat.mul_le_mul_right n (show i + 1 ≤ m by omega)
            rw [Nat.add_mul, Nat.one_mul] at this; omega
          have hx : small (G (q / n) (q % n)) = small (G i j) := by
            rw [hq, Nat.mul_comm i n, Nat.mul_add_div (by omega), Nat.mul_add_mod, Nat.div_eq_of_lt hj, Nat.mod_eq_of_lt hj, Nat.add_zero]
          rw [← hq] at hrel
          obtain ⟨y, hy⟩ : ∃ y, y = G i j := ⟨_, rfl⟩
          obtain ⟨y0, y1⟩ := HGB.out i j hi hj
          rw [← hy] at d1 hx y0 y1
          have m2 := hrel.m2
          have mf := hrel.mf
          have HR := Lib.hid hrel
          have HX := Lib.hid hx
          have HQ := Lib.hid hq
          clear hrel hq hx hy
          have g0 : IntKind.i64.wrap y = y := IntWalk.i64_in _ (by omega)
          go_wp2_with fail
          go_region_law (first
            | (go_simp; go_at_call 75; refine (Of_any y y0 (by omega) _).mono ?_; rintro e w6 ⟨b, rfl, o1, o2, o3, o4⟩; have k0 := cell_stays (w := wr.drew) o4 m2; have k1 := froz_stays (w := wr.drew) o4 m2 mf; have AP := Lib.hid (HR.out.app hqK (below_drew o4) (.bool false) (.slice (some ⟨b, 0, none⟩) (w1 y) (w1 y))); have k4 := AP.out.2.2.2.2)
            | (refine step_append_room rfl (.tmp 32) (.tmp 36) 32 rfl 56 i0 2 Try.underlying32 HI.out.1 HI.out.2 (w.heap.size + 1) 0 q K (by simp [Act.eval, Act.put]) ⟨w6.heap.size, 0, none⟩ 1 1 [.bool false, .slice (some ⟨b, 0, none⟩) (w1 y) (w1 y)] (by simp [Act.eval, Act.put]) rfl AP.out.1 (by intro u hu; simp at hu; rcases hu with rfl | rfl <;> rfl) (by omega) AP.out.2.1 ?_; have k2 := AP.out.2.2.1; have k3 := AP.out.2.2.2.1))
          all_goals
            have hN := HR.out.push hqK (below_drew o4) o1 o2 o3 HX.out
            have HNX := Lib.hid hN
            clear hN AP k0 k1 k2 k3 k4 o1 o2 o3 o4
            try clear Q
            go_wp2_with fail
            go_roundw
            case rel => exact ⟨j + 1, _, by omega, by go_num, by rw [← Nat.add_assoc, ← HQ.out]; exact HNX.out⟩
            case measure => simp [intOf]; omega
        · obtain rfl : j = n := by omega
          go_wp2_with fail
          go_roundw
          case rel => exact ⟨i + 1, M, by omega, by go_num, by rw [Nat.add_mul, Nat.one_mul]; exact hrel⟩
          case measure => simp [intOf]; omega
    · obtain rfl : i = m := by omega
      rw [← HK.out] at hrel
      have m0 := hrel.m0
      have m1 := hrel.m1
      have m2 := hrel.m2
      obtain ⟨r0, s0⟩ := hrel.r0
      obtain ⟨r1, s1⟩ := hrel.r1
      obtain ⟨r2, s2⟩ := hrel.r2
      have HR := Lib.hid hrel
      clear hrel
      go_wp2_with fail
      have hg : wr.grownBy (((wr.setCell ⟨w.heap.size, 0, none⟩ (.int .i64 i)).setCell ⟨w.heap.size, 1, none⟩ (.int .i64 n)).setCell ⟨w.heap.size, 2, none⟩ (.slice (some ⟨w.heap.size + 1, 0, none⟩) K K)) (some w.heap.size) :=
        gb_trans (gb_trans (gb_set _ _ _) (gb_set _ _ _)) (gb_set _ _ _)
      refine bodyPost_ret (v := .agg #[.int .i64 i, .int .i64 n, .slice (some ⟨w.heap.size + 1, 0, none⟩) K K]) ?_ rfl ⟨w.heap.size + 1, M, rfl, ?_, ?_⟩
      · simp [results, Try.results48, go_sem, r0, r1, r2]
      · exact (HR.out.ls.grown hg (by simp) (fun i hi => by
          cases hb : (M i).ownBlock with
          | none => exact Or.inl rfl
          | some b => right; have := ((HR.out.ls.mags i hi).lt hb).1; intro e; injection e with e; omega)).mono (Nat.le_refl _) (by omega)
      · exact HR.out.below.grown hg HR.out.below.size (fun k hk => by injection hk with hk; omega)
end Go.Proofs.Ytdlpemmoobbgnaa
