/- The walk of modp's residues: a grid of least residues. -/
import Derived.Test.YtdlpemmoobbgnaaModp1
import Derived.Test.YtdlpemmoobbgnaaGrid
import Derived.StillTailTactics
import Derived.Deep.RegionWith
import Derived.Deep.RegionHeld3
set_option linter.unusedVariables false
set_option linter.unusedSimpArgs false
namespace Go.Proofs.Ytdlpemmoobbgnaa
open Go.RowKit

theorem infoW : (Try.prog.info? 22).map (fun i => (i.zero, i.size, i.bytes)) = some (some (.int .u64 0), 1, 8) := by kernel_rfl
theorem infoWs : (Try.prog.info? 54).map (fun i => (i.zero, i.size, i.bytes)) = some (some (.slice none 0 0), 1, 24) := by kernel_rfl

theorem mk_words (n : Nat) (hn : n ≤ 17592186044416) (u : World) : (Instr.makeSlice 54 (.int .i64 n) (.int .i64 n)).run Try.prog u =
    .ok (.slice (some ⟨u.heap.size, 0, none⟩) n n) (u.alloc (.cells (madeCells #[.int .u64 0] n) 22)) := by
  obtain ⟨i0, hi, hz0, hz1, hz2⟩ := info_parts infoW
  have h := run_make (P := Try.prog) u 54 22 i0 (.int .u64 0) Try.underlying54 hi hz0 .i64 .i64 (n : Int) (n : Int) (by omega) (Int.le_refl _) (by rw [hz2]; omega) (by omega)
  simpa [hz1, Value.cells] using h

theorem mk_grid (n : Nat) (hn : n ≤ 1048576) (u : World) : (Instr.makeSlice 76 (.int .i64 n) (.int .i64 n)).run Try.prog u =
    .ok (.slice (some ⟨u.heap.size, 0, none⟩) n n) (u.alloc (.cells (madeCells #[.slice none 0 0] n) 54)) := by
  obtain ⟨i0, hi, hz0, hz1, hz2⟩ := info_parts infoWs
  have h := run_make (P := Try.prog) u 76 54 i0 (.slice none 0 0) Try.underlying76 hi hz0 .i64 .i64 (n : Int) (n : Int) (by omega) (Int.le_refl _) (by rw [hz2]; omega) (by omega)
  simpa [hz1, Value.cells] using h

/-- a grid of the call's own that is being filled: c of its cells lead to rows, r of them stand -/
structure Part (k : IntKind) (e E : TypeId) (w : World) (base gb m n : Nat) (B : Nat → Nat) (G : Nat → Nat → Int) (c r : Nat) : Prop where
  blk : Blk w gb m E
  cells : CellsAt w gb 0 m (fun i => if i < c then .slice (some ⟨B i, 0, none⟩) n n else .slice none 0 0)
  rows : ∀ i, i < r → Blk w (B i) n e ∧ RowAt k w (B i) 0 n (G i)
  apart : ∀ i j, i < r → j < r → B i = B j → i = j
  off : ∀ i, i < r → B i ≠ gb
  own : ∀ i, i < r → base ≤ B i
  ownG : base ≤ gb

section
variable {k : IntKind} {e E : TypeId} {w w' : World} {base gb m n c r : Nat} {B : Nat → Nat} {G : Nat → Nat → Int}
theorem Part.lt (h : Part k e E w base gb m n B G c r) (i : Nat) (hi : i < r) : B i < w.heap.size := (h.rows i hi).1.lt
theorem Part.grown (h : Part k e E w base gb m n B G c r) {q : Option Nat} (hg : w.grownBy w' q) (h1 : some gb ≠ q) (h2 : ∀ i, i < r → some (B i) ≠ q) : Part k e E w' base gb m n B G c r :=
  { h with blk := h.blk.grown hg h1, cells := h.cells.grown hg h1, rows := fun i hi => ⟨(h.rows i hi).1.grown hg (h2 i hi), (h.rows i hi).2.gb hg (h2 i hi)⟩ }
theorem Part.below (h : Part k e E w base gb m n B G c r) (hb : Below w.heap.size w w') : Part k e E w' base gb m n B G c r :=
  h.grown (gb_below hb none) (by simp) (fun _ _ => by simp)

/-- nothing of it stands yet -/
theorem Part.start (w : World) (base m n : Nat) (hb : base ≤ w.heap.size) : Part k e E (w.alloc (.cells (madeCells #[.slice none 0 0] m) E)) base w.heap.size m n B G 0 0 :=
  ⟨Blk.made w _ m E, (CellsAt.made w _ m E).congr fun i _ => by rw [if_neg (by omega)], fun i h => absurd h (by omega), fun i _ h => absurd h (by omega), fun i h => absurd h (by omega), fun i h => absurd h (by omega), hb⟩

/-- one more row has been made, and stands in the grid, empty yet -/
theorem Part.next (h : Part k e E w base gb m n B G r r) (hr : r < m) (z : Value) (hb : base ≤ w.heap.size) :
    Part k e E ((w.alloc (.cells (madeCells #[z] n) e)).setCell ⟨gb, r, none⟩ (.slice (some ⟨w.heap.size, 0, none⟩) n n)) base gb m n (fun i => if i = r then w.heap.size else B i) G (r + 1) r ∧
    Blk ((w.alloc (.cells (madeCells #[z] n) e)).setCell ⟨gb, r, none⟩ (.slice (some ⟨w.heap.size, 0, none⟩) n n)) w.heap.size n e ∧
    CellsAt ((w.alloc (.cells (madeCells #[z] n) e)).setCell ⟨gb, r, none⟩ (.slice (some ⟨w.heap.size, 0, none⟩) n n)) w.heap.size 0 n (fun _ => z) := by
  have hgb := h.blk.lt
  have h2 := h.grown (World.grownBy_alloc w (.cells (madeCells #[z] n) e) none) (by simp) (fun _ _ => by simp)
  have hB := h.lt
  refine ⟨⟨h2.blk.set r _, (h2.cells.set0 hr _).congr fun i hi => ?_, fun i hi => ?_, fun i j hi hj => ?_, fun i hi => ?_, fun i hi => ?_, h.ownG⟩, (Blk.made w z n e).other (by show gb ≠ _; omega) _, (CellsAt.made w z n e).other (by show gb ≠ _; omega) _⟩
  · by_cases e1 : i = r
    · subst e1; rw [if_pos rfl, if_pos (by omega), if_pos rfl]
    · rw [if_neg e1]
      by_cases e2 : i < r
      · rw [if_pos e2, if_pos (by omega), if_neg e1]
      · rw [if_neg e2, if_neg (by omega)]
  · show Blk _ (if i = r then _ else B i) n e ∧ RowAt k _ (if i = r then _ else B i) 0 n (G i)
    rw [if_neg (by omega)]
    have := h.off i hi
    exact ⟨(h2.rows i hi).1.other (by show gb ≠ _; omega) _, (h2.rows i hi).2.other (by show gb ≠ _; omega) _⟩
  · show (if i = r then _ else B i) = (if j = r then _ else B j) → _
    rw [if_neg (by omega), if_neg (by omega)]; exact h.apart i j hi hj
  · show (if i = r then _ else B i) ≠ gb
    rw [if_neg (by omega)]; exact h.off i hi
  · show base ≤ (if i = r then _ else B i)
    rw [if_neg (by omega)]; exact h.own i hi

/-- the row is full -/
theorem Part.full (h : Part k e E w base gb m n B G (r + 1) r) (hb : Blk w (B r) n e) (hf : RowAt k w (B r) 0 n (G r)) (ha : ∀ i, i < r → B i ≠ B r) (ho : B r ≠ gb) (hw : base ≤ B r) :
    Part k e E w base gb m n B G (r + 1) (r + 1) :=
  { h with
    rows := fun i hi => by
      by_cases e1 : i = r
      · subst e1; exact ⟨hb, hf⟩
      · exact h.rows i (by omega)
    apart := fun i j hi hj e1 => by
      by_cases e2 : i = r
      · by_cases e3 : j = r
        · omega
        · subst e2; exact absurd e1.symm (ha j (by omega))
      · by_cases e3 : j = r
        · subst e3; exact absurd e1 (ha i (by omega))
        · exact h.apart i j (by omega) (by omega) e1
    off := fun i hi => by
      by_cases e1 : i = r
      · subst e1; exact ho
      · exact h.off i (by omega)
    own := fun i hi => by
      by_cases e1 : i = r
      · subst e1; exact hw
      · exact h.own i (by omega) }

theorem Part.congr (h : Part k e E w base gb m n B G c r) {G' : Nat → Nat → Int} (hG : ∀ i j, i < r → j < n → G i j = G' i j) : Part k e E w base gb m n B G' c r :=
  { h with rows := fun i hi => ⟨(h.rows i hi).1, (h.rows i hi).2.congr fun j hj => hG i j hi hj⟩ }

/-- what is whole is a grid -/
theorem Part.grid (h : Part k e E w base gb m n B G m m) (hn : n ≤ 17592186044416) : GridAt k w base gb 0 m n B (fun _ => 0) (fun _ => n) G :=
  ⟨fun i hi => (h.cells.get hi (if_pos hi)), fun i hi => (h.rows i hi).2, h.apart, h.off, fun i _ => ⟨Nat.le_refl _, hn⟩, h.own, h.ownG, h.lt⟩
end

/-- one entry more of the row -/
theorem fill_rel {k : IntKind} {e E : TypeId} {w wr w6 : World} {gb R K nb l j : Nat} {B : Nat → Nat} {G : Nat → Nat → Int} {f g : Nat → Int} {v : Int} (hb6 : Below wr.drew.heap.size wr.drew w6)
    (hp : Part k e E wr w.heap.size gb R K B G (l + 1) l) (hblk : Blk wr nb K e) (hrow : RowAt k wr nb 0 K f) (hbel : Below w.heap.size w wr) (hlt : nb < wr.heap.size)
    (hgb : gb < nb) (hw : w.heap.size < nb) (hB : ∀ i, i < l → B i < nb) (hj : j < K) (hg : ∀ i, i < K → (if i = j then v else f i) = g i) :
    Part k e E (w6.setCell ⟨nb, j, none⟩ (.int k v)) w.heap.size gb R K B G (l + 1) l ∧ Blk (w6.setCell ⟨nb, j, none⟩ (.int k v)) nb K e ∧ RowAt k (w6.setCell ⟨nb, j, none⟩ (.int k v)) nb 0 K g ∧
      Below w.heap.size w (w6.setCell ⟨nb, j, none⟩ (.int k v)) ∧ nb < (w6.setCell ⟨nb, j, none⟩ (.int k v)).heap.size ∧
      (∀ o u, wr.cell? ⟨w.heap.size, o, none⟩ = some u → (w6.setCell ⟨nb, j, none⟩ (.int k v)).cell? ⟨w.heap.size, o, none⟩ = some u) := by
  have hb7 : Below wr.heap.size wr w6 := ((Below.refl _ _).drew).trans hb6
  have hg1 := gb_below hb7 (some nb)
  have hg2 : wr.grownBy (w6.setCell ⟨nb, j, none⟩ (.int k v)) (some nb) := gb_trans hg1 (gb_set _ _ _)
  have hr6 : RowAt k w6 nb 0 K f := hrow.below hb7
  have hk6 : Blk w6 nb K e := hblk.grown (gb_below hb7 none) (by simp)
  refine ⟨hp.grown hg2 (by simp; omega) (fun i hi => by have := hB i hi; simp; omega), hk6.set j _, (hr6.set0 hj v).congr hg, ?_, ?_, fun o u hu => ?_⟩
  · exact hbel.grown hg2 hbel.size (fun q hq => by injection hq with hq; omega)
  · exact Nat.lt_of_lt_of_le hlt hg2.size
  · exact hg2.cell hu (by simp; omega)

set_option maxHeartbeats 2000000 in
set_option maxRecDepth 100000 in
theorem residues_any (p : Int) (h1 : 1 ≤ p) (h2 : p < 2147483648) (R K N : Nat) (hR : R ≤ 64) (hK : K ≤ 64) (hN : N = R * K) (s : Value) (x : Nat → Raw) (w : World) (hr : RdL w s N x) :
    Calls Try.prog 45 #[.int .u64 p, .agg #[.int .i64 R, .int .i64 K, s]] w fun e w' =>
      ∃ gb B, e = .returned (.slice (some ⟨gb, 0, none⟩) R R) ∧ Part .u64 22 54 w' w.heap.size gb R K B (fun i j => resid (x (i * K + j)) p) R R ∧ Below w.heap.size w w' := by
  have m1 := mk_words K (by omega)
  have m2 := mk_grid R (by omega)
  obtain ⟨a, cap, rfl, g1, g2, g3⟩ := hr
  have G3 := Lib.hid g3
  have HN := Lib.hid hN
  clear g3 hN
  go_enter Try.func45, Try.ntmps45
  go_wp2_with fail
  go_loopw [13] (fun iv wr => ∃ (l : Nat) (B : Nat → Nat), l ≤ R ∧ iv = .int .i64 l ∧ Part .u64 22 54 wr w.heap.size (w.heap.size + 1) R K B (fun i j => resid (x (i * K + j)) p) l l ∧
      Below w.heap.size w wr ∧ w.heap.size < wr.heap.size ∧ wr.cell? ⟨w.heap.size, 0, none⟩ = some (.int .i64 R) ∧ wr.cell? ⟨w.heap.size, 1, none⟩ = some (.int .i64 K) ∧ wr.cell? ⟨w.heap.size, 2, none⟩ = some (.slice a N cap))
    (fun iv _ => R - (intOf iv).toNat)
  case atStart =>
    refine ⟨0, fun _ => 0, by omega, rfl, ?_, ((Below.refl _ _).alloc (Nat.le_refl _) _).alloc (by simp) _, by simp; omega, by go_simp, by go_simp, by go_simp⟩
    have := Part.start (k := .u64) (e := 22) (E := 54) (B := fun _ => 0) (G := fun i j => resid (x (i * K + j)) p) (w.alloc (.cells #[.int .i64 R, .int .i64 K, .slice a N cap] 34)) w.heap.size R K (by simp)
    simpa using this
  case round =>
    obtain ⟨l, B, l1, rfl, hp, hbel, hsz, x0, x1, x2⟩ := hrel
    by_cases hl : l < R
    · obtain ⟨c1, c2⟩ := hp.cells.get0 hl (x := .slice none 0 0) (if_neg (by omega))
      have hgb := hp.blk.lt
      obtain ⟨nb, hnb⟩ : ∃ nb, nb = wr.heap.size := ⟨_, rfl⟩
      obtain ⟨B', hB'⟩ : ∃ B' : Nat → Nat, B' = fun i => if i = l then wr.heap.size else B i := ⟨_, rfl⟩
      have hB'l : B' l = nb := by rw [hB', hnb]; exact if_pos rfl
      have hBl : ∀ i, i < l → B' i = B i := fun i hi => by rw [hB']; exact if_neg (by omega)
      have hBlt := hp.lt
      obtain ⟨n1, n2, n3⟩ := hp.next hl (.int .u64 0) (by omega)
      rw [← hB'] at n1
      have hg5 : wr.grownBy ((wr.alloc (.cells (madeCells #[.int .u64 0] K) 22)).setCell ⟨w.heap.size + 1, l, none⟩ (.slice (some ⟨wr.heap.size, 0, none⟩) K K)) (some (w.heap.size + 1)) :=
        gb_trans (World.grownBy_alloc _ _ _) (gb_set _ _ _)
      have hb5 := (hbel.alloc (by omega) (.cells (madeCells #[.int .u64 0] K) 22)).setCell (p := ⟨w.heap.size + 1, l, none⟩) (by simp) (.slice (some ⟨wr.heap.size, 0, none⟩) K K)
      have z0 := hg5.cell x0 (by simp)
      have z1 := hg5.cell x1 (by simp)
      have z2 := hg5.cell x2 (by simp)
      have hz5 : nb < ((wr.alloc (.cells (madeCells #[.int .u64 0] K) 22)).setCell ⟨w.heap.size + 1, l, none⟩ (.slice (some ⟨wr.heap.size, 0, none⟩) K K)).heap.size := by rw [hnb]; simp
      have he := World.setCell_alloc_past (w := wr) (.cells (madeCells #[.int .u64 0] K) 22) (w.heap.size + 1) l (.slice (some ⟨wr.heap.size, 0, none⟩) K K) hgb
      rw [he] at n1 n2 n3 hb5 z0 z1 z2 hz5
      have N1 := Lib.hid n1
      have N2 := Lib.hid n2
      have N3 := Lib.hid n3
      have HB5 := Lib.hid hb5
      have Z := Lib.hid (And.intro z0 (And.intro z1 (And.intro z2 hz5)))
      have HBL := Lib.hid (And.intro hB'l (And.intro hBl hBlt))
      have HNB := Lib.hid hnb
      clear n1 n2 n3 hb5 z0 z1 z2 hz5 hg5 he hnb hB' hB'l hBl hBlt
      go_wp2_with fail
      generalize (wr.setCell ⟨w.heap.size + 1, l, none⟩ (.slice (some ⟨wr.heap.size, 0, none⟩) K K)).alloc (.cells (madeCells #[.int .u64 0] K) 22) = W5 at N1 N2 N3 HB5 Z ⊢
      rw [← HNB.out]
      rw [← HNB.out] at N2 N3
      have hgnb : w.heap.size + 1 < nb := by rw [HNB.out]; exact hgb
      have HBL : Hid (B' l = nb ∧ (∀ i, i < l → B' i = B i) ∧ ∀ i, i < l → B i < nb) := by rw [HNB.out]; rw [HNB.out] at HBL; exact HBL
      go_loopw [27] (fun jv wr => ∃ j : Nat, j ≤ K ∧ jv = .int .i64 j ∧ Part .u64 22 54 wr w.heap.size (w.heap.size + 1) R K B' (fun i j => resid (x (i * K + j)) p) (l + 1) l ∧
          Blk wr nb K 22 ∧ RowAt .u64 wr nb 0 K (fun c => if c < j then resid (x (l * K + c)) p else 0) ∧ Below w.heap.size w wr ∧ nb < wr.heap.size ∧
          wr.cell? ⟨w.heap.size, 0, none⟩ = some (.int .i64 R) ∧ wr.cell? ⟨w.heap.size, 1, none⟩ = some (.int .i64 K) ∧ wr.cell? ⟨w.heap.size, 2, none⟩ = some (.slice a N cap))
        (fun jv _ => K - (intOf jv).toNat)
      case atStart =>
        obtain ⟨z0, z1, z2, z3⟩ := Z.out
        exact ⟨0, by omega, rfl, N1.out, N2.out, (CellsAt.row (f := fun _ => 0) N3.out).congr fun i _ => (if_neg (by omega)).symm, HB5.out, z3, z0, z1, z2⟩
      case round =>
        clear N1 N2 N3 HB5 Z x0 x1 x2 hp hbel c1 c2
        obtain ⟨j, j1, rfl, hp, hblk, hrow, hbel, hlt, x0, x1, x2⟩ := hrel
        by_cases hj : j < K
        · obtain ⟨c1, c2⟩ := hp.cells.get0 hl (x := .slice (some ⟨nb, 0, none⟩) K K) ((if_pos (by omega)).trans (by rw [HBL.out.1]))
          obtain ⟨c3, c4⟩ := hrow.get0 hj (x := 0) (if_neg (by omega))
          obtain ⟨q, hq⟩ : ∃ q, q = l * K + j := ⟨_, rfl⟩
          have hqN : q < N := by
            rw [hq, HN.out]
            have := Nat.mul_le_mul_right K (show l + 1 ≤ R by omega)
            rw [Nat.add_mul, Nat.one_mul] at this; omega
          have e1 : 0 ≤ (l : Int) * K ∧ (l : Int) * K ≤ 4096 := by
            refine ⟨Int.mul_nonneg (by omega) (by omega), ?_⟩
            have := Int.mul_le_mul (show (l : Int) ≤ 64 by omega) (show (K : Int) ≤ 64 by omega) (by omega) (by omega); omega
          have e2 : (l : Int) * K + j = q := by rw [hq]; simp
          obtain ⟨e3, e4⟩ := e1
          obtain ⟨b, o, ha, hc⟩ := G3.out (by omega)
          subst ha
          obtain ⟨mm, d1, d2, d3⟩ := hc q hqN
          have d1 := cell_stays hbel d1
          have d2 := cell_stays hbel d2
          have d3 := Lib.hid (d3.below hbel)
          have HQ := Lib.hid hq
          clear hc hq
          have HP := Lib.hid hp
          have HRW := Lib.hid hrow
          clear hp hrow
          go_wp2_with fail
          have hrd : RdI wr (.agg #[.bool (x q).neg, mm]) (x q) := ⟨mm, rfl, d3.out⟩
          have HRD := Lib.hid hrd
          have f1 := World.block_lt_of_cell? wr _ d1
          have f2 := World.block_lt_of_cell? wr _ d2
          have f3 : w.heap.size < wr.heap.size := by omega
          have f4 : w.heap.size + 1 < wr.heap.size := by omega
          have g0 : (0 : Int) ≤ (q : Int) := by omega
          have g1 : (q : Int) < (N : Int) := by omega
          have g2 : IntKind.i64.wrap ((l : Int) * K) = (l : Int) * K := IntWalk.i64_in _ (by omega)
          have g3 : IntKind.i64.wrap ((q : Nat) : Int) = q := IntWalk.i64_in _ (by omega)
          have g4 : IntKind.i64.wrap ((l : Int) * K + j) = q := by rw [e2]; exact g3
          have g5 : (0 : Int) ≤ (l : Int) := by omega
          have g6 : (l : Int) < (R : Int) := by omega
          have g7 : (0 : Int) ≤ (j : Int) := by omega
          have g8 : (j : Int) < (K : Int) := by omega
          clear hrd
          go_region_with ((go_at_call 55; refine (residue_any p h1 h2 _ (x q) _ (HRD.out.below (Below.refl _ _).drew)).mono ?_; rintro e w6 ⟨rfl, hb6⟩; have k0 := cell_stays (w := wr.drew) hb6 c1; have k1 := cell_stays (w := wr.drew) hb6 c3; have k2 := froz_stays (w := wr.drew) hb6 c3 c4))
          all_goals
            obtain ⟨b1, b2, b3⟩ := HBL.out
            obtain ⟨r1, r2, r3, r4, r5, r6⟩ := fill_rel hb6 HP.out hblk HRW.out hbel hlt hgnb (by omega) (fun i hi => by rw [b2 i hi]; exact b3 i hi) hj
              (g := fun c => if c < j + 1 then resid (x (l * K + c)) p else 0) (v := resid (x q) p) (fun i hi => by
                by_cases ei : i = j
                · rw [if_pos ei, if_pos (by omega), HQ.out, ei]
                · rw [if_neg ei]
                  by_cases e5 : i < j
                  · rw [if_pos e5, if_pos (by omega)]
                  · rw [if_neg e5, if_neg (by omega)])
            have R1 := Lib.hid r1
            have R6 := Lib.hid r6
            clear r1 r6 b1 b2 b3
            go_wp2_with fail
            go_roundw
            case rel => exact ⟨j + 1, by omega, by go_num, R1.out, r2, r3, r4, r5, R6.out _ _ x0, R6.out _ _ x1, R6.out _ _ x2⟩
            case measure => simp [intOf]; omega
        · obtain rfl : j = K := by omega
          go_wp2_with fail
          go_roundw
          case rel =>
            obtain ⟨b1, b2, b3⟩ := HBL.out
            refine ⟨l + 1, B', by omega, by go_num, hp.full ?_ ?_ ?_ ?_ ?_, hbel, by omega, x0, x1, x2⟩
            · rw [b1]; exact hblk
            · rw [b1]; exact hrow.congr fun c hc => if_pos hc
            · intro i hi; rw [b1, b2 i hi]; have := b3 i hi; omega
            · rw [b1]; omega
            · rw [b1]; omega
          case measure => simp [intOf]; omega
    · obtain rfl : l = R := by omega
      go_wp2_with fail
      go_ret
      exact ⟨_, B, rfl, hp, hbel⟩
end Go.Proofs.Ytdlpemmoobbgnaa
