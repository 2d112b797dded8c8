/- The walk of trellisref12's table: the residues, row by row. The walk of trellisref12's Rank: the rank of modp's elimination. A list of integers of the call's own, filled by append with integers made on the way; what trellisref12's matrix keeps while it fills one. The walk of trellisref12's matrix: rows of residues as a matrix. The walk of trellisref12's matrix. The walk of trellisref12's Reduce: the residues. The walk of trellisref12's Echelon: modp's reduced echelon form. trellisref12's Rank, Reduce, Echelon, Kernel, Inverse where checks refuses. Plain: the determinant of rows in steps is the product of the diagonal; with the sign of the exchanges it is what modp's Det answers. The walk of trellisref12's Det: modp's determinant. -/
import Derived.Test.YtdlpemmoobbgnaaGO
import Derived.Test.YtdlpemmoobbgnaaGI
import Derived.Test.YtdlpemmoobbgnaaGK
import Derived.Test.YtdlpemmoobbgnaaGC
import Derived.Deep.AppendLies
import Derived.Deep.RegionLaw
import Derived.Lib.Builder
import Derived.Test.YtdlpemmoobbgnaaGG
import Derived.Test.YtdlpemmoobbgnaaGB
import Derived.Test.YtdlpemmoobbgnaaGN
set_option linter.unusedVariables false
set_option linter.unusedSimpArgs false
namespace Go.Proofs.Ytdlpemmoobbgnaa
open Go.RowKit

theorem info12i : (Try.prog.info? 3).map (fun i => (i.zero, i.size, i.bytes)) = some (some (.int .i64 0), 1, 8) := by kernel_rfl
theorem info12s : (Try.prog.info? 45).map (fun i => (i.zero, i.size, i.bytes)) = some (some (.slice none 0 0), 1, 24) := by kernel_rfl

theorem mk_12i (n : Nat) (hn : n ≤ 1048576) (u : World) : (Instr.makeSlice 45 (.int .i64 n) (.int .i64 n)).run Try.prog u =
    .ok (.slice (some ⟨u.heap.size, 0, none⟩) n n) (u.alloc (.cells (madeCells #[.int .i64 0] n) 3)) := by
  obtain ⟨i0, hi, hz0, hz1, hz2⟩ := info_parts info12i
  have h := run_make (P := Try.prog) u 45 3 i0 (.int .i64 0) Try.underlying45 hi hz0 .i64 .i64 (n : Int) (n : Int) (by omega) (Int.le_refl _) (by rw [hz2]; omega) (by omega)
  simpa [hz1, Value.cells] using h

theorem mk_12s (n : Nat) (hn : n ≤ 1048576) (u : World) : (Instr.makeSlice 100 (.int .i64 n) (.int .i64 n)).run Try.prog u =
    .ok (.slice (some ⟨u.heap.size, 0, none⟩) n n) (u.alloc (.cells (madeCells #[.slice none 0 0] n) 45)) := by
  obtain ⟨i0, hi, hz0, hz1, hz2⟩ := info_parts info12s
  have h := run_make (P := Try.prog) u 100 45 i0 (.slice none 0 0) Try.underlying100 hi hz0 .i64 .i64 (n : Int) (n : Int) (by omega) (Int.le_refl _) (by rw [hz2]; omega) (by omega)
  simpa [hz1, Value.cells] using h

set_option maxHeartbeats 2000000 in
set_option maxRecDepth 100000 in
theorem table12_any (p : Int) (h1 : 1 ≤ p) (h2 : p < 2147483648) (R K N : Nat) (hR : R ≤ 64) (hK : K ≤ 64) (hN : N = R * K) (s : Value) (x : Nat → Raw) (w : World) (hr : RdL w s N x) :
    Calls Try.prog 113 #[.agg #[.int .i64 R, .int .i64 K, s], .int .i64 p] w fun e w' =>
      ∃ gb B, e = .returned (.slice (some ⟨gb, 0, none⟩) R R) ∧ Part .i64 3 45 w' w.heap.size gb R K B (fun i j => resid (x (i * K + j)) p) R R ∧ Below w.heap.size w w' := by
  have m1 := mk_12i K (by omega)
  have m2 := mk_12s R (by omega)
  obtain ⟨a, cap, rfl, g1, g2, g3⟩ := hr
  have G3 := Lib.hid g3
  have HN := Lib.hid hN
  clear g3 hN
  go_enter Try.func113, Try.ntmps113
  go_wp2_with fail
  go_loopw [6] (fun iv wr => ∃ (l : Nat) (B : Nat → Nat), l ≤ R ∧ iv = .int .i64 l ∧ Part .i64 3 45 wr w.heap.size (w.heap.size + 1) R K B (fun i j => resid (x (i * K + j)) p) l l ∧
      Below w.heap.size w wr ∧ w.heap.size < wr.heap.size ∧ wr.cell? ⟨w.heap.size, 0, none⟩ = some (.int .i64 R) ∧ wr.cell? ⟨w.heap.size, 1, none⟩ = some (.int .i64 K) ∧ wr.cell? ⟨w.heap.size, 2, none⟩ = some (.slice a N cap))
    (fun iv _ => R - (intOf iv).toNat)
  case atStart =>
    refine ⟨0, fun _ => 0, by omega, rfl, ?_, ((Below.refl _ _).alloc (Nat.le_refl _) _).alloc (by simp) _, by simp; omega, by go_simp, by go_simp, by go_simp⟩
    have := Part.start (k := .i64) (e := 3) (E := 45) (B := fun _ => 0) (G := fun i j => resid (x (i * K + j)) p) (w.alloc (.cells #[.int .i64 R, .int .i64 K, .slice a N cap] 34)) w.heap.size R K (by simp)
    simpa using this
  case round =>
    obtain ⟨l, B, l1, rfl, hp, hbel, hsz, x0, x1, x2⟩ := hrel
    by_cases hl : l < R
    · obtain ⟨c1, c2⟩ := hp.cells.get0 hl (x := .slice none 0 0) (if_neg (by omega))
      have hgb := hp.blk.lt
      obtain ⟨nb, hnb⟩ : ∃ nb, nb = wr.heap.size := ⟨_, rfl⟩
      obtain ⟨B', hB'⟩ : ∃ B' : Nat → Nat, B' = fun i => if i = l then wr.heap.size else B i := ⟨_, rfl⟩
      have hB'l : B' l = nb := by rw [hB', hnb]; exact if_pos rfl
      have hBl : ∀ i, i < l → B' i = B i := fun i hi => by rw [hB']; exact if_neg (by omega)
      have hBlt := hp.lt
      obtain ⟨n1, n2, n3⟩ := hp.next hl (.int .i64 0) (by omega)
      rw [← hB'] at n1
      have hg5 : wr.grownBy ((wr.alloc (.cells (madeCells #[.int .i64 0] K) 3)).setCell ⟨w.heap.size + 1, l, none⟩ (.slice (some ⟨wr.heap.size, 0, none⟩) K K)) (some (w.heap.size + 1)) :=
        gb_trans (World.grownBy_alloc _ _ _) (gb_set _ _ _)
      have hb5 := (hbel.alloc (by omega) (.cells (madeCells #[.int .i64 0] K) 3)).setCell (p := ⟨w.heap.size + 1, l, none⟩) (by simp) (.slice (some ⟨wr.heap.size, 0, none⟩) K K)
      have z0 := hg5.cell x0 (by simp)
      have z1 := hg5.cell x1 (by simp)
      have z2 := hg5.cell x2 (by simp)
      have hz5 : nb < ((wr.alloc (.cells (madeCells #[.int .i64 0] K) 3)).setCell ⟨w.heap.size + 1, l, none⟩ (.slice (some ⟨wr.heap.size, 0, none⟩) K K)).heap.size := by rw [hnb]; simp
      have he := World.setCell_alloc_past (w := wr) (.cells (madeCells #[.int .i64 0] K) 3) (w.heap.size + 1) l (.slice (some ⟨wr.heap.size, 0, none⟩) K K) hgb
      rw [he] at n1 n2 n3 hb5 z0 z1 z2 hz5
      have N1 := Lib.hid n1
      have N2 := Lib.hid n2
      have N3 := Lib.hid n3
      have HB5 := Lib.hid hb5
      have Z := Lib.hid (And.intro z0 (And.intro z1 (And.intro z2 hz5)))
      have HBL := Lib.hid (And.intro hB'l (And.intro hBl hBlt))
      have HNB := Lib.hid hnb
      clear n1 n2 n3 hb5 z0 z1 z2 hz5 hg5 he hnb hB' hB'l hBl hBlt
      go_wp2_with fail
      generalize (wr.setCell ⟨w.heap.size + 1, l, none⟩ (.slice (some ⟨wr.heap.size, 0, none⟩) K K)).alloc (.cells (madeCells #[.int .i64 0] K) 3) = W5 at N1 N2 N3 HB5 Z ⊢
      rw [← HNB.out]
      rw [← HNB.out] at N2 N3
      have hgnb : w.heap.size + 1 < nb := by rw [HNB.out]; exact hgb
      have HBL : Hid (B' l = nb ∧ (∀ i, i < l → B' i = B i) ∧ ∀ i, i < l → B i < nb) := by rw [HNB.out]; rw [HNB.out] at HBL; exact HBL
      go_loopw [7] (fun jv wr => ∃ j : Nat, j ≤ K ∧ jv = .int .i64 j ∧ Part .i64 3 45 wr w.heap.size (w.heap.size + 1) R K B' (fun i j => resid (x (i * K + j)) p) (l + 1) l ∧
          Blk wr nb K 3 ∧ RowAt .i64 wr nb 0 K (fun c => if c < j then resid (x (l * K + c)) p else 0) ∧ Below w.heap.size w wr ∧ nb < wr.heap.size ∧
          wr.cell? ⟨w.heap.size, 0, none⟩ = some (.int .i64 R) ∧ wr.cell? ⟨w.heap.size, 1, none⟩ = some (.int .i64 K) ∧ wr.cell? ⟨w.heap.size, 2, none⟩ = some (.slice a N cap))
        (fun jv _ => K - (intOf jv).toNat)
      case atStart =>
        obtain ⟨z0, z1, z2, z3⟩ := Z.out
        exact ⟨0, by omega, rfl, N1.out, N2.out, (CellsAt.row (f := fun _ => 0) N3.out).congr fun i _ => (if_neg (by omega)).symm, HB5.out, z3, z0, z1, z2⟩
      case round =>
        clear N1 N2 N3 HB5 Z x0 x1 x2 hp hbel c1 c2
        obtain ⟨j, j1, rfl, hp, hblk, hrow, hbel, hlt, x0, x1, x2⟩ := hrel
        by_cases hj : j < K
        · obtain ⟨c1, c2⟩ := hp.cells.get0 hl (x := .slice (some ⟨nb, 0, none⟩) K K) ((if_pos (by omega)).trans (by rw [HBL.out.1]))
          obtain ⟨c3, c4⟩ := hrow.get0 hj (x := 0) (if_neg (by omega))
          obtain ⟨q, hq⟩ : ∃ q, q = l * K + j := ⟨_, rfl⟩
          have hqN : q < N := by
            rw [hq, HN.out]
            have := Nat.mul_le_mul_right K (show l + 1 ≤ R by omega)
            rw [Nat.add_mul, Nat.one_mul] at this; omega
          have e1 : 0 ≤ (l : Int) * K ∧ (l : Int) * K ≤ 4096 := by
            refine ⟨Int.mul_nonneg (by omega) (by omega), ?_⟩
            have := Int.mul_le_mul (show (l : Int) ≤ 64 by omega) (show (K : Int) ≤ 64 by omega) (by omega) (by omega); omega
          have e2 : (l : Int) * K + j = q := by rw [hq]; simp
          obtain ⟨e3, e4⟩ := e1
          obtain ⟨b, o, ha, hc⟩ := G3.out (by omega)
          subst ha
          obtain ⟨mm, d1, d2, d3⟩ := hc q hqN
          have d1 := cell_stays hbel d1
          have d2 := cell_stays hbel d2
          have d3 := Lib.hid (d3.below hbel)
          have HQ := Lib.hid hq
          clear hc hq
          have HP := Lib.hid hp
          have HRW := Lib.hid hrow
          clear hp hrow
          go_wp2_with fail
          have hrd : RdI wr (.agg #[.bool (x q).neg, mm]) (x q) := ⟨mm, rfl, d3.out⟩
          have HRD := Lib.hid hrd
          have f1 := World.block_lt_of_cell? wr _ d1
          have f2 := World.block_lt_of_cell? wr _ d2
          have f3 : w.heap.size < wr.heap.size := by omega
          have f4 : w.heap.size + 1 < wr.heap.size := by omega
          have g0 : (0 : Int) ≤ (q : Int) := by omega
          have g1 : (q : Int) < (N : Int) := by omega
          have g2 : IntKind.i64.wrap ((l : Int) * K) = (l : Int) * K := IntWalk.i64_in _ (by omega)
          have g3 : IntKind.i64.wrap ((q : Nat) : Int) = q := IntWalk.i64_in _ (by omega)
          have g4 : IntKind.i64.wrap ((l : Int) * K + j) = q := by rw [e2]; exact g3
          have g5 : (0 : Int) ≤ (l : Int) := by omega
          have g6 : (l : Int) < (R : Int) := by omega
          have g7 : (0 : Int) ≤ (j : Int) := by omega
          have g8 : (j : Int) < (K : Int) := by omega
          clear hrd
          go_region_with ((go_at_call 119; refine (Residue12_any p h1 h2 _ (x q) _ (HRD.out.below (Below.refl _ _).drew)).mono ?_; rintro e w6 ⟨rfl, hb6⟩; have k0 := cell_stays (w := wr.drew) hb6 c1; have k1 := cell_stays (w := wr.drew) hb6 c3; have k2 := froz_stays (w := wr.drew) hb6 c3 c4))
          all_goals
            obtain ⟨b1, b2, b3⟩ := HBL.out
            obtain ⟨r1, r2, r3, r4, r5, r6⟩ := fill_rel hb6 HP.out hblk HRW.out hbel hlt hgnb (by omega) (fun i hi => by rw [b2 i hi]; exact b3 i hi) hj
              (g := fun c => if c < j + 1 then resid (x (l * K + c)) p else 0) (v := resid (x q) p) (fun i hi => by
                by_cases ei : i = j
                · rw [if_pos ei, if_pos (by omega), HQ.out, ei]
                · rw [if_neg ei]
                  by_cases e5 : i < j
                  · rw [if_pos e5, if_pos (by omega)]
                  · rw [if_neg e5, if_neg (by omega)])
            have R1 := Lib.hid r1
            have R6 := Lib.hid r6
            clear r1 r6 b1 b2 b3
            go_wp2_with fail
            go_roundw
            case rel => exact ⟨j + 1, by omega, by go_num, R1.out, r2, r3, r4, r5, R6.out _ _ x0, R6.out _ _ x1, R6.out _ _ x2⟩
            case measure => simp [intOf]; omega
        · obtain rfl : j = K := by omega
          go_wp2_with fail
          go_roundw
          case rel =>
            obtain ⟨b1, b2, b3⟩ := HBL.out
            refine ⟨l + 1, B', by omega, by go_num, hp.full ?_ ?_ ?_ ?_ ?_, hbel, by omega, x0, x1, x2⟩
            · rw [b1]; exact hblk
            · rw [b1]; exact hrow.congr fun c hc => if_pos hc
            · intro i hi; rw [b1, b2 i hi]; have := b3 i hi; omega
            · rw [b1]; omega
            · rw [b1]; omega
          case measure => simp [intOf]; omega
    · obtain rfl : l = R := by omega
      go_wp2_with fail
      go_ret
      exact ⟨_, B, rfl, hp, hbel⟩
end Go.Proofs.Ytdlpemmoobbgnaa

namespace Go.Proofs.Ytdlpemmoobbgnaa
open Go.RowKit

set_option maxHeartbeats 4000000 in
set_option maxRecDepth 100000 in
theorem Rank12_good (R C : Nat) (p : Int) (hR : R ≤ 64) (hC : C ≤ 64) (hp : primeB p = true) (s : Value) (x : Nat → Raw) (w : World) (hr : RdL w s (R * C) x) :
    Calls Try.prog 86 #[.agg #[.int .i64 R, .int .i64 C, s], .int .u64 p] w fun e w' => e = .returned (.tuple #[.int .i64 ((redS p R C (resG p C x) C).P.length : Nat), .int .i64 0]) ∧ Below w.heap.size w w' := by
  obtain ⟨q, hqp, hq, hz⟩ := prime_nat hp
  obtain ⟨p0, p1⟩ := primeB_bd hp
  obtain ⟨a, cap, rfl, hl⟩ := hr.slice
  have hc := fun W => checks_any R C a (R * C) cap hl p (by omega) false W
  rw [show openE R C (R * C) p (!(false && ((R : Int) != C))) = 0 from openE_good hR hC rfl hp] at hc
  have ht := fun W h => table12_any p (by omega) p1 R C (R * C) hR hC rfl (.slice a (R * C) cap) x W h
  have hs := fun W (base gb : Nat) (B : Nat → Nat) h1 h2 => stairs12_any q p hqp.symm (by omega) p1 R C C R base gb 0 B (fun _ => 0) (fun _ => C) (fun i j => resid (x (i * C + j)) p) (by omega) (by omega) (Nat.le_refl C) (by rw [hqp]; exact resG_res (q : Int) (by omega) R C C x) W h1 h2
  have hrk := fun (r : Nat) P G s' (h : StI q R C C r (r + 1) P (fun i j => resid (x (i * C + j)) p) G s') => (rank12 (d := 1 % p) hq h (by rw [hqp]; exact resG_res (q : Int) (by omega) R C C x)).1
  obtain ⟨L, hL⟩ : ∃ L : Nat, L = (redS p R C (resG p C x) C).P.length := ⟨_, rfl⟩
  have hrk : ∀ (r : Nat) P G s' (h : StI q R C C r (r + 1) P (fun i j => resid (x (i * C + j)) p) G s'), r = L := fun r P G s' h => by
    have := hrk r P G s' h
    rw [hL]; unfold redS; rw [hqp] at this ⊢; exact this
  rw [← hL]
  have hbx0 := box_mat w (.int .i64 R) (.int .i64 C) (.slice a (R * C) cap) 34
  have hH : Has (w.alloc (.cells #[.int .i64 R, .int .i64 C, .slice a (R * C) cap] 34)) [(_, _), (_, _), (_, _)] := ⟨hbx0.2.1, hbx0.2.2.1, hbx0.2.2.2, trivial⟩
  have H0 := Lib.hid hH
  have G0 := Lib.hid (And.intro hbx0.1 hbx0.1.size)
  have HC := Lib.hid hc
  have HT := Lib.hid ht
  have HS := Lib.hid hs
  have HRK := Lib.hid hrk
  have HRD := Lib.hid hr
  have HQ := Lib.hid hq
  clear hc ht hs hrk hr hH hbx0 hL hqp hp hq
  go_enter Try.func86, Try.ntmps86
  go_wp2_with fail
  refine (HC.out _).mono ?_
  rintro e w1 ⟨rfl, hb1⟩
  have G1 := Lib.hid (stage G0.out.1 G0.out.2 hb1)
  have H1 := Lib.hid (H0.out.below hb1)
  clear hb1
  obtain ⟨x0, x1, x2, -⟩ := H1.out
  dsimp only at x0 x1 x2
  have RD := Lib.hid ((HRD.out.below G1.out.1).below (Below.refl w1.heap.size w1).drew)
  go_wp2_with fail
  have hwp : IntKind.i64.wrap p = p := IntWalk.i64_in _ (by omega)
  go_region_held3 (fun w' => w'.cell? ⟨w.heap.size, 0, none⟩ = some (.int .i64 R) ∧ w'.cell? ⟨w.heap.size, 1, none⟩ = some (.int .i64 C) ∧ w'.cell? ⟨w.heap.size, 2, none⟩ = some (.slice a (R * C) cap))
    (first
      | go_keep
      | (exact HK7.out)
      | (exact ⟨cell_stays (w := w1.drew) HB6.out x0, cell_stays (w := w1.drew) HB6.out x1, cell_stays (w := w1.drew) HB6.out x2⟩))
    (first
      | (go_at_call 113; (with_reducible refine (HT.out w1.drew RD.out).mono ?_); rintro e w6 ⟨gb, B, rfl, hpt, hb6⟩; have HPT := Lib.hid hpt; have HB6 := Lib.hid hb6; clear hpt hb6)
      | (go_at_call 114; (with_reducible refine (HS.out w6 w1.drew.heap.size gb B (HPT.out.grid (by omega)) HB6.out.size).mono ?_); rintro e w7 ⟨r, P, G, s, pv, B', O', C', rfl, hsr⟩; obtain ⟨a7, c7, rfl⟩ := own_slice hsr.own; obtain rfl := HRK.out r P G s hsr.st; have HSR := Lib.hid hsr; clear hsr; have HB7 := Lib.hid (HB6.out.trans HSR.out.below); have HK7 := Lib.hid (And.intro (cell_stays (w := w1.drew) HB7.out x0) (And.intro (cell_stays (w := w1.drew) HB7.out x1) (cell_stays (w := w1.drew) HB7.out x2)))))
  all_goals
    have HB8 := Lib.hid (G1.out.1.trans (((Below.refl w1.heap.size w1).drew.trans (HB7.out.mono (Nat.le_refl _))).mono G1.out.2))
    go_wp2_with fail
    go_ret2
    exact ⟨rfl, HB8.out⟩
end Go.Proofs.Ytdlpemmoobbgnaa

namespace Go.Proofs.Ytdlpemmoobbgnaa
open Go.RowKit

theorem own_tag {w : World} {B : Nat} {e T : TypeId} {size : Nat} {v : Value} {n : Nat} {xs : List Value} {b : Nat} {cs : Array Value} {fr : Nat × Nat} (hown : w.ownsRow B e size v n xs) (hb : w.heap[b]? = some (.cells cs T fr)) (hTe : T ≠ e) : v.ownBlock ≠ some b := by
  rcases hown.2 with ⟨rfl, _⟩ | ⟨g, cap, cur, rfl, _, hg, _⟩
  · simp [Value.ownBlock]
  · intro h
    have : g = b := by simpa [Value.ownBlock] using h
    subst this
    rw [hg] at hb
    injection hb with hb
    injection hb with _ hb _
    exact hTe hb.symm
theorem FrA.tag {w : World} {B base : Nat} {k : IntKind} {E e : TypeId} {m : Value} {n : Nat} {f : Nat → Int} {size : Nat} {v : Value} {nn : Nat} {xs : List Value} (h : FrA k E w base m n f) (hown : w.ownsRow B e size v nn xs) (hE : E ≠ e) : m.ownBlock = none ∨ m.ownBlock ≠ v.ownBlock := by
  rcases h with ⟨rfl, _⟩ | ⟨b, cap, rfl, _, _, _, h4, _⟩
  · exact Or.inl rfl
  · right
    obtain ⟨cur, hc, -⟩ := h4
    have := own_tag hown hc hE
    intro e'
    exact this e'.symm

/-- the value v is a list of n integers X in cells of the call's own, their words in memory of its own -/
def OwnF (w : World) (base : Nat) (v : Value) (n : Nat) (X : Nat → Raw) : Prop :=
  ∃ M : Nat → Value, w.ownsRow base 56 2 v n (flatI (fun i => .bool (X i).neg) M n) ∧ ∀ i, i < n → FrA .u64 22 w base (M i) (X i).n (X i).f ∧ Words (X i).n (X i).f

theorem tagUI : 22 ≠ 56 := by decide
theorem OwnF.start (w : World) (base : Nat) (X : Nat → Raw) : OwnF w base (.slice none 0 0) 0 X := ⟨fun _ => .slice none 0 0, ⟨rfl, Or.inl ⟨rfl, rfl⟩⟩, fun i hi => absurd hi (by omega)⟩
theorem OwnF.slice {w : World} {base : Nat} {v : Value} {n : Nat} {X : Nat → Raw} (h : OwnF w base v n X) : ∃ a c, v = .slice a n c := by
  obtain ⟨M, h, -⟩ := h
  exact own_slice h
theorem OwnF.below {w w' : World} {base : Nat} {v : Value} {n : Nat} {X : Nat → Raw} (h : OwnF w base v n X) (hb : Below w.heap.size w w') : OwnF w' base v n X := by
  obtain ⟨M, h1, h2⟩ := h
  exact ⟨M, own_below h1 hb, fun i hi => ⟨(h2 i hi).1.below hb, (h2 i hi).2⟩⟩
/-- a store beside all of it -/
theorem OwnF.set {w : World} {base : Nat} {v : Value} {n : Nat} {X : Nat → Raw} (h : OwnF w base v n X) {a : Addr} (ha : a.block < base) (y : Value) : OwnF (w.setCell a y) base v n X := by
  obtain ⟨M, h1, h2⟩ := h
  refine ⟨M, h1.kept (gb_set w a y) (own_block h1 ha), fun i hi => ⟨(h2 i hi).1.grown (gb_set w a y) ?_, (h2 i hi).2⟩⟩
  cases hb : (M i).ownBlock with
  | none => exact Or.inl rfl
  | some b => right; have := ((h2 i hi).1.lt hb).1; intro e; injection e with e; omega
theorem OwnF.congr {w : World} {base : Nat} {v : Value} {n : Nat} {X Y : Nat → Raw} (h : OwnF w base v n X) (e : ∀ i, i < n → X i = Y i) : OwnF w base v n Y := by
  obtain ⟨M, h1, h2⟩ := h
  refine ⟨M, ?_, fun i hi => by rw [← e i hi]; exact h2 i hi⟩
  rw [flatI_congr (b' := fun i => .bool (Y i).neg) (m' := M) (fun i hi => ⟨by rw [e i hi], rfl⟩)] at h1
  exact h1
theorem OwnF.mono {w : World} {base base' : Nat} {v : Value} {n : Nat} {X : Nat → Raw} (h : OwnF w base v n X) (hb : base' ≤ base) : OwnF w base' v n X := by
  obtain ⟨M, ⟨h0, h1⟩, h2⟩ := h
  refine ⟨M, ⟨h0, ?_⟩, fun i hi => ⟨(h2 i hi).1.mono hb, (h2 i hi).2⟩⟩
  rcases h1 with h | ⟨g, cap, cur, a, b, c⟩
  · exact Or.inl h
  · exact Or.inr ⟨g, cap, cur, a, Nat.le_trans hb b, c⟩
theorem OwnF.read {w : World} {base : Nat} {v : Value} {n : Nat} {X : Nat → Raw} (h : OwnF w base v n X) (hn : n ≤ 4398046511104) : RdL w v n X := by
  obtain ⟨M, ⟨h0, h1⟩, h2⟩ := h
  rcases h1 with ⟨rfl, rfl⟩ | ⟨g, cap, cur, rfl, -, h3, h4, -, -, h5⟩
  · exact ⟨none, 0, rfl, Nat.le_refl _, hn, fun h => absurd h (by omega)⟩
  · refine ⟨some ⟨g, 0, none⟩, cap, rfl, h4, hn, fun _ => ⟨g, 0, rfl, fun i hi => ⟨M i, ?_, ?_, (h2 i hi).1.read, (h2 i hi).2⟩⟩⟩
    · have := (flatI_at (fun i => Value.bool (X i).neg) M n i hi).1
      rw [← h5, List.getElem?_take, if_pos (by omega)] at this
      rw [Nat.zero_add, cell_of_row _ _ _ _ _ _ h3]; simpa using this
    · have := (flatI_at (fun i => Value.bool (X i).neg) M n i hi).2
      rw [← h5, List.getElem?_take, if_pos (by omega)] at this
      rw [Nat.zero_add, cell_of_row _ _ _ _ _ _ h3]; simpa using this

/-- one integer more: what the append leaves -/
theorem OwnF.push {w w' : World} {base : Nat} {v v' : Value} {n : Nat} {X : Nat → Raw} {M : Nat → Value} {g : Bool} {mv : Value} {r : Raw}
    (h1 : w.ownsRow base 56 2 v n (flatI (fun i => .bool (X i).neg) M n)) (h2 : ∀ i, i < n → FrA .u64 22 w base (M i) (X i).n (X i).f ∧ Words (X i).n (X i).f)
    (hr : FrA .u64 22 w base mv r.n r.f) (hw : Words r.n r.f) (hg : g = r.neg)
    (g1 : w'.ownsRow base 56 2 v' (n + 1) (flatI (fun i => .bool (X i).neg) M n ++ [.bool g, mv])) (g2 : w.grownBy w' v.ownBlock) :
    OwnF w' base v' (n + 1) (fun i => if i = n then r else X i) := by
  refine ⟨fun i => if i = n then mv else M i, ?_, fun i hi => ?_⟩
  · show w'.ownsRow base _ 2 v' (n + 1) (flatI _ _ n ++ [_, _])
    rw [flatI_congr (b' := fun i => .bool (X i).neg) (m' := M) (fun i hi => ⟨by simp only [if_neg (Nat.ne_of_lt hi)], by simp only [if_neg (Nat.ne_of_lt hi)]⟩)]
    simp only [if_true, ← hg]
    exact g1
  · show FrA _ _ w' base (if i = n then _ else _) (if i = n then r else X i).n (if i = n then r else X i).f ∧ Words (if i = n then r else X i).n (if i = n then r else X i).f
    by_cases e : i = n
    · simp only [if_pos e]
      exact ⟨hr.grown g2 (hr.tag h1 tagUI), hw⟩
    · simp only [if_neg e]
      have := h2 i (by omega)
      exact ⟨this.1.grown g2 (this.1.tag h1 tagUI), this.2⟩
end Go.Proofs.Ytdlpemmoobbgnaa

namespace Go.Proofs.Ytdlpemmoobbgnaa
open Go.RowKit

theorem dig_small {x : Int} (x0 : 0 ≤ x) (x1 : x < 18446744073709551616) : Dig 18446744073709551616 (w1 x) (fun _ => x) x := by
  unfold w1
  by_cases h : x = 0
  · rw [if_pos h]
    exact ⟨fun i hi => absurd hi (by omega), fun h => absurd h (by omega), by rw [h]; rfl⟩
  · rw [if_neg h]
    exact ⟨fun i hi => ⟨x0, x1⟩, fun _ => h, by show 0 + x * 1 = x; omega⟩

theorem Of12_any (x : Int) (x0 : 0 ≤ x) (x1 : x < 2147483648) (w : World) :
    Calls Try.prog 103 #[.int .i64 x] w fun e w' => ∃ ad cd, e = .returned (.agg #[.bool false, .slice ad (w1 x) cd]) ∧ FrA .u64 22 w' w.heap.size (.slice ad (w1 x) cd) (w1 x) (fun _ => x) ∧ Below w.heap.size w w' := by
  refine (Of05_any x x0 (by omega) w).mono ?_
  rintro e w' ⟨v, rfl, ⟨m, n, f, rfl, h1, h2⟩, h3⟩
  rw [show ((x.natAbs : Nat) : Int) = x by omega] at h2
  obtain ⟨rfl, h5⟩ := Dig.unique (by omega) h2 (dig_small x0 (by omega))
  have h1 := h1.congr h5
  obtain ⟨a, c, rfl⟩ := h1.slice
  exact ⟨a, c, by rw [decide_eq_false (by omega)], h1, h3⟩

/-- the state of matrix: q entries stand in the list v; the matrix lies in a box, the result's box is still empty -/
structure MtRel (w wr : World) (m n q : Nat) (v : Value) (X : Nat → Raw) (M : Nat → Value) : Prop where
  own1 : wr.ownsRow (w.heap.size + 2) 56 2 v q (flatI (fun i => .bool (X i).neg) M q)
  own2 : ∀ i, i < q → FrA .u64 22 wr (w.heap.size + 2) (M i) (X i).n (X i).f ∧ Words (X i).n (X i).f
  below : Below w.heap.size w wr
  size : w.heap.size + 2 ≤ wr.heap.size
  m0 : wr.cell? ⟨w.heap.size + 1, 0, none⟩ = some (.int .i64 m)
  m1 : wr.cell? ⟨w.heap.size + 1, 1, none⟩ = some (.int .i64 n)
  m2 : wr.cell? ⟨w.heap.size + 1, 2, none⟩ = some v
  mf : wr.frozen? ⟨w.heap.size + 1, 2, none⟩ = false
  r0 : wr.cell? ⟨w.heap.size, 0, none⟩ = some (.int .i64 0) ∧ wr.frozen? ⟨w.heap.size, 0, none⟩ = false
  r1 : wr.cell? ⟨w.heap.size, 1, none⟩ = some (.int .i64 0) ∧ wr.frozen? ⟨w.heap.size, 1, none⟩ = false
  r2 : wr.cell? ⟨w.heap.size, 2, none⟩ = some (.slice none 0 0) ∧ wr.frozen? ⟨w.heap.size, 2, none⟩ = false

theorem MtRel.start (w : World) (m n : Nat) (X : Nat → Raw) :
    MtRel w ((w.alloc (.cells #[.int .i64 0, .int .i64 0, .slice none 0 0] 34)).alloc (.cells #[.int .i64 m, .int .i64 n, .slice none 0 0] 34)) m n 0 (.slice none 0 0) X (fun _ => .slice none 0 0) := by
  obtain ⟨w1, h1⟩ : ∃ w1, w1 = w.alloc (.cells #[.int .i64 0, .int .i64 0, .slice none 0 0] 34) := ⟨_, rfl⟩
  have s1 : w1.heap.size = w.heap.size + 1 := by rw [h1]; simp
  have b1 : Below w.heap.size w w1 := by rw [h1]; exact (Below.refl _ _).alloc (Nat.le_refl _) _
  have c1 := three_cells w (.int .i64 0) (.int .i64 0) (.slice none 0 0) 34
  rw [← h1] at c1
  have c3 := three_cells w1 (.int .i64 m) (.int .i64 n) (.slice none 0 0) 34
  rw [← h1]
  have b3 : Below w1.heap.size w1 (w1.alloc (.cells #[.int .i64 m, .int .i64 n, .slice none 0 0] 34)) := (Below.refl _ _).alloc (Nat.le_refl _) _
  have s3 : (w1.alloc (.cells #[.int .i64 m, .int .i64 n, .slice none 0 0] 34)).heap.size = w.heap.size + 2 := by simp [s1]
  rw [s1] at c3
  generalize w1.alloc (.cells #[.int .i64 m, .int .i64 n, .slice none 0 0] 34) = w3 at *
  have r (i : Nat) (y : Value) (hy : [Value.int .i64 0, .int .i64 0, .slice none 0 0][i]? = some y) : w3.cell? ⟨w.heap.size, i, none⟩ = some y ∧ w3.frozen? ⟨w.heap.size, i, none⟩ = false :=
    ⟨cell_stays b3 (c1 i y hy).1, froz_stays b3 (c1 i y hy).1 (c1 i y hy).2⟩
  exact ⟨⟨rfl, Or.inl ⟨rfl, rfl⟩⟩, fun i hi => absurd hi (by omega), b1.trans (b3.mono (by omega)), by omega, (c3 0 _ rfl).1, (c3 1 _ rfl).1, (c3 2 _ rfl).1, (c3 2 (.slice none 0 0) rfl).2, r 0 _ rfl, r 1 _ rfl, r 2 _ rfl⟩

/-- the integer made and laid by: what the append asks -/
theorem MtRel.app {w wr w6 : World} {m n q : Nat} {v : Value} {X : Nat → Raw} {M : Nat → Value} (h : MtRel w wr m n q v X M) (hb : Below wr.heap.size wr w6) (u0 u1 : Value) :
    (w6.alloc (.cells #[u0, u1] 56)).ownsRow (w.heap.size + 2) 56 2 v q (flatI (fun i => .bool (X i).neg) M q) ∧
    (∀ j u, [u0, u1][j]? = some u → (w6.alloc (.cells #[u0, u1] 56)).cell? (Addr.add ⟨w6.heap.size, 0, none⟩ j) = some u) ∧
    (w6.alloc (.cells #[u0, u1] 56)).cell? ⟨w.heap.size + 1, 2, none⟩ = some v ∧ (w6.alloc (.cells #[u0, u1] 56)).frozen? ⟨w.heap.size + 1, 2, none⟩ = false ∧ w.heap.size + 2 ≤ (w6.alloc (.cells #[u0, u1] 56)).heap.size := by
  have b2 : Below w6.heap.size w6 (w6.alloc (.cells #[u0, u1] 56)) := (Below.refl _ _).alloc (Nat.le_refl _) _
  have b3 := hb.trans (b2.mono hb.size)
  refine ⟨own_below h.own1 b3, fun j u hj => ?_, cell_stays b3 h.m2, froz_stays b3 h.m2 h.mf, Nat.le_trans h.size b3.size⟩
  rw [Addr.add_lit, cell_of_row _ _ _ _ _ _ (heap_alloc_new w6 _)]
  simpa using hj

/-- behind the append -/
theorem MtRel.far {w w7 w8 : World} {q : Nat} {v : Value} {xs : List Value} {u : Value} (h : w7.ownsRow (w.heap.size + 2) 56 2 v q xs) (hc : w7.cell? ⟨w.heap.size + 1, 2, none⟩ = some u) (hf : w7.frozen? ⟨w.heap.size + 1, 2, none⟩ = false) (hg : w7.grownBy w8 v.ownBlock) :
    w8.cell? ⟨w.heap.size + 1, 2, none⟩ = some u ∧ w8.frozen? ⟨w.heap.size + 1, 2, none⟩ = false := by
  have hl := World.block_lt_of_cell? w7 _ hc
  have hne : some (w.heap.size + 1) ≠ v.ownBlock := by
    rcases own_block h (b := w.heap.size + 1) (by omega) with e | e
    · rw [e]; simp
    · exact fun e' => e e'.symm
  exact ⟨hg.cell hc hne, (hg.frozen_far _ hl hne).trans hf⟩

/-- one entry more -/
theorem MtRel.push {w wr w6 w8 : World} {m n q : Nat} {v v' : Value} {X : Nat → Raw} {M : Nat → Value} (h : MtRel w wr m n q v X M) (hb : Below wr.heap.size wr w6) {ad : Option Addr} {cd : Nat} {y : Int} (y0 : 0 ≤ y) (y1 : y < 2147483648)
    (hr : FrA .u64 22 w6 wr.heap.size (.slice ad (w1 y) cd) (w1 y) (fun _ => y)) (hx : X q = small y)
    (g1 : w8.ownsRow (w.heap.size + 2) 56 2 v' (q + 1) (flatI (fun i => .bool (X i).neg) M q ++ [.bool false, .slice ad (w1 y) cd])) (g2 : (w6.alloc (.cells #[.bool false, .slice ad (w1 y) cd] 56)).grownBy w8 v.ownBlock) :
    ∃ M', MtRel w (w8.setCell ⟨w.heap.size + 1, 2, none⟩ v') m n (q + 1) v' X M' := by
  obtain ⟨w7, h7⟩ : ∃ w7, w7 = w6.alloc (.cells #[.bool false, .slice ad (w1 y) cd] 56) := ⟨_, rfl⟩
  have b67 : Below w6.heap.size w6 w7 := by rw [h7]; exact (Below.refl _ _).alloc (Nat.le_refl _) _
  have b7 := hb.trans (b67.mono hb.size)
  rw [← h7] at g2
  have o7 := own_below h.own1 b7
  have m7 := fun i hi => And.intro ((h.own2 i hi).1.below b7) (h.own2 i hi).2
  have hp := OwnF.push (X := X) (r := small y) o7 m7 ((hr.below b67).mono h.size) (fun i hi => ⟨y0, by show y ≤ _; omega⟩) (show false = (small y).neg from rfl) g1 g2
  have hp := (hp.congr (Y := X) fun i hi => by
    by_cases e : i = q
    · rw [if_pos e, e, hx]
    · rw [if_neg e]).set (a := ⟨w.heap.size + 1, 2, none⟩) (by show w.heap.size + 1 < _; omega) v'
  obtain ⟨M', p1, p2⟩ := hp
  have hne : ∀ b, b < w.heap.size + 2 → some b ≠ v.ownBlock := fun b hb e => by
    rcases own_block o7 hb with e' | e'
    · rw [e'] at e; simp at e
    · exact e' e.symm
  have hn0 : some w.heap.size ≠ v.ownBlock := hne _ (by omega)
  have hn1 : some (w.heap.size + 1) ≠ v.ownBlock := hne _ (by omega)
  have g17 : wr.grownBy w8 v.ownBlock := gb_trans (gb_below b7 _) g2
  have g89 := gb_set w8 ⟨w.heap.size + 1, 2, none⟩ v'
  have fz (a : Addr) (u : Value) (hu : wr.cell? a = some u) (hf : wr.frozen? a = false) (ha : a.block < w.heap.size + 2) : w8.frozen? a = false := by
    have hl := World.block_lt_of_cell? wr a hu
    exact (World.frozen?_of_block (g17.block a.block hl (hne _ ha))).trans hf
  have c (i : Nat) (u : Value) (hu : wr.cell? ⟨w.heap.size, i, none⟩ = some u ∧ wr.frozen? ⟨w.heap.size, i, none⟩ = false) :
      (w8.setCell ⟨w.heap.size + 1, 2, none⟩ v').cell? ⟨w.heap.size, i, none⟩ = some u ∧ (w8.setCell ⟨w.heap.size + 1, 2, none⟩ v').frozen? ⟨w.heap.size, i, none⟩ = false :=
    ⟨g89.cell (g17.cell hu.1 hn0) (by simp), by rw [World.frozen?_setCell]; exact fz _ u hu.1 hu.2 (by simp)⟩
  have hm (i : Nat) (u : Value) (hi : i ≠ 2) (hu : wr.cell? ⟨w.heap.size + 1, i, none⟩ = some u) : (w8.setCell ⟨w.heap.size + 1, 2, none⟩ v').cell? ⟨w.heap.size + 1, i, none⟩ = some u := by
    rw [World.cell?_setCell_other _ _ _ _ (by intro e'; injection e' with _ e3 _; omega)]
    exact g17.cell hu hn1
  refine ⟨M', p1, p2, ?_, Nat.le_trans h.size (Nat.le_trans g17.size g89.size), hm 0 _ (by omega) h.m0, hm 1 _ (by omega) h.m1,
    World.cell?_setCell_same _ _ _ (g17.cell h.m2 hn1), by rw [World.frozen?_setCell]; exact fz _ _ h.m2 h.mf (by simp), c 0 _ h.r0, c 1 _ h.r1, c 2 _ h.r2⟩
  exact (h.below.grown g17 h.below.size (fun k hk => by have := (o7.lt k hk).1; omega)).grown g89 (Nat.le_trans h.below.size g17.size) (fun k hk => by injection hk with hk; simp at hk; omega)
end Go.Proofs.Ytdlpemmoobbgnaa

namespace Go.Proofs.Ytdlpemmoobbgnaa
open Go.RowKit

set_option maxHeartbeats 2000000 in
set_option maxRecDepth 100000 in
theorem matrix12_any (m n gcap base gb go : Nat) (B O C : Nat → Nat) (G : Nat → Nat → Int) (hm : m ≤ 128) (hn : n ≤ 128) (hG : ∀ i j, i < m → j < n → 0 ≤ G i j ∧ G i j < 2147483648)
    (w : World) (hg : GridAt .i64 w base gb go m n B O C G) :
    Calls Try.prog 112 #[.slice (some ⟨gb, go, none⟩) m gcap, .int .i64 n] w fun e w' => ∃ v, e = .returned (.agg #[.int .i64 m, .int .i64 n, v]) ∧
      OwnF w' w.heap.size v (m * n) (fun q => small (G (q / n) (q % n))) ∧ Below w.heap.size w w' := by
  have hK4 : m * n ≤ 16384 := Nat.mul_le_mul hm hn
  obtain ⟨i0, hi, hz0, hz1, hz2⟩ := info_parts infoI
  have HI := Lib.hid (And.intro hi (And.intro hz0 (And.intro hz1 hz2)))
  have HGB := Lib.hid hG
  have HG := Lib.hid hg
  have ws := MtRel.start w m n (fun q => small (G (q / n) (q % n)))
  have WS := Lib.hid ws
  clear hG hg hi hz0 hz1 hz2 ws
  go_enter Try.func112, Try.ntmps112
  go_wp2_with fail
  generalize (w.alloc (.cells #[.int .i64 0, .int .i64 0, .slice none 0 0] 34)).alloc (.cells #[.int .i64 m, .int .i64 n, .slice none 0 0] 34) = W0 at WS ⊢
  go_loopw [6] (fun iv wr => ∃ (i : Nat) (v : Value) (M : Nat → Value), i ≤ m ∧ iv = .int .i64 i ∧ MtRel w wr m n (i * n) v (fun q => small (G (q / n) (q % n))) M) (fun iv _ => m - (intOf iv).toNat)
  case atStart => exact ⟨0, _, _, by omega, rfl, by rw [Nat.zero_mul]; exact WS.out⟩
  case round =>
    obtain ⟨i, v, M, i1, rfl, hrel⟩ := hrel
    by_cases hi : i < m
    · have HR := Lib.hid hrel
      clear hrel
      go_wp2_with fail
      go_loopw [7] (fun jv wr => ∃ (j : Nat) (v : Value) (M : Nat → Value), j ≤ n ∧ jv = .int .i64 j ∧ MtRel w wr m n (i * n + j) v (fun q => small (G (q / n) (q % n))) M) (fun jv _ => n - (intOf jv).toNat)
      case atStart => exact ⟨0, v, M, by omega, rfl, HR.out⟩
      case round =>
        clear HR M v
        obtain ⟨j, v, M, j1, rfl, hrel⟩ := hrel
        by_cases hj : j < n
        · obtain ⟨c1, c2⟩ := (HG.out.cells i hi)
          have c1 := cell_stays hrel.below c1
          obtain ⟨d1, d2⟩ := (HG.out.rows i hi j hj)
          have d1 := cell_stays hrel.below d1
          obtain ⟨q, hq⟩ : ∃ q, q = i * n + j := ⟨_, rfl⟩
          have hqK : q ≤ 16384 := by
            have := Nat.mul_le_mul_right n (show i + 1 ≤ m by omega)
            rw [Nat.add_mul, Nat.one_mul] at this; omega
          have hx : small (G (q / n) (q % n)) = small (G i j) := by
            rw [hq, Nat.mul_comm i n, Nat.mul_add_div (by omega), Nat.mul_add_mod, Nat.div_eq_of_lt hj, Nat.mod_eq_of_lt hj, Nat.add_zero]
          rw [← hq] at hrel
          obtain ⟨y, hy⟩ : ∃ y, y = G i j := ⟨_, rfl⟩
          obtain ⟨y0, y1⟩ := HGB.out i j hi hj
          rw [← hy] at d1 hx y0 y1
          obtain ⟨lv, lc, rfl⟩ := own_slice hrel.own1
          have m2 := hrel.m2
          have mf := hrel.mf
          have hsz := hrel.size
          have HR := Lib.hid hrel
          have HX := Lib.hid hx
          have HQ := Lib.hid hq
          clear hrel hq hx hy c2 d2
          have g5 : (0 : Int) ≤ (i : Int) := by omega
          have g6 : (i : Int) < (m : Int) := by omega
          have g7 : (0 : Int) ≤ (j : Int) := by omega
          have g8 : (j : Int) < (n : Int) := by omega
          go_wp2_with fail
          go_region_law (first
            | (go_simp; go_at_call 103; refine (Of12_any y y0 y1 _).mono ?_; rintro e w6 ⟨ad, cd, rfl, o3, o4⟩; have k0 := cell_stays (w := wr.drew) o4 m2; have k1 := froz_stays (w := wr.drew) o4 m2 mf; have AP := Lib.hid (HR.out.app (below_drew o4) (.bool false) (.slice ad (w1 y) cd)); have k2 := AP.out.2.2.1; have k3 := AP.out.2.2.2.1; have k4 := AP.out.2.2.2.2)
            | (refine step_append_lies _ rfl (.tmp 24) (.tmp 33) 32 rfl (w.heap.size + 2) 56 i0 (.agg #[.bool false, .slice none 0 0]) 2 32 Try.underlying32 HI.out.1 HI.out.2.1 HI.out.2.2.1 HI.out.2.2.2 rfl (by decide) (.slice lv q lc) q _ (by simp [Act.eval, Act.put]) AP.out.1 ⟨w6.heap.size, 0, none⟩ 1 1 [.bool false, .slice ad (w1 y) cd] (by simp [Act.eval, Act.put]) rfl AP.out.2.1 (by intro u hu; simp at hu; rcases hu with rfl | rfl <;> rfl) (by decide) (by unfold maxLen; omega) (by omega) k4 _ rfl ?_; intro g cap w8 o8 g8' o9 o10; obtain ⟨k5, k6⟩ := MtRel.far AP.out.1 k2 k3 g8'))
          all_goals
            obtain ⟨M', hN⟩ := HR.out.push (below_drew o4) y0 y1 o3 HX.out o8 g8'
            have HNX := Lib.hid hN
            clear hN AP k0 k1 k2 k3 k4 k5 k6 o3 o4 o8 o9 o10 g8'
            try clear Q
            go_wp2_with fail
            go_roundw
            case rel => exact ⟨j + 1, _, _, by omega, by go_num, by rw [← Nat.add_assoc, ← HQ.out]; exact HNX.out⟩
            case measure => simp [intOf]; omega
        · obtain rfl : j = n := by omega
          go_wp2_with fail
          go_roundw
          case rel => exact ⟨i + 1, v, M, by omega, by go_num, by rw [Nat.add_mul, Nat.one_mul]; exact hrel⟩
          case measure => simp [intOf]; omega
    · obtain rfl : i = m := by omega
      obtain ⟨lv, lc, rfl⟩ := own_slice hrel.own1
      have m0 := hrel.m0
      have m1 := hrel.m1
      have m2 := hrel.m2
      obtain ⟨r0, s0⟩ := hrel.r0
      obtain ⟨r1, s1⟩ := hrel.r1
      obtain ⟨r2, s2⟩ := hrel.r2
      have HR := Lib.hid hrel
      clear hrel
      go_wp2_with fail
      have hs : Below w.heap.size w (((wr.setCell ⟨w.heap.size, 0, none⟩ (.int .i64 i)).setCell ⟨w.heap.size, 1, none⟩ (.int .i64 n)).setCell ⟨w.heap.size, 2, none⟩ (.slice lv (i * n) lc)) :=
        ((HR.out.below.setCell (p := ⟨w.heap.size, 0, none⟩) (Nat.le_refl _) _).setCell (p := ⟨w.heap.size, 1, none⟩) (Nat.le_refl _) _).setCell (p := ⟨w.heap.size, 2, none⟩) (Nat.le_refl _) _
      have ho : OwnF wr (w.heap.size + 2) (.slice lv (i * n) lc) (i * n) (fun q => small (G (q / n) (q % n))) := ⟨M, HR.out.own1, HR.out.own2⟩
      have ho := (((ho.set (a := ⟨w.heap.size, 0, none⟩) (by show w.heap.size < _; omega) (.int .i64 i)).set (a := ⟨w.heap.size, 1, none⟩) (by show w.heap.size < _; omega) (.int .i64 n)).set (a := ⟨w.heap.size, 2, none⟩) (by show w.heap.size < _; omega) (.slice lv (i * n) lc)).mono (base' := w.heap.size) (by omega)
      refine bodyPost_ret (v := .agg #[.int .i64 i, .int .i64 n, .slice lv (i * n) lc]) ?_ rfl ⟨_, rfl, ho, hs⟩
      simp [results, Try.results112, go_sem, r0, r1, r2]
end Go.Proofs.Ytdlpemmoobbgnaa

namespace Go.Proofs.Ytdlpemmoobbgnaa
open Go.RowKit

set_option maxHeartbeats 4000000 in
set_option maxRecDepth 100000 in
theorem Reduce12_good (R C : Nat) (p : Int) (hR : R ≤ 64) (hC : C ≤ 64) (hp : primeB p = true) (s : Value) (x : Nat → Raw) (w : World) (hr : RdL w s (R * C) x) :
    Calls Try.prog 84 #[.agg #[.int .i64 R, .int .i64 C, s], .int .u64 p] w fun e w' => ∃ v, e = .returned (.tuple #[.agg #[.int .i64 R, .int .i64 C, v], .int .i64 0]) ∧ OwnF w' w.heap.size v (R * C) (fun t => small (resG p C x (t / C) (t % C))) ∧ Below w.heap.size w w' := by
  obtain ⟨p0, p1⟩ := primeB_bd hp
  obtain ⟨a, cap, rfl, hl⟩ := hr.slice
  have hRC : R * C ≤ 4096 := Nat.mul_le_mul hR hC
  have hc := fun W => checks_any R C a (R * C) cap hl p (by omega) false W
  rw [show openE R C (R * C) p (!(false && ((R : Int) != C))) = 0 from openE_good hR hC rfl hp] at hc
  have ht := fun W h => table12_any p (by omega) p1 R C (R * C) hR hC rfl (.slice a (R * C) cap) x W h
  have hm := fun W (base gb : Nat) (B : Nat → Nat) h1 => matrix12_any R C R base gb 0 B (fun _ => 0) (fun _ => C) (fun i j => resid (x (i * C + j)) p) (by omega) (by omega) (fun i j hi hj => by have := resG_res p (by omega) R C C x i j hi hj; unfold resG at this; omega) W h1
  have hbx0 := box_mat w (.int .i64 R) (.int .i64 C) (.slice a (R * C) cap) 34
  have hH : Has (w.alloc (.cells #[.int .i64 R, .int .i64 C, .slice a (R * C) cap] 34)) [(_, _), (_, _), (_, _)] := ⟨hbx0.2.1, hbx0.2.2.1, hbx0.2.2.2, trivial⟩
  have hal : Below (w.alloc (.cells #[.int .i64 R, .int .i64 C, .slice a (R * C) cap] 34)).heap.size (w.alloc (.cells #[.int .i64 R, .int .i64 C, .slice a (R * C) cap] 34)) ((w.alloc (.cells #[.int .i64 R, .int .i64 C, .slice a (R * C) cap] 34)).alloc (.cells #[.int .i64 0, .int .i64 0, .slice none 0 0] 34)) := (Below.refl _ _).alloc (Nat.le_refl _) _
  have h3 := three_cells (w.alloc (.cells #[.int .i64 R, .int .i64 C, .slice a (R * C) cap] 34)) (.int .i64 0) (.int .i64 0) (.slice none 0 0) 34
  rw [show (w.alloc (.cells #[.int .i64 R, .int .i64 C, .slice a (R * C) cap] 34)).heap.size = w.heap.size + 1 by simp] at h3
  have r0 := h3 0 _ rfl
  have r1 := h3 1 _ rfl
  have r2 := h3 2 _ rfl
  have H0 := Lib.hid (Has.below hH hal)
  have G0 := Lib.hid (stage hbx0.1 hbx0.1.size hal)
  have HR0 := Lib.hid (And.intro r0 (And.intro r1 r2))
  have HC := Lib.hid hc
  have HT := Lib.hid ht
  have HM := Lib.hid hm
  have HRD := Lib.hid hr
  clear hc ht hm hr hH hbx0 hp hal h3 r0 r1 r2
  go_enter Try.func84, Try.ntmps84
  go_wp2_with fail
  refine (HC.out _).mono ?_
  rintro e w1 ⟨rfl, hb1⟩
  have G1 := Lib.hid (stage G0.out.1 G0.out.2 hb1)
  have H1 := Lib.hid (H0.out.below hb1)
  have HR1 := Lib.hid (And.intro (And.intro (cell_stays hb1 HR0.out.1.1) (froz_stays hb1 HR0.out.1.1 HR0.out.1.2)) (And.intro (And.intro (cell_stays hb1 HR0.out.2.1.1) (froz_stays hb1 HR0.out.2.1.1 HR0.out.2.1.2)) (And.intro (cell_stays hb1 HR0.out.2.2.1) (froz_stays hb1 HR0.out.2.2.1 HR0.out.2.2.2))))
  clear hb1
  obtain ⟨x0, x1, x2, -⟩ := H1.out
  dsimp only at x0 x1 x2
  have RD := Lib.hid ((HRD.out.below G1.out.1).below (Below.refl w1.heap.size w1).drew)
  go_wp2_with fail
  have hwp : IntKind.i64.wrap p = p := IntWalk.i64_in _ (by omega)
  go_region_held3 (fun w' => w'.cell? ⟨w.heap.size, 0, none⟩ = some (.int .i64 R) ∧ w'.cell? ⟨w.heap.size, 1, none⟩ = some (.int .i64 C) ∧ w'.cell? ⟨w.heap.size, 2, none⟩ = some (.slice a (R * C) cap))
    (first
      | go_keep
      | (exact HK7.out)
      | (have hk := gb_trans (gb_trans (gb_set w7 ⟨w.heap.size + 1, 0, none⟩ (.int .i64 R)) (gb_set _ ⟨w.heap.size + 1, 1, none⟩ (.int .i64 C))) (gb_set _ ⟨w.heap.size + 1, 2, none⟩ (.slice a7 (R * C) c7)); exact ⟨hk.cell HK7.out.1 (by simp), hk.cell HK7.out.2.1 (by simp), hk.cell HK7.out.2.2 (by simp)⟩)
      | (exact ⟨cell_stays (w := w1.drew) HB6.out x0, cell_stays (w := w1.drew) HB6.out x1, cell_stays (w := w1.drew) HB6.out x2⟩))
    (first
      | (go_at_call 113; (with_reducible refine (HT.out w1.drew RD.out).mono ?_); rintro e w6 ⟨gb, B, rfl, hpt, hb6⟩; have HPT := Lib.hid hpt; have HB6 := Lib.hid hb6; clear hpt hb6)
      | (go_at_call 112; (with_reducible refine (HM.out w6 w1.drew.heap.size gb B (HPT.out.grid (by omega))).mono ?_); rintro e w7 ⟨v7, rfl, ho, hb7⟩; obtain ⟨a7, c7, rfl⟩ := ho.slice; have HO := Lib.hid ho; have HB7 := Lib.hid (HB6.out.trans (hb7.mono HB6.out.size)); clear ho hb7; have HK7 := Lib.hid (And.intro (cell_stays (w := w1.drew) HB7.out x0) (And.intro (cell_stays (w := w1.drew) HB7.out x1) (cell_stays (w := w1.drew) HB7.out x2))); have s0 := cell_stays (w := w1.drew) HB7.out HR1.out.1.1; have s1 := froz_stays (w := w1.drew) HB7.out HR1.out.1.1 HR1.out.1.2; have s2 := cell_stays (w := w1.drew) HB7.out HR1.out.2.1.1; have s3 := froz_stays (w := w1.drew) HB7.out HR1.out.2.1.1 HR1.out.2.1.2; have s4 := cell_stays (w := w1.drew) HB7.out HR1.out.2.2.1; have s5 := froz_stays (w := w1.drew) HB7.out HR1.out.2.2.1 HR1.out.2.2.2))
  all_goals
    have hlt : w.heap.size + 1 < w6.heap.size := by
      have h1 := World.block_lt_of_cell? w1 _ HR1.out.1.1
      have h2 := HB6.out.size
      have h3 : w1.drew.heap.size = w1.heap.size := rfl
      dsimp only at h1; omega
    have hb8 : Below w.heap.size w w7 := G1.out.1.trans (((Below.refl w1.heap.size w1).drew.trans (HB7.out.mono (Nat.le_refl _))).mono G1.out.2)
    have hb9 := ((hb8.setCell (p := ⟨w.heap.size + 1, 0, none⟩) (Nat.le_succ w.heap.size) (.int .i64 R)).setCell (p := ⟨w.heap.size + 1, 1, none⟩) (Nat.le_succ w.heap.size) (.int .i64 C)).setCell (p := ⟨w.heap.size + 1, 2, none⟩) (Nat.le_succ w.heap.size) (.slice a7 (R * C) c7)
    have ho := (((HO.out.set (a := ⟨w.heap.size + 1, 0, none⟩) hlt (.int .i64 R)).set (a := ⟨w.heap.size + 1, 1, none⟩) hlt (.int .i64 C)).set (a := ⟨w.heap.size + 1, 2, none⟩) hlt (.slice a7 (R * C) c7)).mono (base' := w.heap.size) (by omega)
    have HB9 := Lib.hid hb9
    have HO9 := Lib.hid ho
    clear hb8 hb9 ho
    go_wp2_with fail
    refine bodyPost_ret (v := .tuple #[.agg #[.int .i64 R, .int .i64 C, .slice a7 (R * C) c7], .int .i64 0]) ?_ rfl ⟨_, rfl, HO9.out, HB9.out⟩
    simp [results, Try.results84, go_sem, s0, s2, s4]
end Go.Proofs.Ytdlpemmoobbgnaa

namespace Go.Proofs.Ytdlpemmoobbgnaa
open Go.RowKit

theorem own_rdA {w : World} {base r : Nat} {v : Value} {P : Nat → Nat} (hr : r ≤ 1048576) (h : w.ownsRow base 3 1 v r (pl P r)) : RdA .i64 w v r fun k => (P k : Int) := by
  have h' := h
  obtain ⟨h0, h1⟩ := h
  rcases h1 with ⟨rfl, e⟩ | ⟨g, cap, cur, rfl, -, h3, h4, -⟩
  · subst e
    exact ⟨none, 0, rfl, Nat.le_refl _, by omega, fun h => absurd h (by omega)⟩
  · have hrow := own_row (k := .i64) (f := fun k => (P k : Int)) h' rfl
    exact ⟨_, cap, rfl, h4, by omega, fun _ => ⟨g, 0, rfl, fun i hi => (hrow.2.1 i hi).1⟩⟩
theorem srel_ap {q : Nat} [NeZero q] {w wr : World} {base gb go R W c r i : Nat} {P : Nat → Nat} {G0 G : Nat → Nat → Int} {s : Int} {pv : Value} {B O C : Nat → Nat} (h : SRel q w wr base gb go R W c r i P G0 G s pv B O C) : ∀ l, l < R → pv.ownBlock = none ∨ pv.ownBlock ≠ some (B l) := fun l hl => own_block h.own (h.low l hl)

set_option maxHeartbeats 4000000 in
set_option maxRecDepth 100000 in
theorem Echelon12_good (R C : Nat) (p : Int) (hR : R ≤ 64) (hC : C ≤ 64) (hp : primeB p = true) (s : Value) (x : Nat → Raw) (w : World) (hr : RdL w s (R * C) x) :
    Calls Try.prog 87 #[.agg #[.int .i64 R, .int .i64 C, s], .int .u64 p] w fun e w' => ∃ v, e = .returned (.tuple #[.agg #[.int .i64 R, .int .i64 C, v], .int .i64 0]) ∧ OwnF w' w.heap.size v (R * C) (fun t => small ((redS p R C (resG p C x) C).G (t / C) (t % C))) ∧ Below w.heap.size w w' := by
  obtain ⟨q, hqp, hq, hz⟩ := prime_nat hp
  obtain ⟨p0, p1⟩ := primeB_bd hp
  obtain ⟨a, cap, rfl, hl⟩ := hr.slice
  have hRC : R * C ≤ 4096 := Nat.mul_le_mul hR hC
  have hc := fun W => checks_any R C a (R * C) cap hl p (by omega) false W
  rw [show openE R C (R * C) p (!(false && ((R : Int) != C))) = 0 from openE_good hR hC rfl hp] at hc
  have ht := fun W h => table12_any p (by omega) p1 R C (R * C) hR hC rfl (.slice a (R * C) cap) x W h
  have hres : Res q R C (fun i j => resid (x (i * C + j)) p) := by rw [hqp]; exact resG_res (q : Int) (by omega) R C C x
  have hs := fun W (base gb : Nat) (B : Nat → Nat) h1 h2 => stairs12_any q p hqp.symm (by omega) p1 R C C R base gb 0 B (fun _ => 0) (fun _ => C) (fun i j => resid (x (i * C + j)) p) (by omega) (by omega) (Nat.le_refl C) hres W h1 h2
  have hd := fun W (r base gb : Nat) (B O C' : Nat → Nat) (P : Nat → Nat) G pv h1 h2 h3 h4 h5 => reduced12_any q p hqp.symm hq p1 R C C r R base gb 0 B O C' P (fun i j => resid (x (i * C + j)) p) G (by omega) (by omega) (Nat.le_refl C) pv W h1 h2 h3 h4 h5
  have hm := fun W (base gb : Nat) (B O C' : Nat → Nat) (G : Nat → Nat → Int) hG h1 => matrix12_any R C R base gb 0 B O C' G (by omega) (by omega) hG W h1
  have hech := fun (r : Nat) P G (h : RdS q R C C r r r 0 P (fun i j => resid (x (i * C + j)) p) G) => (ech12 (d := 1 % p) hq h hres).2.2
  have hech : ∀ (r : Nat) P G (h : RdS q R C C r r r 0 P (fun i j => resid (x (i * C + j)) p) G), ∀ i j, i < R → j < C → G i j = (redS p R C (resG p C x) C).G i j := fun r P G h i j hi hj => by
    have := hech r P G h i j hi hj
    unfold redS; rw [hqp] at this ⊢; exact this
  have hst := fun (r : Nat) P G s' (h : StI q R C C r (r + 1) P (fun i j => resid (x (i * C + j)) p) G s') => h.reds hq
  have hbx0 := box_mat w (.int .i64 R) (.int .i64 C) (.slice a (R * C) cap) 34
  have hH : Has (w.alloc (.cells #[.int .i64 R, .int .i64 C, .slice a (R * C) cap] 34)) [(_, _), (_, _), (_, _)] := ⟨hbx0.2.1, hbx0.2.2.1, hbx0.2.2.2, trivial⟩
  have hal : Below (w.alloc (.cells #[.int .i64 R, .int .i64 C, .slice a (R * C) cap] 34)).heap.size (w.alloc (.cells #[.int .i64 R, .int .i64 C, .slice a (R * C) cap] 34)) ((w.alloc (.cells #[.int .i64 R, .int .i64 C, .slice a (R * C) cap] 34)).alloc (.cells #[.int .i64 0, .int .i64 0, .slice none 0 0] 34)) := (Below.refl _ _).alloc (Nat.le_refl _) _
  have h3 := three_cells (w.alloc (.cells #[.int .i64 R, .int .i64 C, .slice a (R * C) cap] 34)) (.int .i64 0) (.int .i64 0) (.slice none 0 0) 34
  rw [show (w.alloc (.cells #[.int .i64 R, .int .i64 C, .slice a (R * C) cap] 34)).heap.size = w.heap.size + 1 by simp] at h3
  have r0 := h3 0 _ rfl
  have r1 := h3 1 _ rfl
  have r2 := h3 2 _ rfl
  have H0 := Lib.hid (Has.below hH hal)
  have G0 := Lib.hid (stage hbx0.1 hbx0.1.size hal)
  have HR0 := Lib.hid (And.intro r0 (And.intro r1 r2))
  have HC := Lib.hid hc
  have HT := Lib.hid ht
  have HS := Lib.hid hs
  have HD := Lib.hid hd
  have HM := Lib.hid hm
  have HE := Lib.hid hech
  have HST := Lib.hid hst
  have HRD := Lib.hid hr
  have HQP := Lib.hid hqp
  clear hc ht hs hd hm hech hst hr hH hbx0 hp hal h3 r0 r1 r2 hqp hq hres
  go_enter Try.func87, Try.ntmps87
  go_wp2_with fail
  refine (HC.out _).mono ?_
  rintro e w1 ⟨rfl, hb1⟩
  have G1 := Lib.hid (stage G0.out.1 G0.out.2 hb1)
  have H1 := Lib.hid (H0.out.below hb1)
  have HR1 := Lib.hid (And.intro (And.intro (cell_stays hb1 HR0.out.1.1) (froz_stays hb1 HR0.out.1.1 HR0.out.1.2)) (And.intro (And.intro (cell_stays hb1 HR0.out.2.1.1) (froz_stays hb1 HR0.out.2.1.1 HR0.out.2.1.2)) (And.intro (cell_stays hb1 HR0.out.2.2.1) (froz_stays hb1 HR0.out.2.2.1 HR0.out.2.2.2))))
  clear hb1
  obtain ⟨x0, x1, x2, -⟩ := H1.out
  dsimp only at x0 x1 x2
  have RD := Lib.hid (HRD.out.below G1.out.1)
  have hwp : IntKind.i64.wrap p = p := IntWalk.i64_in _ (by omega)
  go_wp2_with fail
  refine (HT.out w1 RD.out).mono ?_
  rintro e w6 ⟨gb, B, rfl, hpt, hb6⟩
  have HPT := Lib.hid hpt
  have HB6 := Lib.hid hb6
  have y1 := cell_stays hb6 x1
  clear hpt hb6 x0 x1 x2
  go_wp2_with fail
  refine (HS.out w6 w1.heap.size gb B (HPT.out.grid (by omega)) HB6.out.size).mono ?_
  rintro e w7 ⟨r, P, G, s, pv, B', O', C', rfl, hsr⟩
  obtain ⟨a7, c7, rfl⟩ := own_slice hsr.own
  have HSR := Lib.hid hsr
  have HB7 := Lib.hid (HB6.out.trans (hsr.below.mono (Nat.le_refl _)))
  clear hsr y1
  go_wp2_with fail
  refine (HD.out w7 r w1.heap.size gb B' O' C' P G (.slice a7 r c7) (HST.out r P G s HSR.out.st) HSR.out.grid (own_rdA (by have := HSR.out.st.le; omega) HSR.out.own) (srel_ap HSR.out) HB7.out.size).mono ?_
  rintro e w8 ⟨rfl, G', hrd, hrr⟩
  have HRDS := Lib.hid hrd
  have HRR := Lib.hid hrr
  have HB8 := Lib.hid (HB7.out.trans (hrr.below.mono (Nat.le_refl _)))
  clear hrd hrr
  have z1 := cell_stays HB8.out (H1.out.2.1)
  dsimp only at z1
  go_wp2_with fail
  refine (HM.out w8 w1.heap.size gb B' O' C' G' (fun i j hi hj => by have := HRDS.out.res i j hi hj; rw [← HQP.out] at this; omega) HRR.out.grid).mono ?_
  rintro e w9 ⟨v9, rfl, ho, hb9⟩
  obtain ⟨a9, c9, rfl⟩ := ho.slice
  have HB9 := Lib.hid (HB8.out.trans (hb9.mono HB8.out.size))
  have hco := ho.congr (Y := fun t => small ((redS p R C (resG p C x) C).G (t / C) (t % C))) fun t ht => by
    have hC0 : 0 < C := by rcases Nat.eq_zero_or_pos C with e | e; · subst e; omega
                           · exact e
    show small (G' (t / C) (t % C)) = small _
    rw [HE.out r P G' HRDS.out (t / C) (t % C) (Nat.div_lt_of_lt_mul (by rw [Nat.mul_comm]; exact ht)) (Nat.mod_lt _ hC0)]
  have HO := Lib.hid hco
  clear ho hb9 hco z1
  have s0 := cell_stays HB9.out HR1.out.1.1
  have s1 := froz_stays HB9.out HR1.out.1.1 HR1.out.1.2
  have s2 := cell_stays HB9.out HR1.out.2.1.1
  have s3 := froz_stays HB9.out HR1.out.2.1.1 HR1.out.2.1.2
  have s4 := cell_stays HB9.out HR1.out.2.2.1
  have s5 := froz_stays HB9.out HR1.out.2.2.1 HR1.out.2.2.2
  have hlt : w.heap.size + 1 < w8.heap.size := by
    have h1 := World.block_lt_of_cell? w1 _ HR1.out.1.1
    have h2 := HB8.out.size
    dsimp only at h1; omega
  have hb8 : Below w.heap.size w w9 := G1.out.1.trans (HB9.out.mono G1.out.2)
  have hb9 := ((hb8.setCell (p := ⟨w.heap.size + 1, 0, none⟩) (Nat.le_succ w.heap.size) (.int .i64 R)).setCell (p := ⟨w.heap.size + 1, 1, none⟩) (Nat.le_succ w.heap.size) (.int .i64 C)).setCell (p := ⟨w.heap.size + 1, 2, none⟩) (Nat.le_succ w.heap.size) (.slice a9 (R * C) c9)
  have ho := (((HO.out.set (a := ⟨w.heap.size + 1, 0, none⟩) hlt (.int .i64 R)).set (a := ⟨w.heap.size + 1, 1, none⟩) hlt (.int .i64 C)).set (a := ⟨w.heap.size + 1, 2, none⟩) hlt (.slice a9 (R * C) c9)).mono (base' := w.heap.size) (by omega)
  have HB10 := Lib.hid hb9
  have HO9 := Lib.hid ho
  clear hb8 hb9 ho
  go_wp2_with fail
  refine bodyPost_ret (v := .tuple #[.agg #[.int .i64 R, .int .i64 C, .slice a9 (R * C) c9], .int .i64 0]) ?_ rfl ⟨_, rfl, HO9.out, HB10.out⟩
  simp [results, Try.results87, go_sem, s0, s2, s4]
end Go.Proofs.Ytdlpemmoobbgnaa

namespace Go.Proofs.Ytdlpemmoobbgnaa
open Go.RowKit

set_option maxHeartbeats 1000000 in
theorem Rank12_bad (ra ca p : Int) (hp : 0 ≤ p) (s : Value) (n : Nat) (x : Nat → Raw) (w : World) (hr : RdL w s n x) (hE : openE ra ca n p true ≠ 0) :
    Calls Try.prog 86 #[.agg #[.int .i64 ra, .int .i64 ca, s], .int .u64 p] w fun e w' => e = .returned (.tuple #[.int .i64 0, .int .i64 (openE ra ca n p true)]) ∧ Below w.heap.size w w' := by
  obtain ⟨a, cap, rfl, hl⟩ := hr.slice
  have hc := fun W => checks_any ra ca a n cap hl p hp false W
  rw [show (!(false && (ra != ca))) = true from rfl] at hc
  have hbx0 := box_mat w (.int .i64 ra) (.int .i64 ca) (.slice a n cap) 34
  have G0 := Lib.hid (And.intro hbx0.1 hbx0.1.size)
  generalize openE ra ca n p true = E at *
  have hEb : (E != 0) = true := by rw [bne_iff_ne]; exact hE
  have HC := Lib.hid hc
  clear hc hr hbx0 hE
  go_enter Try.func86, Try.ntmps86
  go_wp2_with fail
  refine (HC.out _).mono ?_
  rintro e w1 ⟨rfl, hb1⟩
  have G1 := Lib.hid (stage G0.out.1 G0.out.2 hb1)
  clear hb1
  go_wp2_with fail
  go_ret2
  exact ⟨rfl, G1.out.1⟩

set_option maxHeartbeats 1000000 in
theorem Reduce12_bad (ra ca p : Int) (hp : 0 ≤ p) (s : Value) (n : Nat) (x : Nat → Raw) (w : World) (hr : RdL w s n x) (hE : openE ra ca n p true ≠ 0) :
    Calls Try.prog 84 #[.agg #[.int .i64 ra, .int .i64 ca, s], .int .u64 p] w fun e w' => e = .returned (.tuple #[.agg #[.int .i64 0, .int .i64 0, .slice none 0 0], .int .i64 (openE ra ca n p true)]) ∧ Below w.heap.size w w' := by
  obtain ⟨a, cap, rfl, hl⟩ := hr.slice
  have hc := fun W => checks_any ra ca a n cap hl p hp false W
  rw [show (!(false && (ra != ca))) = true from rfl] at hc
  have hbx0 := box_mat w (.int .i64 ra) (.int .i64 ca) (.slice a n cap) 34
  have hal : Below (w.alloc (.cells #[.int .i64 ra, .int .i64 ca, .slice a n cap] 34)).heap.size (w.alloc (.cells #[.int .i64 ra, .int .i64 ca, .slice a n cap] 34)) ((w.alloc (.cells #[.int .i64 ra, .int .i64 ca, .slice a n cap] 34)).alloc (.cells #[.int .i64 0, .int .i64 0, .slice none 0 0] 34)) := (Below.refl _ _).alloc (Nat.le_refl _) _
  have h3 := three_cells (w.alloc (.cells #[.int .i64 ra, .int .i64 ca, .slice a n cap] 34)) (.int .i64 0) (.int .i64 0) (.slice none 0 0) 34
  rw [show (w.alloc (.cells #[.int .i64 ra, .int .i64 ca, .slice a n cap] 34)).heap.size = w.heap.size + 1 by simp] at h3
  have r0 := h3 0 _ rfl
  have r1 := h3 1 _ rfl
  have r2 := h3 2 _ rfl
  have HR0 := Lib.hid (And.intro r0 (And.intro r1 r2))
  have G0 := Lib.hid (stage hbx0.1 hbx0.1.size hal)
  generalize openE ra ca n p true = E at *
  have hEb : (E != 0) = true := by rw [bne_iff_ne]; exact hE
  have HC := Lib.hid hc
  clear hc hr hbx0 hE hal h3 r0 r1 r2
  go_enter Try.func84, Try.ntmps84
  go_wp2_with fail
  refine (HC.out _).mono ?_
  rintro e w1 ⟨rfl, hb1⟩
  have G1 := Lib.hid (stage G0.out.1 G0.out.2 hb1)
  have s0 := cell_stays hb1 HR0.out.1.1
  have s1 := froz_stays hb1 HR0.out.1.1 HR0.out.1.2
  have s2 := cell_stays hb1 HR0.out.2.1.1
  have s3 := froz_stays hb1 HR0.out.2.1.1 HR0.out.2.1.2
  have s4 := cell_stays hb1 HR0.out.2.2.1
  have s5 := froz_stays hb1 HR0.out.2.2.1 HR0.out.2.2.2
  clear hb1
  go_wp2_with fail
  have hb9 := ((G1.out.1.setCell (p := ⟨w.heap.size + 1, 0, none⟩) (Nat.le_succ w.heap.size) (.int .i64 0)).setCell (p := ⟨w.heap.size + 1, 1, none⟩) (Nat.le_succ w.heap.size) (.int .i64 0)).setCell (p := ⟨w.heap.size + 1, 2, none⟩) (Nat.le_succ w.heap.size) (.slice none 0 0)
  refine bodyPost_ret (v := .tuple #[.agg #[.int .i64 0, .int .i64 0, .slice none 0 0], .int .i64 E]) ?_ rfl ⟨rfl, hb9⟩
  simp [results, Try.results84, go_sem, s0, s2, s4]

set_option maxHeartbeats 1000000 in
theorem Echelon12_bad (ra ca p : Int) (hp : 0 ≤ p) (s : Value) (n : Nat) (x : Nat → Raw) (w : World) (hr : RdL w s n x) (hE : openE ra ca n p true ≠ 0) :
    Calls Try.prog 87 #[.agg #[.int .i64 ra, .int .i64 ca, s], .int .u64 p] w fun e w' => e = .returned (.tuple #[.agg #[.int .i64 0, .int .i64 0, .slice none 0 0], .int .i64 (openE ra ca n p true)]) ∧ Below w.heap.size w w' := by
  obtain ⟨a, cap, rfl, hl⟩ := hr.slice
  have hc := fun W => checks_any ra ca a n cap hl p hp false W
  rw [show (!(false && (ra != ca))) = true from rfl] at hc
  have hbx0 := box_mat w (.int .i64 ra) (.int .i64 ca) (.slice a n cap) 34
  have hal : Below (w.alloc (.cells #[.int .i64 ra, .int .i64 ca, .slice a n cap] 34)).heap.size (w.alloc (.cells #[.int .i64 ra, .int .i64 ca, .slice a n cap] 34)) ((w.alloc (.cells #[.int .i64 ra, .int .i64 ca, .slice a n cap] 34)).alloc (.cells #[.int .i64 0, .int .i64 0, .slice none 0 0] 34)) := (Below.refl _ _).alloc (Nat.le_refl _) _
  have h3 := three_cells (w.alloc (.cells #[.int .i64 ra, .int .i64 ca, .slice a n cap] 34)) (.int .i64 0) (.int .i64 0) (.slice none 0 0) 34
  rw [show (w.alloc (.cells #[.int .i64 ra, .int .i64 ca, .slice a n cap] 34)).heap.size = w.heap.size + 1 by simp] at h3
  have r0 := h3 0 _ rfl
  have r1 := h3 1 _ rfl
  have r2 := h3 2 _ rfl
  have HR0 := Lib.hid (And.intro r0 (And.intro r1 r2))
  have G0 := Lib.hid (stage hbx0.1 hbx0.1.size hal)
  generalize openE ra ca n p true = E at *
  have hEb : (E != 0) = true := by rw [bne_iff_ne]; exact hE
  have HC := Lib.hid hc
  clear hc hr hbx0 hE hal h3 r0 r1 r2
  go_enter Try.func87, Try.ntmps87
  go_wp2_with fail
  refine (HC.out _).mono ?_
  rintro e w1 ⟨rfl, hb1⟩
  have G1 := Lib.hid (stage G0.out.1 G0.out.2 hb1)
  have s0 := cell_stays hb1 HR0.out.1.1
  have s1 := froz_stays hb1 HR0.out.1.1 HR0.out.1.2
  have s2 := cell_stays hb1 HR0.out.2.1.1
  have s3 := froz_stays hb1 HR0.out.2.1.1 HR0.out.2.1.2
  have s4 := cell_stays hb1 HR0.out.2.2.1
  have s5 := froz_stays hb1 HR0.out.2.2.1 HR0.out.2.2.2
  clear hb1
  go_wp2_with fail
  have hb9 := ((G1.out.1.setCell (p := ⟨w.heap.size + 1, 0, none⟩) (Nat.le_succ w.heap.size) (.int .i64 0)).setCell (p := ⟨w.heap.size + 1, 1, none⟩) (Nat.le_succ w.heap.size) (.int .i64 0)).setCell (p := ⟨w.heap.size + 1, 2, none⟩) (Nat.le_succ w.heap.size) (.slice none 0 0)
  refine bodyPost_ret (v := .tuple #[.agg #[.int .i64 0, .int .i64 0, .slice none 0 0], .int .i64 E]) ?_ rfl ⟨rfl, hb9⟩
  simp [results, Try.results87, go_sem, s0, s2, s4]

set_option maxHeartbeats 1000000 in
theorem Kernel12_bad (ra ca p : Int) (hp : 0 ≤ p) (s : Value) (n : Nat) (x : Nat → Raw) (w : World) (hr : RdL w s n x) (hE : openE ra ca n p true ≠ 0) :
    Calls Try.prog 89 #[.agg #[.int .i64 ra, .int .i64 ca, s], .int .u64 p] w fun e w' => e = .returned (.tuple #[.agg #[.int .i64 0, .int .i64 0, .slice none 0 0], .int .i64 (openE ra ca n p true)]) ∧ Below w.heap.size w w' := by
  obtain ⟨a, cap, rfl, hl⟩ := hr.slice
  have hc := fun W => checks_any ra ca a n cap hl p hp false W
  rw [show (!(false && (ra != ca))) = true from rfl] at hc
  have hbx0 := box_mat w (.int .i64 ra) (.int .i64 ca) (.slice a n cap) 34
  have hal : Below (w.alloc (.cells #[.int .i64 ra, .int .i64 ca, .slice a n cap] 34)).heap.size (w.alloc (.cells #[.int .i64 ra, .int .i64 ca, .slice a n cap] 34)) ((w.alloc (.cells #[.int .i64 ra, .int .i64 ca, .slice a n cap] 34)).alloc (.cells #[.int .i64 0, .int .i64 0, .slice none 0 0] 34)) := (Below.refl _ _).alloc (Nat.le_refl _) _
  have h3 := three_cells (w.alloc (.cells #[.int .i64 ra, .int .i64 ca, .slice a n cap] 34)) (.int .i64 0) (.int .i64 0) (.slice none 0 0) 34
  rw [show (w.alloc (.cells #[.int .i64 ra, .int .i64 ca, .slice a n cap] 34)).heap.size = w.heap.size + 1 by simp] at h3
  have r0 := h3 0 _ rfl
  have r1 := h3 1 _ rfl
  have r2 := h3 2 _ rfl
  have HR0 := Lib.hid (And.intro r0 (And.intro r1 r2))
  have G0 := Lib.hid (stage hbx0.1 hbx0.1.size hal)
  generalize openE ra ca n p true = E at *
  have hEb : (E != 0) = true := by rw [bne_iff_ne]; exact hE
  have HC := Lib.hid hc
  clear hc hr hbx0 hE hal h3 r0 r1 r2
  go_enter Try.func89, Try.ntmps89
  go_wp2_with fail
  refine (HC.out _).mono ?_
  rintro e w1 ⟨rfl, hb1⟩
  have G1 := Lib.hid (stage G0.out.1 G0.out.2 hb1)
  have s0 := cell_stays hb1 HR0.out.1.1
  have s1 := froz_stays hb1 HR0.out.1.1 HR0.out.1.2
  have s2 := cell_stays hb1 HR0.out.2.1.1
  have s3 := froz_stays hb1 HR0.out.2.1.1 HR0.out.2.1.2
  have s4 := cell_stays hb1 HR0.out.2.2.1
  have s5 := froz_stays hb1 HR0.out.2.2.1 HR0.out.2.2.2
  clear hb1
  go_wp2_with fail
  have hb9 := ((G1.out.1.setCell (p := ⟨w.heap.size + 1, 0, none⟩) (Nat.le_succ w.heap.size) (.int .i64 0)).setCell (p := ⟨w.heap.size + 1, 1, none⟩) (Nat.le_succ w.heap.size) (.int .i64 0)).setCell (p := ⟨w.heap.size + 1, 2, none⟩) (Nat.le_succ w.heap.size) (.slice none 0 0)
  refine bodyPost_ret (v := .tuple #[.agg #[.int .i64 0, .int .i64 0, .slice none 0 0], .int .i64 E]) ?_ rfl ⟨rfl, hb9⟩
  simp [results, Try.results89, go_sem, s0, s2, s4]

set_option maxHeartbeats 1000000 in
theorem Inverse12_bad (ra ca p : Int) (hp : 0 ≤ p) (s : Value) (n : Nat) (x : Nat → Raw) (w : World) (hr : RdL w s n x) (hE : openE ra ca n p (!(true && (ra != ca))) ≠ 0) :
    Calls Try.prog 88 #[.agg #[.int .i64 ra, .int .i64 ca, s], .int .u64 p] w fun e w' => e = .returned (.tuple #[.agg #[.int .i64 0, .int .i64 0, .slice none 0 0], .int .i64 (openE ra ca n p (!(true && (ra != ca))))]) ∧ Below w.heap.size w w' := by
  obtain ⟨a, cap, rfl, hl⟩ := hr.slice
  have hc := fun W => checks_any ra ca a n cap hl p hp true W
  have hbx0 := box_mat w (.int .i64 ra) (.int .i64 ca) (.slice a n cap) 34
  have hal : Below (w.alloc (.cells #[.int .i64 ra, .int .i64 ca, .slice a n cap] 34)).heap.size (w.alloc (.cells #[.int .i64 ra, .int .i64 ca, .slice a n cap] 34)) ((w.alloc (.cells #[.int .i64 ra, .int .i64 ca, .slice a n cap] 34)).alloc (.cells #[.int .i64 0, .int .i64 0, .slice none 0 0] 34)) := (Below.refl _ _).alloc (Nat.le_refl _) _
  have h3 := three_cells (w.alloc (.cells #[.int .i64 ra, .int .i64 ca, .slice a n cap] 34)) (.int .i64 0) (.int .i64 0) (.slice none 0 0) 34
  rw [show (w.alloc (.cells #[.int .i64 ra, .int .i64 ca, .slice a n cap] 34)).heap.size = w.heap.size + 1 by simp] at h3
  have r0 := h3 0 _ rfl
  have r1 := h3 1 _ rfl
  have r2 := h3 2 _ rfl
  have HR0 := Lib.hid (And.intro r0 (And.intro r1 r2))
  have G0 := Lib.hid (stage hbx0.1 hbx0.1.size hal)
  generalize openE ra ca n p (!(true && (ra != ca))) = E at *
  have hEb : (E != 0) = true := by rw [bne_iff_ne]; exact hE
  have HC := Lib.hid hc
  clear hc hr hbx0 hE hal h3 r0 r1 r2
  go_enter Try.func88, Try.ntmps88
  go_wp2_with fail
  refine (HC.out _).mono ?_
  rintro e w1 ⟨rfl, hb1⟩
  have G1 := Lib.hid (stage G0.out.1 G0.out.2 hb1)
  have s0 := cell_stays hb1 HR0.out.1.1
  have s1 := froz_stays hb1 HR0.out.1.1 HR0.out.1.2
  have s2 := cell_stays hb1 HR0.out.2.1.1
  have s3 := froz_stays hb1 HR0.out.2.1.1 HR0.out.2.1.2
  have s4 := cell_stays hb1 HR0.out.2.2.1
  have s5 := froz_stays hb1 HR0.out.2.2.1 HR0.out.2.2.2
  clear hb1
  go_wp2_with fail
  have hb9 := ((G1.out.1.setCell (p := ⟨w.heap.size + 1, 0, none⟩) (Nat.le_succ w.heap.size) (.int .i64 0)).setCell (p := ⟨w.heap.size + 1, 1, none⟩) (Nat.le_succ w.heap.size) (.int .i64 0)).setCell (p := ⟨w.heap.size + 1, 2, none⟩) (Nat.le_succ w.heap.size) (.slice none 0 0)
  refine bodyPost_ret (v := .tuple #[.agg #[.int .i64 0, .int .i64 0, .slice none 0 0], .int .i64 E]) ?_ rfl ⟨rfl, hb9⟩
  simp [results, Try.results88, go_sem, s0, s2, s4]
end Go.Proofs.Ytdlpemmoobbgnaa

namespace Go.Proofs.Ytdlpemmoobbgnaa
open laF

section
variable {q : Nat} [NeZero q]
def prF : Nat → (Nat → Fin q) → Fin q
  | 0, _ => 1
  | n + 1, f => f 0 * prF n (fun i => f (i + 1))
theorem prF_snoc : ∀ (n : Nat) (f : Nat → Fin q), prF (n + 1) f = prF n f * f n
  | 0, f => by show f 0 * 1 = 1 * f 0; grind
  | n + 1, f => by
    show f 0 * prF (n + 1) (fun i => f (i + 1)) = f 0 * prF n (fun i => f (i + 1)) * f (n + 1)
    rw [prF_snoc n]; grind
/-- the determinant of a matrix with zeros below the diagonal -/
theorem dt_tri : ∀ {n : Nat} {M : Nat → Nat → Fin q}, (∀ i j, i < n → j < i → M i j = 0) → dt n M = prF n (fun i => M i i)
  | 0, _, _ => rfl
  | n + 1, M, h => by
    show sm (n + 1) (fun i => laF.sg i * M i 0 * dt n (mnr i M)) = M 0 0 * prF n (fun i => M (i + 1) (i + 1))
    rw [sm_one (k := 0) _ (by omega) (fun i hi hne => by
      show laF.sg i * M i 0 * dt n (mnr i M) = 0
      rw [h i 0 hi (by omega)]; grind)]
    have e : dt n (mnr 0 M) = prF n (fun i => M (i + 1) (i + 1)) := by
      rw [dt_tri (n := n) (M := mnr 0 M) (fun i j hi hj => by
        show M (sk 0 i) (j + 1) = 0
        rw [show sk 0 i = i + 1 from if_neg (by omega)]
        exact h (i + 1) (j + 1) (by omega) (by omega))]
      rfl
    show laF.sg 0 * M 0 0 * dt n (mnr 0 M) = _
    rw [e, show (laF.sg 0 : Fin q) = 1 from rfl]; grind

/-- the product of the diagonal, modulo p -/
def pd (p : Int) (G : Nat → Nat → Int) : Nat → Int
  | 0 => 1
  | i + 1 => pd p G i * G i i % p
theorem pd_bd {p : Int} (hp : 2 ≤ p) (G : Nat → Nat → Int) : ∀ i, 0 ≤ pd p G i ∧ pd p G i < p
  | 0 => by unfold pd; omega
  | i + 1 => ⟨Int.emod_nonneg _ (by omega), Int.emod_lt_of_pos _ (by omega)⟩
theorem ph_pd (G : Nat → Nat → Int) : ∀ i, (ph (pd q G i) : Fin q) = prF i (fun i => ph (G i i))
  | 0 => ph_one
  | i + 1 => by
    rw [prF_snoc]
    show ph (pd q G i * G i i % q) = _
    rw [ph_mod, ph_mul, ph_pd G i]

variable {R r : Nat} {P : Nat → Nat} {G0 G : Nat → Nat → Int} {s : Int}
theorem StI.ge (h : StI q R R R r (r + 1) P G0 G s) : ∀ k, k < r → k ≤ P k
  | 0, _ => Nat.zero_le _
  | k + 1, hk => by have := StI.ge h k (by omega); have := h.mono k (k + 1) (by omega) hk; omega
theorem StI.tri (h : StI q R R R r (r + 1) P G0 G s) : ∀ i j, i < R → j < i → G i j = 0 := fun i j hi hj => by
  by_cases e : i < r
  · exact h.lead i j e (by have := h.ge i e; omega)
  · exact h.rest i j (by omega) hi (by omega)
theorem det12 {x : Nat → Raw} (hp : isPB q = true) (h : StI q R R R r (r + 1) P (resG q R x) G s) : (if s < 0 then ((q : Int) - pd q G R) % q else pd q G R) = detM q R x := by
  have hq := isPB_ge q hp
  have b1 := detM_bd (p := q) (by omega) R x
  have b2 := pd_bd (p := q) (by omega) G R
  have e1 : dt R (phG q G) = prF R (fun i => ph (G i i)) := dt_tri fun i j hi hj => by show ph (G i j) = 0; rw [h.tri i j hi hj]; exact ph_zero
  have e2 := h.re.det
  rw [e1, ← ph_pd, ← detM_dt hp] at e2
  rcases h.sgn with rfl | rfl
  · rw [if_neg (by omega)]
    refine ph_inj b2.1 b2.2 b1.1 b1.2 ?_
    rw [e2, ph_one]; grind
  · rw [if_pos (by omega)]
    refine ph_inj (Int.emod_nonneg _ (by omega)) (Int.emod_lt_of_pos _ (by omega)) b1.1 b1.2 ?_
    rw [ph_mod, ph_sub_p, e2, ph_neg, ph_one]; grind
end
end Go.Proofs.Ytdlpemmoobbgnaa

namespace Go.Proofs.Ytdlpemmoobbgnaa
open Go.RowKit

set_option maxHeartbeats 1000000 in
theorem Det12_bad (ra ca p : Int) (hp : 0 ≤ p) (s : Value) (n : Nat) (x : Nat → Raw) (w : World) (hr : RdL w s n x) (hE : openE ra ca n p (!(true && (ra != ca))) ≠ 0) :
    Calls Try.prog 85 #[.agg #[.int .i64 ra, .int .i64 ca, s], .int .u64 p] w fun e w' => e = .returned (.tuple #[.int .u64 0, .int .i64 (openE ra ca n p (!(true && (ra != ca))))]) ∧ Below w.heap.size w w' := by
  obtain ⟨a, cap, rfl, hl⟩ := hr.slice
  have hc := fun W => checks_any ra ca a n cap hl p hp true W
  have hbx0 := box_mat w (.int .i64 ra) (.int .i64 ca) (.slice a n cap) 34
  have G0 := Lib.hid (And.intro hbx0.1 hbx0.1.size)
  generalize openE ra ca n p (!(true && (ra != ca))) = E at *
  have hEb : (E != 0) = true := by rw [bne_iff_ne]; exact hE
  have HC := Lib.hid hc
  clear hc hr hbx0 hE
  go_enter Try.func85, Try.ntmps85
  go_wp2_with fail
  refine (HC.out _).mono ?_
  rintro e w1 ⟨rfl, hb1⟩
  have G1 := Lib.hid (stage G0.out.1 G0.out.2 hb1)
  clear hb1
  go_wp2_with fail
  go_ret2
  exact ⟨rfl, G1.out.1⟩

set_option maxHeartbeats 4000000 in
set_option maxRecDepth 100000 in
theorem Det12_good (R : Nat) (p : Int) (hR : R ≤ 64) (hp : primeB p = true) (s : Value) (x : Nat → Raw) (w : World) (hr : RdL w s (R * R) x) :
    Calls Try.prog 85 #[.agg #[.int .i64 R, .int .i64 R, s], .int .u64 p] w fun e w' => e = .returned (.tuple #[.int .u64 (detM p R x), .int .i64 0]) ∧ Below w.heap.size w w' := by
  obtain ⟨q, hqp, hq, hz⟩ := prime_nat hp
  obtain ⟨p0, p1⟩ := primeB_bd hp
  obtain ⟨a, cap, rfl, hl⟩ := hr.slice
  have hc := fun W => checks_any R R a (R * R) cap hl p (by omega) true W
  rw [show (!(true && ((R : Int) != R))) = true by simp, openE_good hR hR rfl hp] at hc
  have ht := fun W h => table12_any p (by omega) p1 R R (R * R) hR hR rfl (.slice a (R * R) cap) x W h
  have hres : Res q R R (resG p R x) := by rw [hqp]; exact resG_res (q : Int) (by omega) R R R x
  have hs := fun W (base gb : Nat) (B : Nat → Nat) h1 h2 => stairs12_any q p hqp.symm (by omega) p1 R R R R base gb 0 B (fun _ => 0) (fun _ => R) (resG p R x) (by omega) (by omega) (Nat.le_refl R) hres W h1 h2
  have hdt : ∀ (r : Nat) P G s', StI q R R R r (r + 1) P (resG p R x) G s' → (if s' < 0 then (p - pd p G R) % p else pd p G R) = detM p R x := fun r P G s' h => by
    rw [hqp] at h ⊢; exact det12 hq h
  obtain ⟨D, hD⟩ : ∃ D, D = detM p R x := ⟨_, rfl⟩
  rw [← hD] at hdt ⊢
  have hbx0 := box_mat w (.int .i64 R) (.int .i64 R) (.slice a (R * R) cap) 34
  have hH : Has (w.alloc (.cells #[.int .i64 R, .int .i64 R, .slice a (R * R) cap] 34)) [(_, _), (_, _), (_, _)] := ⟨hbx0.2.1, hbx0.2.2.1, hbx0.2.2.2, trivial⟩
  have H0 := Lib.hid hH
  have G0 := Lib.hid (And.intro hbx0.1 hbx0.1.size)
  have HC := Lib.hid hc
  have HT := Lib.hid ht
  have HS := Lib.hid hs
  have HDT := Lib.hid hdt
  have HRD := Lib.hid hr
  have HQ := Lib.hid hq
  have HQP := Lib.hid hqp
  clear hc ht hs hdt hr hH hbx0 hD hqp hp hq hres
  go_enter Try.func85, Try.ntmps85
  go_wp2_with fail
  refine (HC.out _).mono ?_
  rintro e w1 ⟨rfl, hb1⟩
  have G1 := Lib.hid (stage G0.out.1 G0.out.2 hb1)
  have H1 := Lib.hid (H0.out.below hb1)
  clear hb1
  obtain ⟨x0, x1, x2, -⟩ := H1.out
  dsimp only at x0 x1 x2
  have RD := Lib.hid (HRD.out.below G1.out.1)
  have hwp : IntKind.i64.wrap p = p := IntWalk.i64_in _ (by omega)
  go_wp2_with fail
  refine (HT.out w1 RD.out).mono ?_
  rintro e w6 ⟨gb, B, rfl, hpt, hb6⟩
  have HPT := Lib.hid hpt
  have HB6 := Lib.hid hb6
  have y1 := cell_stays hb6 x1
  clear hpt hb6 x0 x1 x2
  go_wp2_with fail
  refine (HS.out w6 w1.heap.size gb B (HPT.out.grid (by omega)) HB6.out.size).mono ?_
  rintro e w7 ⟨r, P, G, s, pv, B', O', C', rfl, hsr⟩
  obtain ⟨a7, c7, rfl⟩ := own_slice hsr.own
  have HSR := Lib.hid hsr
  have HB7 := Lib.hid (HB6.out.trans (hsr.below.mono (Nat.le_refl _)))
  have hsg := hsr.st.sgn
  have hD := HDT.out r P G s hsr.st
  clear hsr y1
  have HD := Lib.hid hD
  clear hD
  have hsb : (s < 0 ∧ decide (s < 0) = true) ∨ (¬ s < 0 ∧ decide (s < 0) = false) := by
    by_cases e : s < 0
    · exact Or.inl ⟨e, by simp [e]⟩
    · exact Or.inr ⟨e, by simp [e]⟩
  go_wp2_with fail
  go_loopw [11, 12] (fun dv iv wr => ∃ i : Nat, i ≤ R ∧ iv = .int .i64 i ∧ dv = .int .i64 (pd p G i) ∧ wr = w7) (fun _ iv _ => R - (intOf iv).toNat)
  case atStart => exact ⟨0, by omega, rfl, rfl, rfl⟩
  case round =>
    obtain ⟨i, i1, rfl, rfl, rfl⟩ := hrel
    obtain ⟨d0, d1⟩ := pd_bd p0 G i
    by_cases hi : i < R
    · obtain ⟨x0, x1⟩ := HSR.out.st.res i i hi hi
      obtain ⟨y, hy⟩ : ∃ y, y = G i i := ⟨_, rfl⟩
      obtain ⟨k1, k2⟩ := HSR.out.grid.cells i hi
      rw [Nat.zero_add] at k1
      obtain ⟨k3, -⟩ := (HSR.out.grid.rows i hi).get hi hy.symm
      have hcap := HSR.out.grid.caps i hi
      rw [← hy, ← HQP.out] at x1
      rw [← hy] at x0
      have hpd : pd p G (i + 1) = pd p G i * y % p := by rw [hy]; rfl
      have HPD := Lib.hid hpd
      clear hy hpd
      generalize pd p G i = d at *
      obtain ⟨m0, m1⟩ := md.prod_bd d y p d0 d1 x0 x1 p1
      have g1 : (0 : Int) ≤ (i : Int) := by omega
      have g2 : (i : Int) < (R : Int) := by omega
      go_wp2_with fail
      go_roundw
      case rel => exact ⟨i + 1, by omega, by go_num, by rw [HPD.out], by first | trivial | rfl⟩
      case measure => simp [intOf]; omega
    · obtain rfl : R = i := by omega
      generalize pd p G R = d at *
      have hb8 : Below w.heap.size w wr := G1.out.1.trans (HB7.out.mono G1.out.2)
      have HB8 := Lib.hid hb8
      clear hb8
      rcases hsb with ⟨e, eb⟩ | ⟨e, eb⟩
      · have hd := HD.out
        rw [if_pos e] at hd
        have hm1 := Int.emod_nonneg (p - d) (show p ≠ 0 by omega)
        have hm2 := Int.emod_lt_of_pos (p - d) (show 0 < p by omega)
        rw [hd] at hm1 hm2
        have hu1 : IntKind.u64.wrap ((p - d) % p) = (p - d) % p := IntWalk.u64_in _ (by rw [hd]; omega)
        go_wp2_with fail
        go_ret2
        exact ⟨by rw [← hd]; rfl, HB8.out⟩
      · have hd := HD.out
        rw [if_neg (by omega)] at hd
        go_wp2_with fail
        go_ret2
        exact ⟨by rw [← hd]; rfl, HB8.out⟩
end Go.Proofs.Ytdlpemmoobbgnaa
