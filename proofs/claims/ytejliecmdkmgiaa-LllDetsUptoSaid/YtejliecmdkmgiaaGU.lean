/- Plain: a polynomial at a matrix, by multiplying from the highest number down. The walk of charpoly.lift, the number added being read in every world that differs in the matrix alone. The walk of charpoly.At. charpoly.At, Char, LeastPoly, Traces where the matrix is refused; At of too high a degree. The walk of charpoly.Traces. The walk of charpoly.Traces. The walk of trellislaw16.refused. trellislaw16.refused for a square matrix, and for one that is refused; nothing. Plain: division of a polynomial by one whose highest number is 1, as the program does it. The walk of charpoly.DivMonic where the divisor is monic and not longer. -/
import Derived.Test.YtejliecmdkmgiaaGR
import Derived.Test.YtejliecmdkmgiaaGS
import Derived.Test.YtejliecmdkmgiaaGI
set_option linter.unusedVariables false
set_option linter.unusedSimpArgs false
set_option maxHeartbeats 8000000
set_option maxRecDepth 100000
namespace Go.Proofs.Ytejliecmdkmgiaa
open laZ
def hor (n : Nat) (A : Nat → Nat → Int) (E : Nat → Int) (s : Nat) : Nat → Nat → Nat → Int
  | 0 => fun _ _ => 0
  | t + 1 => fun i j => mm n (hor n A E s t) A i j + E (s - (t + 1)) * idm i j
theorem hor_eq (n : Nat) (A : Nat → Nat → Int) (E : Nat → Int) (s : Nat) : ∀ t, t ≤ s → ∀ i j, i < n → j < n → hor n A E s t i j = pmS n A (fun l => E (s - t + l)) t i j
  | 0, _, _, _, _, _ => rfl
  | t + 1, ht, i, j, hi, hj => by
    show mm n (hor n A E s t) A i j + E (s - (t + 1)) * idm i j = sm (t + 1) (fun l => E (s - (t + 1) + l) * pw n A l i j)
    rw [sm_first, mm_congr (A' := pmS n A (fun l => E (s - t + l)) t) (B' := A) (fun l hl => hor_eq n A E s t (by omega) i l hi hl) (fun _ _ => rfl)]
    have h1 : mm n (pmS n A (fun l => E (s - t + l)) t) A i j = sm t (fun l => E (s - (t + 1) + (l + 1)) * pw n A (l + 1) i j) := by
      unfold mm pmS
      rw [sm_congr (n := n) (g := fun k => sm t (fun l => E (s - t + l) * (pw n A l i k * A k j))) (fun k _ => by rw [← sm_mul_r]; exact sm_congr fun l _ => by grind), sm_comm]
      exact sm_congr fun l hl => by
        rw [sm_mul, show s - (t + 1) + (l + 1) = s - t + l by omega]; rfl
    rw [h1]
    show _ + E (s - (t + 1)) * idm i j = E (s - (t + 1) + 0) * idm i j + _
    exact Int.add_comm _ _
theorem hor_all (n : Nat) (A : Nat → Nat → Int) (E : Nat → Int) (s : Nat) {i j : Nat} (hi : i < n) (hj : j < n) : hor n A E s s i j = pmS n A E s i j := by
  rw [hor_eq n A E s s (Nat.le_refl _) i j hi hj]
  unfold pmS
  exact sm_congr fun l _ => by simp only [Nat.sub_self, Nat.zero_add]
theorem zb_max {S T C : Nat} {x y : Int} (hx : ZB S x) (hy : ZB T y) (h1 : S ≤ C) (h2 : T ≤ C) : ZB (C + 1) (x + y) := by
  have a := hx.mono h1
  have b := hy.mono h2
  unfold ZB at *
  rw [Int.pow_succ]
  have hp := pow_pos' (show (0 : Int) < 18446744073709551616 by omega) C
  generalize (18446744073709551616 : Int) ^ C = X at *
  omega
theorem hor_zb {n S P : Nat} {A : Nat → Nat → Int} {E : Nat → Int} (hn : n ≤ 64) (hA : ∀ i j, i < n → j < n → ZB S (A i j)) (s : Nat) (hE : ∀ i, i < s → ZB P (E i)) : ∀ t, t ≤ s → ∀ i j, i < n → j < n → ZB (P + t * (S + 2)) (hor n A E s t i j)
  | 0, _, _, _, _, _ => zb_nil _
  | t + 1, ht, i, j, hi, hj => by
    have h1 := mm_zb hn (hor_zb hn hA s hE t (by omega)) hA i j hi hj
    have h2 : ZB P (E (s - (t + 1)) * idm i j) := by
      unfold idm
      split
      · rw [Int.mul_one]; exact hE _ (by omega)
      · rw [Int.mul_zero]; exact zb_nil _
    show ZB _ (mm n (hor n A E s t) A i j + E (s - (t + 1)) * idm i j)
    have hle : P + t * (S + 2) + S + 1 + 1 = P + (t + 1) * (S + 2) := by rw [Nat.add_mul]; omega
    have h3 := zb_max h1 h2 (Nat.le_refl _) (show P ≤ P + t * (S + 2) + S + 1 by omega)
    rwa [hle] at h3
end Go.Proofs.Ytejliecmdkmgiaa
namespace Go.Proofs.Ytejliecmdkmgiaa
open Go.RowKit Go.Shelf
theorem lift_gen (n lb base S : Nat) (D : Nat → Prop) (E : Nat → Int) (s : Bool) (m : Value) (z : Int) (w : World) (hn : n ≤ 64) (h : PaE w base D lb (n * n) (n * n) E) (hD : D lb) (hDl : ∀ b, D b → b < w.heap.size) (hc : RdZ w (.agg #[.bool s, m]) z) (hcb : ∀ u, w.grownBy u (some lb) → RdZ u (.agg #[.bool s, m]) z)
    (hS : S ≤ 274877906944) (hz : ∀ q, q < n * n → ZB S (E q + z)) :
    Calls Try.prog 91 #[.agg #[.int .i64 n, .int .i64 n, .slice (some ⟨lb, 0, none⟩) (n * n) (n * n)], .agg #[.bool s, m]] w fun e w' => e = .returned (.tuple #[]) ∧ PaE w' base D lb (n * n) (n * n) (liftE n z n E) ∧ w.grownBy w' (some lb) := by
  have hN4 : n * n ≤ 4096 := Nat.mul_le_mul hn hn
  obtain ⟨N, hN⟩ : ∃ N, N = n * n := ⟨_, rfl⟩
  have HN := Lib.hid hN
  rw [← hN] at h hz hN4 ⊢
  obtain ⟨am, ac, an, rfl⟩ := hc.agg
  have HZ := Lib.hid hz
  have hmix : Try.prog.follows .mixedOrders = true := by kernel_rfl
  have hlbW : lb < w.heap.size := h.lt
  have hB1 := bl_alloc w (.cells #[.int .i64 n, .int .i64 n, .slice (some ⟨lb, 0, none⟩) N N] 24)
  have hB2 := bl_alloc (w.alloc (.cells #[.int .i64 n, .int .i64 n, .slice (some ⟨lb, 0, none⟩) N N] 24)) (.cells #[.bool s, .slice am ac an] 49)
  have k1 := three_cells w (.int .i64 n) (.int .i64 n) (.slice (some ⟨lb, 0, none⟩) N N) 24
  have k2 := two_cells (w.alloc (.cells #[.int .i64 n, .int .i64 n, .slice (some ⟨lb, 0, none⟩) N N] 24)) (.bool s) (.slice am ac an) 49
  have hs1 : (w.alloc (.cells #[.int .i64 n, .int .i64 n, .slice (some ⟨lb, 0, none⟩) N N] 24)).heap.size = w.heap.size + 1 := by simp
  rw [hs1] at k2
  have HW := Lib.hid (And.intro (cell_stays hB2 (k1 0 _ rfl).1) (And.intro (cell_stays hB2 (k1 1 _ rfl).1) (And.intro (cell_stays hB2 (k1 2 _ rfl).1) (And.intro k2.1 k2.2.1))))
  have HB := Lib.hid (below_via hB1 hB2)
  have HP := Lib.hid ((h.below hB1).below hB2)
  have HC := Lib.hid ((hc.below hB1).below hB2)
  have HCB := Lib.hid hcb
  have HDL := Lib.hid hDl
  have HD := Lib.hid hD
  clear hN hz h hc hcb hDl hD hB1 hB2 k1 k2 hs1
  go_enter Try.func91, Try.ntmps91
  go_wp2_with fail
  generalize (w.alloc (.cells #[.int .i64 n, .int .i64 n, .slice (some ⟨lb, 0, none⟩) N N] 24)).alloc (.cells #[.bool s, .slice am ac an] 49) = W at *
  go_loopw [7] (fun iv wr => ∃ i : Nat, i ≤ n ∧ iv = .int .i64 i ∧ PaE wr base D lb N N (liftE n z i E) ∧ W.grownBy wr (some lb)) (fun iv _ => n - (intOf iv).toNat)
  case atStart => exact ⟨0, Nat.zero_le _, rfl, HP.out.congr (fun q _ => by unfold liftE; rw [if_neg (by omega)]), gb_refl _ _⟩
  case round =>
    obtain ⟨i, hi, rfl, hp, hg⟩ := hrel
    by_cases hin : i < n
    · obtain ⟨q, hq⟩ : ∃ q, q = i * n + i := ⟨_, rfl⟩
      obtain ⟨hqN, hqe⟩ := idx_lt hin hin hq
      rw [← HN.out] at hqN
      obtain ⟨s1, m1, c1, c2, c3, c4⟩ := hp.cells q hqN
      obtain ⟨a1, n1, p1, rfl⟩ := c3.agg
      have hne : ∀ b, w.heap.size ≤ b → some b ≠ some lb := fun b hb e => by injection e with e; omega
      obtain ⟨w0, w1, w2, w3, w4⟩ := HW.out
      have x0 := hg.cell w0 (hne _ (Nat.le_refl _))
      have x1 := hg.cell w1 (hne _ (Nat.le_refl _))
      have x2 := hg.cell w2 (hne _ (Nat.le_refl _))
      have x3 := hg.cell w3 (hne _ (Nat.le_succ _))
      have x4 := hg.cell w4 (hne _ (Nat.le_succ _))
      have e1 : IntKind.i64.wrap ((i : Int) * n) = (i : Int) * n := IntWalk.i64_in _ (by constructor <;> omega)
      have e2 : IntKind.i64.wrap ((i : Int) * n + i) = (q : Int) := by rw [hqe]; exact IntWalk.i64_in _ (by omega)
      have hq2 : (q : Int) < (N : Int) := by omega
      have hwr : w.heap.size ≤ wr.heap.size := Nat.le_trans HB.out.size hg.size
      have hzc : RdZ wr (.agg #[.bool s, .slice am ac an]) z := HCB.out wr (gb_trans (gb_below HB.out _) hg)
      have hE : liftE n z i E q = E q := by unfold liftE; rw [if_neg (by rw [hq, Nat.mul_comm i n, Nat.mul_add_div (by omega), Nat.div_eq_of_lt hin]; omega)]
      rw [hE] at c3
      have HADD := Lib.hid (zAdd_any _ _ (E q) z wr.drew (c3.1.below (bl_drew _)) (hzc.below (bl_drew _)))
      have HPP := Lib.hid hp
      have HFI := Lib.hid (fun (w3 : World) (v : Value) (hf : FrZ w3 wr.drew.heap.size v (E q + z)) (hb3 : Below wr.drew.heap.size wr.drew w3) => (hp.below (below_via (bl_drew wr) hb3)).putz hqN HD.out hf (HZ.out q hqN) hS (fun j h1 h2 h3 => by have := HDL.out j h3; have h1 : wr.heap.size ≤ j := h1; omega))
      have HG := Lib.hid hg
      have HLE := Lib.hid c3
      have HOW := Lib.hid c4
      have HNE := Lib.hid hne
      have HQ := Lib.hid hq
      clear hp hg c3 c4 hne hq w0 w1 w2 w3 w4 x0 hqe hzc hE
      go_wp2_with fail
      refine region_early (fun u => u.cell? ⟨w.heap.size, 1, none⟩ = some (.int .i64 n) ∧ u.cell? ⟨w.heap.size, 2, none⟩ = some (.slice (some ⟨lb, 0, none⟩) N N) ∧ u.cell? ⟨w.heap.size + 1, 0, none⟩ = some (.bool s) ∧ u.cell? ⟨w.heap.size + 1, 1, none⟩ = some (.slice am ac an) ∧ u.cell? ⟨lb, q * 2, none⟩ = some (.bool s1) ∧ u.cell? ⟨lb, q * 2 + 1, none⟩ = some (.slice a1 n1 p1)) 20 [0, 1, 2, 3, 4, 5, 6, 7, 8, 9, 10, 11, 12, 13, 14, 15, 16, 17, 18] 3 hmix (by kernel_rfl) rfl (by kernel_rfl) (fun _ _ d _ _ h => by cases d <;> exact h) ⟨x1, x2, x3, x4, c1, c2⟩ ?_
      iterate 19 (refine early_take rfl (by rfl) ?_; apply Exists.intro; refine ⟨fun u hu => ?_, ?_⟩; (obtain ⟨u1, u2, u3, u4, u5, u6⟩ := hu; go_simp; rfl); simp only [Act.put, List.setIfInBounds_toArray, List.set_cons_zero, List.set_cons_succ])
      refine early_done ?_
      simp only [marked]
      refine anyL_one (i := 19) (by kernel_rfl) rfl (by rfl) fun K hK => ?_
      go_simp
      refine HADD.out.mono ?_
      rintro e w3 ⟨v, rfl, hf, hb3⟩
      have hb := below_via (bl_drew wr) hb3
      obtain ⟨u1, u2, q1, q2, q3, q4⟩ := (HPP.out.below hb).ready hqN
      obtain ⟨s3, a3, n3, p3, rfl, hfi⟩ := HFI.out w3 v hf hb3
      have HF := Lib.hid hfi
      have HB3 := Lib.hid hb
      refine hK _ _ (fun _ => ⟨cell_stays hb x1, cell_stays hb x2, cell_stays hb x3, cell_stays hb x4, cell_stays hb c1, cell_stays hb c2⟩) ?_
      clear hK K hf hb3 hb hfi
      refine anyL_one (i := 20) (by kernel_rfl) rfl (by rfl) fun K hK => ?_
      go_simp
      refine hK _ _ (fun e => absurd e (by decide)) ?_
      clear hK K
      refine anyL_one (i := 21) (by kernel_rfl) rfl (by rfl) fun K hK => ?_
      go_simp
      refine hK _ _ (fun e => absurd e (by decide)) ?_
      clear hK K
      refine anyL_done (by kernel_rfl) ?_ _
      have HG3 := Lib.hid (gb_trans (gb_trans HG.out (gb_below HB3.out _)) (gb_two w3 lb (q * 2) (q * 2 + 1) (.bool s3) (.slice a3 n3 p3)))
      go_wp2_with fail
      go_roundw
      case rel => exact ⟨i + 1, by omega, by go_num, HF.out.congr (fun t ht => by
        have hq := HQ.out
        have hd1 : q / n = i := by rw [hq, Nat.mul_comm i n, Nat.mul_add_div (by omega), Nat.div_eq_of_lt hin]; rfl
        have hd2 : q % n = i := by rw [hq, Nat.mul_comm i n, Nat.mul_add_mod, Nat.mod_eq_of_lt hin]
        unfold liftE
        by_cases e : t = q
        · rw [if_pos e, e, hd1, hd2, if_pos ⟨by omega, rfl⟩]
        · rw [if_neg e]
          by_cases e2 : t / n = i ∧ t / n = t % n
          · exfalso
            apply e
            have h1 := Nat.div_add_mod t n
            have h2 := Nat.div_add_mod q n
            rw [← h1, ← h2, hd1, hd2, e2.1, ← e2.2, e2.1]
          · by_cases e3 : t / n < i ∧ t / n = t % n
            · rw [if_pos e3, if_pos ⟨by omega, e3.2⟩]
            · rw [if_neg e3, if_neg (fun e4 => e3 ⟨by have : t / n ≠ i := fun e5 => e2 ⟨e5, e4.2⟩; omega, e4.2⟩)]), HG3.out⟩
      case measure => simp [intOf]; omega
    · obtain rfl : i = n := by omega
      have HPP := Lib.hid hp
      have HG := Lib.hid hg
      clear hp hg
      go_wp2_with fail
      go_end0
      exact ⟨rfl, HPP.out, gb_trans (gb_below HB.out _) HG.out⟩
end Go.Proofs.Ytejliecmdkmgiaa
namespace Go.Proofs.Ytejliecmdkmgiaa
open Go.RowKit Go.Shelf
structure AtR (w wr : World) (n mb lb : Nat) (sl : Value) (G : Nat → Int) : Prop where
  below : Below w.heap.size w wr
  pm : w.heap.size + 1 < mb ∧ mb < wr.heap.size
  a : MBox wr w.heap.size n n sl
  r : MBox wr (w.heap.size + 1) 0 0 (.slice none 0 0)
  m : MBox wr mb n n (.slice (some ⟨lb, 0, none⟩) (n * n) (n * n))
  g : PaE wr w.heap.size (fun b => b ≤ lb ∨ b = mb) lb (n * n) (n * n) G
  pl : w.heap.size + 1 < lb
  ml : mb ≠ lb
section
variable {w wr w' W1 : World} {n mb lb lb' : Nat} {sl : Value} {G G' : Nat → Int}
theorem AtR.on (h : AtR w wr n mb lb sl G) (hb : Below wr.heap.size wr w') : AtR w w' n mb lb sl G :=
  ⟨below_via h.below hb, ⟨h.pm.1, Nat.lt_of_lt_of_le h.pm.2 hb.size⟩, h.a.below hb, h.r.below hb, h.m.below hb, h.g.below hb, h.pl, h.ml⟩
theorem AtR.mul (h : AtR w wr n mb lb sl G) (hb : Below wr.heap.size wr W1) (hf : FrE W1 wr.heap.size (fun b => b ≤ lb') lb' (n * n) G') :
    AtR w (stored3 W1 mb (.int .i64 n) (.int .i64 n) (.slice (some ⟨lb', 0, none⟩) (n * n) (n * n))) n mb lb' sl G' := by
  have hg := stored3_gb W1 mb (.int .i64 n) (.int .i64 n) (.slice (some ⟨lb', 0, none⟩) (n * n) (n * n))
  obtain ⟨p1, p2⟩ := h.pm
  have hl := hf.own
  have hbw := below_via h.below hb
  refine ⟨hbw.grown hg hbw.size (fun k hk => by injection hk with hk; omega), ⟨p1, Nat.lt_of_lt_of_le p2 (Nat.le_trans hb.size hg.size)⟩, (h.a.below hb).grown hg (by omega), (h.r.below hb).grown hg (by omega), (h.m.below hb).store, ?_, by omega, by omega⟩
  refine PaE.grown ?_ hg (by omega) (Or.inr rfl)
  exact (hf.mono (show w.heap.size ≤ wr.heap.size from h.below.size)).turnD (D' := fun b => b ≤ lb' ∨ b = mb) (fun b _ hn hd => by
    rcases hd with hd | hd
    · exact hn hd
    · exact hn (by omega))
theorem AtR.lift (h : AtR w wr n mb lb sl G) (hg : wr.grownBy w' (some lb)) (hp : PaE w' w.heap.size (fun b => b ≤ lb ∨ b = mb) lb (n * n) (n * n) G') : AtR w w' n mb lb sl G' := by
  obtain ⟨p1, p2⟩ := h.pm
  have hl := h.pl
  exact ⟨h.below.grown hg h.below.size (fun k hk => by injection hk with hk; omega), ⟨p1, Nat.lt_of_lt_of_le p2 hg.size⟩, h.a.grown hg (by omega), h.r.grown hg (by omega), h.m.grown hg h.ml, hp, hl, h.ml⟩
theorem AtR.congr (h : AtR w wr n mb lb sl G) (hg : ∀ q, q < n * n → G q = G' q) : AtR w wr n mb lb sl G' := { h with g := h.g.congr hg }
theorem AtR.start {w6 w7 : World} (h6 : Below w.heap.size w w6) (hs : w.heap.size + 1 < w6.heap.size) (a6 : MBox w6 w.heap.size n n sl) (r6 : MBox w6 (w.heap.size + 1) 0 0 (.slice none 0 0)) (h7 : Below w6.heap.size w6 w7) (f7 : FrE w7 w6.heap.size (fun b => b ≤ lb) lb (n * n) G) :
    AtR w (w7.alloc (.cells #[.int .i64 n, .int .i64 n, .slice (some ⟨lb, 0, none⟩) (n * n) (n * n)] 24)) n w7.heap.size lb sl G := by
  have hb8 := bl_alloc w7 (.cells #[.int .i64 n, .int .i64 n, .slice (some ⟨lb, 0, none⟩) (n * n) (n * n)] 24)
  have hs8 : (w7.alloc (.cells #[.int .i64 n, .int .i64 n, .slice (some ⟨lb, 0, none⟩) (n * n) (n * n)] 24)).heap.size = w7.heap.size + 1 := by simp
  have hl2 := f7.own
  have hl3 := f7.lt
  have hs7 := h7.size
  have h68 := below_via h7 hb8
  refine ⟨below_via h6 h68, ⟨by omega, by omega⟩, a6.below h68, r6.below h68, MBox.new w7 n n _, PaE.below ?_ hb8, by omega, by omega⟩
  exact (f7.mono h6.size).turnD (fun b hbl hn hd => by
    rcases hd with hd | hd
    · exact hn hd
    · omega)
theorem AtR.added (h : AtR w wr n mb lb sl G) {v : Value} {z : Int} (hz : ∀ u, Below w.heap.size w u → RdZ u v z) : ∀ u, wr.grownBy u (some lb) → RdZ u v z := fun u hg =>
  hz u (h.below.grown hg h.below.size (fun k hk => by injection hk with hk; have := h.pl; omega))
end
theorem two_mats (w : World) (a0 a1 a2 b0 b1 b2 : Value) : Below w.heap.size w ((w.alloc (.cells #[a0, a1, a2] 24)).alloc (.cells #[b0, b1, b2] 24)) := below_via (bl_alloc _ _) (bl_alloc _ _)
theorem two_mbox (w : World) (r c r' c' : Int) (v v' : Value) :
    let W := (w.alloc (.cells #[.int .i64 r, .int .i64 c, v] 24)).alloc (.cells #[.int .i64 r', .int .i64 c', v'] 24)
    MBox W w.heap.size r c v ∧ MBox W (w.heap.size + 1) r' c' v' ∧ W.heap.size = w.heap.size + 2 := by
  intro W
  have h1 := MBox.new w r c v
  have h2 := MBox.new (w.alloc (.cells #[.int .i64 r, .int .i64 c, v] 24)) r' c' v'
  have hs : (w.alloc (.cells #[.int .i64 r, .int .i64 c, v] 24)).heap.size = w.heap.size + 1 := by simp
  rw [hs] at h2
  exact ⟨h1.below (bl_alloc _ _), h2, by show ((w.alloc _).alloc _).heap.size = _; simp⟩
theorem At_good (n S P len : Nat) (x sl : Value) (E A : Nat → Int) (w : World) (hn : n ≤ 64) (hS : S ≤ 100000000) (hP : P ≤ 200000000000) (hx : RdE w x len E) (hs : szE E len ≤ 257) (hE : ∀ i, i < len → ZB P (E i)) (hr : RdE w sl (n * n) A) (hA : ∀ q, q < n * n → ZB S (A q)) :
    Calls Try.prog 28 #[x, .agg #[.int .i64 n, .int .i64 n, sl]] w fun e w' => ∃ lb, e = .returned (.tuple #[.agg #[.int .i64 n, .int .i64 n, .slice (some ⟨lb, 0, none⟩) (n * n) (n * n)], .int .i64 0]) ∧
      FrE w' w.heap.size (fun b => b ≤ lb) lb (n * n) (flat n (pmS n (mtx n A) E (szE E len))) ∧ Below w.heap.size w w' := by
  have hmix : Try.prog.follows .mixedOrders = true := by kernel_rfl
  have hK4 : n * n ≤ 4096 := Nat.mul_le_mul hn hn
  have hsl := szE_le E len
  have hlen := hx.le_n
  obtain ⟨ax, cx, rfl, hcx⟩ := hx.slice
  obtain ⟨a, cap, rfl, hcap⟩ := hr.slice
  have hsz := fun (u : World) (hu : Below w.heap.size w u) => csize_any _ len E u (hx.below hu)
  obtain ⟨s, hse⟩ : ∃ s, s = szE E len := ⟨_, rfl⟩
  rw [← hse] at hs hsl ⊢
  simp only [← hse] at hsz
  have hhz := hor_zb (P := P) hn (mtx_zb hA) s (fun i hi => hE i (by omega))
  obtain ⟨N, hN⟩ : ∃ N, N = n * n := ⟨_, rfl⟩
  have hsq := fun (u : World) => square_any n n a N cap (by omega) u
  rw [sqE_ok hn hN] at hsq
  have hb0 := two_mats w (.int .i64 n) (.int .i64 n) (.slice a N cap) (.int .i64 0) (.int .i64 0) (.slice none 0 0)
  obtain ⟨hbx, hbr, hs0⟩ := two_mbox w n n 0 0 (.slice a N cap) (.slice none 0 0)
  have HSQ := Lib.hid hsq
  have HSZ := Lib.hid hsz
  have HB := Lib.hid hb0
  have HBX := Lib.hid hbx
  have HBR := Lib.hid hbr
  have HS0 := Lib.hid hs0
  have HX := Lib.hid hx
  have HR := Lib.hid hr
  have HA := Lib.hid hA
  have HE := Lib.hid hE
  have HHZ := Lib.hid hhz
  have HN := Lib.hid hN
  have x0 := hbx.m0
  have x1 := hbx.m1
  have x2 := hbx.m2
  rw [← hN] at hK4 ⊢
  clear hsq hsz hb0 hbx hbr hs0 hx hr hA hE hhz hN hse
  go_enter Try.func28, Try.ntmps28
  go_upto_region 1 with fail
  generalize (w.alloc (.cells #[.int .i64 n, .int .i64 n, .slice a N cap] 24)).alloc (.cells #[.int .i64 0, .int .i64 0, .slice none 0 0] 24) = W at *
  go_wp2_with fail
  (refine (HSQ.out W).mono ?_)
  rintro e w3 ⟨rfl, hb3⟩
  replace HB := Lib.hid (below_via HB.out hb3)
  replace HBX := Lib.hid (HBX.out.below hb3)
  replace HBR := Lib.hid (HBR.out.below hb3)
  have HS3 := Lib.hid (show w.heap.size + 1 < w3.heap.size by have := HS0.out; have := hb3.size; omega)
  clear hb3 HSQ HS0 x0 x1 x2
  have w0 : IntKind.i64.wrap ((s : Int) - 1) = (s : Int) - 1 := IntWalk.i64_in _ (by omega)
  have hgt : ¬ (256 : Int) < (s : Int) - 1 := by omega
  go_wp2_with fail
  (refine (HSZ.out w3 HB.out).mono ?_)
  rintro e w4 ⟨rfl, hb4⟩
  replace HB := Lib.hid (below_via HB.out hb4)
  replace HBX := Lib.hid (HBX.out.below hb4)
  replace HBR := Lib.hid (HBR.out.below hb4)
  replace HS3 := Lib.hid (Nat.lt_of_lt_of_le HS3.out hb4.size)
  clear hb4 HSZ
  have x0 := HBX.out.m0
  have x1 := HBX.out.m1
  have x2 := HBX.out.m2
  go_wp2_with fail
  (refine (Zero_good n n w4 hn hn).mono ?_)
  rintro e w5 ⟨lb, rfl, hf5, hb5⟩
  have hst := AtR.start HB.out HS3.out HBX.out HBR.out hb5 hf5
  have HST := Lib.hid (hst.congr (G' := flat n (hor n (mtx n A) E s 0)) (fun q _ => rfl))
  clear hst hf5 hb5 HB HBX HBR HS3 x0 x1 x2
  go_upto_region 8 with fail
  obtain ⟨mb, hmb⟩ : ∃ mb, mb = w5.heap.size := ⟨_, rfl⟩
  rw [← hmb] at HST ⊢
  clear hmb
  generalize w5.alloc (.cells #[.int .i64 n, .int .i64 n, .slice (some ⟨lb, 0, none⟩) (n * n) (n * n)] 24) = w6 at *
  obtain ⟨T, hT⟩ : ∃ T, T = P + 257 * (S + 2) := ⟨_, rfl⟩
  have hT2 : T ≤ 225700000514 := by omega
  have hPT : P ≤ T := by omega
  have hzt := fun (t : Nat) (ht : t ≤ s) => show ∀ q, q < n * n → ZB T (flat n (hor n (mtx n A) E s t) q) from flat_zb fun i j hi hj => (HHZ.out t ht i j hi hj).mono (by rw [hT]; exact Nat.add_le_add_left (Nat.mul_le_mul_right _ (by omega)) _)
  have HZT := Lib.hid hzt
  clear hT hzt HHZ
  go_wp2_with fail
  go_loopw [9, 10] (fun ev iv wr => ev = .int .i64 0 ∧ ∃ t lb : Nat, t ≤ s ∧ iv = .int .i64 ((s : Int) - 1 - t) ∧ AtR w wr n mb lb (.slice a N cap) (flat n (hor n (mtx n A) E s t))) (fun _ iv _ => (intOf iv + 1).toNat)
  case atStart => exact ⟨rfl, 0, lb, Nat.zero_le _, by simp, HST.out⟩
  case round =>
    clear HST
    obtain ⟨rfl, t, lb, ht, rfl, hrel⟩ := hrel
    obtain ⟨z, hz⟩ : ∃ z : Int, z = (s : Int) - 1 - t := ⟨_, rfl⟩
    rw [← hz]
    by_cases hts : t < s
    · obtain ⟨i, hi⟩ : ∃ i, i = s - (t + 1) := ⟨_, rfl⟩
      obtain rfl : z = (i : Int) := by omega
      clear hz
      have hge : (0 : Int) ≤ (i : Int) := by omega
      have wi : IntKind.i64.wrap ((i : Int) - 1) = (i : Int) - 1 := IntWalk.i64_in _ (by omega)
      have hil : (i : Int) < (len : Int) := by omega
      have hil2 : i < len := by omega
      have hmul := Mul_good n n n T S _ _ (flat n (hor n (mtx n A) E s t)) A wr hn hn hn (by omega) (hrel.g.rd (Nat.le_refl _) (by rw [← HN.out]; omega)) (HR.out.below hrel.below) (HZT.out t ht) HA.out
      rw [← HN.out] at hmul
      have HMUL := Lib.hid hmul
      have HREL := Lib.hid hrel
      have HI := Lib.hid hi
      have x0 := hrel.a.m0
      have x1 := hrel.a.m1
      have x2 := hrel.a.m2
      have m0 := hrel.m.m0
      have m1 := hrel.m.m1
      have m2 := hrel.m.m2
      rw [← HN.out] at m2
      clear hmul hrel hi
      go_wp2_with fail
      (refine HMUL.out.mono ?_)
      rintro e w9 ⟨l2, rfl, hf9, hb9⟩
      rw [HN.out] at hf9
      have hr2 := HREL.out.mul hb9 hf9
      have hr3 := hr2.congr (fun q hq => mul_flat' hq A (hor n (mtx n A) E s t))
      have hm9 := HREL.out.m.below hb9
      have m0 := hm9.m0
      have m1 := hm9.m1
      have m2 := hm9.m2
      have f0 := hm9.f0
      have f1 := hm9.f1
      have f2 := hm9.f2
      rw [← HN.out] at m2
      rw [← HN.out] at hr3
      obtain ⟨wa, hwa⟩ : ∃ wa, wa = ((w9.setCell ⟨mb, 0, none⟩ (.int .i64 n)).setCell ⟨mb, 1, none⟩ (.int .i64 n)).setCell ⟨mb, 2, none⟩ (.slice (some ⟨l2, 0, none⟩) N N) := ⟨_, rfl⟩
      have HR3 := Lib.hid (show AtR w wa n mb l2 (.slice a N cap) (flat n (laZ.mm n (hor n (mtx n A) E s t) (mtx n A))) by rw [hwa]; exact hr3)
      clear hr2 hr3 hm9 hf9 hb9 HREL HMUL x0 x1 x2
      go_upto_region 12 with fail
      rw [← hwa]
      clear hwa m0 m1 m2 f0 f1 f2
      have m0 := HR3.out.m.m0
      have m1 := HR3.out.m.m1
      have m2 := HR3.out.m.m2
      rw [← HN.out] at m2
      obtain ⟨bp, op, sp, mp, rfl, p1, p2, p3⟩ := HX.out.get hil2
      have hmz := mm_zb hn (fun i j hi hj => by have := HZT.out t ht (i * n + j) (idx_lt hi hj rfl).1; rwa [at_flat hj] at this) (mtx_zb HA.out)
      have hlf := lift_gen n l2 w.heap.size (T + S + 1 + 1) (fun b => b ≤ l2 ∨ b = mb) _ sp mp (E i) wa.drew hn (HR3.out.on (bl_drew wa)).g (Or.inl (Nat.le_refl _)) (fun b hb => by
        have h1 := HR3.out.pm
        have h2 := HR3.out.g.lt
        show b < wa.heap.size
        omega) (p3.below (HR3.out.on (bl_drew wa)).below) ((HR3.out.on (bl_drew wa)).added fun u hu => p3.below hu) (by omega) (fun q hq => zb_max (flat_zb hmz q hq) (HE.out i hil2) (Nat.le_refl _) (by omega))
      rw [← HN.out] at hlf
      have p4 := cell_stays HR3.out.below p1
      have p5 := cell_stays HR3.out.below p2
      obtain ⟨ap, np, cp, rfl⟩ := p3.agg
      have HLF := Lib.hid hlf
      have HP12 := Lib.hid (And.intro p1 p2)
      clear hlf hmz p1 p2 p3
      refine region_early (fun u => u.cell? ⟨mb, 0, none⟩ = some (.int .i64 n) ∧ u.cell? ⟨mb, 1, none⟩ = some (.int .i64 n) ∧ u.cell? ⟨mb, 2, none⟩ = some (.slice (some ⟨l2, 0, none⟩) N N) ∧ u.cell? ⟨bp, op + i * 2, none⟩ = some (.bool sp) ∧ u.cell? ⟨bp, op + i * 2 + 1, none⟩ = some (.slice ap np cp)) 6 [0, 1, 2, 3, 4] 1 hmix (by kernel_rfl) rfl (by kernel_rfl) (fun _ _ d _ _ h => by cases d <;> exact h) ⟨m0, m1, m2, p4, p5⟩ ?_
      iterate 5 (refine early_take rfl (by rfl) ?_; apply Exists.intro; refine ⟨fun u hu => ?_, ?_⟩; (obtain ⟨u_1, u_2, u_3, u_4, u_5⟩ := hu; go_simp; rfl); simp only [Act.put, List.getElem_toArray, List.getElem_cons_zero, List.getElem_cons_succ, List.setIfInBounds_toArray, List.set_cons_zero, List.set_cons_succ])
      refine early_done ?_
      simp only [marked]
      refine anyL_one (i := 5) (by kernel_rfl) rfl (by rfl) fun J hJ => ?_
      go_simp
      refine HLF.out.mono ?_
      rintro e wb ⟨rfl, hp, hg⟩
      rw [HN.out] at hp
      have hr6 := ((HR3.out.on (bl_drew wa)).lift hg hp).congr (G' := flat n (hor n (mtx n A) E s (t + 1))) (fun q hq => by
        rw [lift_flat hq, HI.out]; rfl)
      have HR6 := Lib.hid hr6
      have n2 := hr6.m.m2
      rw [← HN.out] at n2
      refine hJ _ _ (fun _ => ⟨hr6.m.m0, hr6.m.m1, n2, cell_stays hr6.below HP12.out.1, cell_stays hr6.below HP12.out.2⟩) ?_
      clear hJ J hr6 hp hg n2 HLF HR3 m0 m1 m2 p4 p5
      refine anyL_done (by kernel_rfl) ?_ _
      go_wp2_with fail
      go_roundw
      case rel => exact ⟨rfl, t + 1, l2, by omega, by have := HI.out; congr 1; omega, HR6.out⟩
      case measure => first | (simp [intOf]; done) | (simp [intOf]; omega)
    · obtain rfl : t = s := by omega
      obtain rfl : z = -1 := by omega
      clear hz
      have x0 := hrel.r.m0
      have x1 := hrel.r.m1
      have x2 := hrel.r.m2
      have v0 := hrel.r.f0
      have v1 := hrel.r.f1
      have v2 := hrel.r.f2
      have m0 := hrel.m.m0
      have m1 := hrel.m.m1
      have m2 := hrel.m.m2
      rw [← HN.out] at m2
      have hg := stored3_gb wr (w.heap.size + 1) (.int .i64 n) (.int .i64 n) (.slice (some ⟨lb, 0, none⟩) N N)
      have hne := hrel.pl
      have hp := ((hrel.g.grown hg (by omega) (Or.inl (by omega))).turnD (D' := fun b => b ≤ lb) (fun b _ hn hd => hn (Or.inl hd))).congr (F := flat n (pmS n (mtx n A) E t)) (fun q hq => by
        obtain ⟨h1, h2, -⟩ := flat_lt hq
        exact hor_all n (mtx n A) E t h1 h2)
      rw [← HN.out] at hp
      have HF := Lib.hid hp
      have HBL := Lib.hid (hrel.below.grown hg hrel.below.size (fun k hk => by injection hk with hk; omega))
      clear hg hne hrel hp
      go_wp2_with fail
      refine bodyPost_ret (v := .tuple #[.agg #[.int .i64 n, .int .i64 n, .slice (some ⟨lb, 0, none⟩) N N], .int .i64 0]) ?_ rfl ⟨lb, rfl, HF.out, HBL.out⟩
      simp [results, Try.results28, go_sem, x0, x1, x2]
end Go.Proofs.Ytejliecmdkmgiaa
namespace Go.Proofs.Ytejliecmdkmgiaa
open Go.RowKit Go.Shelf
end Go.Proofs.Ytejliecmdkmgiaa
namespace Go.Proofs.Ytejliecmdkmgiaa
open Go.RowKit Go.Shelf
theorem wp_pushInt {wr : World} {ops : Array Oper} {rest : List Oper} {o : Oper} {a : Act} {Q : Exit → Act → World → Prop} (hgd : o.guard = none) (s x : Operand)
    (ho : o.op = .call { callee := .builtin .append, args := #[s, x], argTypes := #[22, 22] })
    {base : Nat} {v : Value} {n : Nat} {xs : List Value} (hown : wr.ownsRow base 49 2 v n xs) (hs : a.eval s = v) {u1 u2 : Value} {nb : Nat} (hx : a.eval x = .slice (some ⟨nb, 0, none⟩) 1 1) (hnb : nb = wr.heap.size) (h1 : u1.oneCell' = true) (h2 : u2.oneCell' = true) (hb : base ≤ wr.heap.size) (hn : n ≤ 1048576)
    (h : ∀ g cap w', w'.ownsRow base 49 2 (.slice (some ⟨g, 0, none⟩) (n + 1) cap) (n + 1) (xs ++ [u1, u2]) → wr.grownBy w' v.ownBlock → (v.ownBlock = some g ∨ wr.heap.size ≤ g) → g < w'.heap.size → wpList Try.prog ops Q rest (a.put o.dst (.slice (some ⟨g, 0, none⟩) (n + 1) cap)) w') :
    wpList Try.prog ops Q (o :: rest) a (wr.alloc (.cells #[u1, u2] 49)) := by
  subst hnb
  obtain ⟨i0, hi, hz0, hz1, hz2⟩ := info_parts infoI
  have hba := bl_alloc wr (.cells #[u1, u2] 49)
  have o3 := own_below hown hba
  refine wpList_append_lies _ hgd s x _ ho base 49 i0 (.agg #[.bool false, .slice none 0 0]) 2 32 Try.underlying22 hi hz0 hz1 hz2 rfl (by decide) v n _ hs o3 ⟨wr.heap.size, 0, none⟩ 1 1 [u1, u2] hx rfl ?_ ?_ (by omega) (by unfold maxLen; omega) (by omega) (Nat.le_trans hb hba.size) _ rfl fun g cap w' g1 g2 g3 g4 => h g cap w' g1 (gb_trans (gb_below hba _) g2) (g3.imp id fun e => by rw [e]; exact hba.size) g4
  · intro j y hj
    match j, hj with
    | 0, hj => simp at hj; subst hj; simp [Addr.add]
    | 1, hj => simp at hj; subst hj; simp [Addr.add]
  · intro y hy
    simp at hy
    rcases hy with rfl | rfl
    · exact h1
    · exact h2
structure TrR (w wr : World) (n mb lb t : Nat) (sl v : Value) (G E : Nat → Int) (M : Nat → Value) : Prop where
  below : Below w.heap.size w wr
  pm : w.heap.size < mb ∧ mb < wr.heap.size
  a : MBox wr w.heap.size n n sl
  m : MBox wr mb n n (.slice (some ⟨lb, 0, none⟩) (n * n) (n * n))
  g : RdE wr (.slice (some ⟨lb, 0, none⟩) (n * n) (n * n)) (n * n) G
  own : wr.ownsRow (w.heap.size + 1) 49 2 v t (flatI (fun i => .bool (decide (E i < 0))) M t)
  num : ∀ i, i < t → FrZ wr (mb + 1) (.agg #[.bool (decide (E i < 0)), M i]) (E i)
  vm : v.ownBlock ≠ some mb
section
variable {w wr w' W1 : World} {n mb lb t lb' : Nat} {sl v : Value} {G G' E : Nat → Int} {M : Nat → Value}
structure TrS (w wr : World) (n mb lb t : Nat) (sl v : Value) (G E : Nat → Int) (M : Nat → Value) : Prop where
  r : TrR w wr n mb lb t sl v G E M
  p : PaE wr (w.heap.size + 1) (fun b => b ≤ lb) lb (n * n) (n * n) G
  vl : ∀ b, v.ownBlock = some b → b < lb
theorem TrS.on (h : TrS w wr n mb lb t sl v G E M) (hb : Below wr.heap.size wr w') : TrS w w' n mb lb t sl v G E M :=
  ⟨⟨below_via h.r.below hb, ⟨h.r.pm.1, Nat.lt_of_lt_of_le h.r.pm.2 hb.size⟩, h.r.a.below hb, h.r.m.below hb, h.r.g.below hb, own_below h.r.own hb, fun i hi => (h.r.num i hi).below hb, h.r.vm⟩, h.p.below hb, h.vl⟩
theorem TrR.mul (h : TrR w wr n mb lb t sl v G E M) (hn : n * n ≤ 1048576) (hb : Below wr.heap.size wr W1) (hf : FrE W1 wr.heap.size (fun b => b ≤ lb') lb' (n * n) G') :
    TrS w (stored3 W1 mb (.int .i64 n) (.int .i64 n) (.slice (some ⟨lb', 0, none⟩) (n * n) (n * n))) n mb lb' t sl v G' E M := by
  have hg := stored3_gb W1 mb (.int .i64 n) (.int .i64 n) (.slice (some ⟨lb', 0, none⟩) (n * n) (n * n))
  obtain ⟨p1, p2⟩ := h.pm
  have hl := hf.own
  have hbw := below_via h.below hb
  have hp := (hf.mono (show w.heap.size + 1 ≤ wr.heap.size by omega)).grown hg (by omega) (show mb ≤ lb' by omega)
  exact ⟨⟨hbw.grown hg hbw.size (fun k hk => by injection hk with hk; omega), ⟨p1, Nat.lt_of_lt_of_le p2 (Nat.le_trans hb.size hg.size)⟩, (h.a.below hb).grown hg (by omega), (h.m.below hb).store, hp.rd (Nat.le_refl _) hn, (own_below h.own hb).kept hg (Or.inr h.vm), fun i hi => ((h.num i hi).below hb).far hg (by omega), h.vm⟩, hp, fun b e => Nat.lt_of_lt_of_le (h.own.lt b e).2 hl⟩
theorem TrS.push (h : TrS w wr n mb lb t sl v G E M) (hn : n * n ≤ 1048576) {z : Int} {mv : Value} (hz : FrZ wr (mb + 1) (.agg #[.bool (decide (z < 0)), mv]) z) {g cap : Nat}
    (ho : w'.ownsRow (w.heap.size + 1) 49 2 (.slice (some ⟨g, 0, none⟩) (t + 1) cap) (t + 1) (flatI (fun i => .bool (decide (E i < 0))) M t ++ [.bool (decide (z < 0)), mv])) (hg : wr.grownBy w' v.ownBlock) (hat : v.ownBlock = some g ∨ wr.heap.size ≤ g) (hlt : g < w'.heap.size) :
    TrR w w' n mb lb (t + 1) sl (.slice (some ⟨g, 0, none⟩) (t + 1) cap) G (fun i => if i = t then z else E i) (fun i => if i = t then mv else M i) := by
  have hol := h.r.own.lt
  obtain ⟨p1, p2⟩ := h.r.pm
  have hp := h.p.grow hg (fun d hd => ⟨by have := h.vl d hd; omega, Nat.le_of_lt (h.vl d hd)⟩)
  refine ⟨h.r.below.grown hg h.r.below.size (fun k hk => by have := hol k hk; omega), ⟨p1, Nat.lt_of_lt_of_le p2 hg.size⟩, h.r.a.grow hg (fun d hd => by have := hol d hd; omega), h.r.m.grow hg (fun d hd e => h.r.vm (by rw [hd, e])), hp.rd (Nat.le_refl _) hn, ?_, fun i hi => ?_, fun e => ?_⟩
  · show w'.ownsRow _ _ 2 _ (t + 1) (flatI _ _ t ++ [_, _])
    rw [flatI_congr (b' := fun i => .bool (decide (E i < 0))) (m' := M) (fun i hi => ⟨by simp only [if_neg (Nat.ne_of_lt hi)], by simp only [if_neg (Nat.ne_of_lt hi)]⟩)]
    simp only [if_true]
    exact ho
  · show FrZ w' (mb + 1) (.agg #[.bool (decide ((if i = t then z else E i) < 0)), if i = t then mv else M i]) (if i = t then z else E i)
    by_cases e : i = t
    · simp only [if_pos e]
      exact hz.grow_tag h.r.own hg
    · simp only [if_neg e]
      exact (h.r.num i (by omega)).grow_tag h.r.own hg
  · have e2 : g = mb := by simpa [Value.ownBlock] using e
    rcases hat with hat | hat
    · exact h.r.vm (by rw [hat, e2])
    · omega
theorem TrR.read (h : TrR w wr n mb lb t sl v G E M) (hn : t ≤ 1048576) {S : Nat} (hS : S ≤ 274877906944) (hz : ∀ i, i < t → ZB S (E i)) : RdE wr v t E := by
  obtain ⟨o0, o1⟩ := h.own
  rcases o1 with ⟨rfl, rfl⟩ | ⟨g, cap, cur, rfl, -, h3, h4, -, -, h5⟩
  · exact ⟨none, 0, rfl, Nat.le_refl _, by omega, fun h => absurd h (by omega)⟩
  · refine ⟨some ⟨g, 0, none⟩, cap, rfl, h4, hn, fun _ => ⟨g, 0, rfl, fun i hi => ⟨decide (E i < 0), M i, ?_, ?_, (h.num i hi).rd (hz i hi) hS⟩⟩⟩
    · have := (flatI_at (fun i => Value.bool (decide (E i < 0))) M t i hi).1
      rw [← h5, List.getElem?_take, if_pos (by omega)] at this
      rw [Nat.zero_add, cell_of_row _ _ _ _ _ _ h3]; simpa using this
    · have := (flatI_at (fun i => Value.bool (decide (E i < 0))) M t i hi).2
      rw [← h5, List.getElem?_take, if_pos (by omega)] at this
      rw [Nat.zero_add, cell_of_row _ _ _ _ _ _ h3]; simpa using this
end
end Go.Proofs.Ytejliecmdkmgiaa
namespace Go.Proofs.Ytejliecmdkmgiaa
open Go.RowKit Go.Shelf
def trP (n : Nat) (A : Nat → Nat → Int) (i : Nat) : Int := laZ.sm n (fun l => pw n A (i + 1) l l)
theorem trP_zb {n S : Nat} {A : Nat → Nat → Int} (hn : n ≤ 64) (hA : ∀ i j, i < n → j < n → ZB S (A i j)) {i : Nat} (hi : i < 256) : ZB (256 * (S + 1) + 1 + 1) (trP n A i) := by
  have h := trS_zb hn (flat_zb (fun a b ha hb => (pw_zb hn hA (i + 1) a b ha hb).mono (show (i + 1) * (S + 1) + 1 ≤ 256 * (S + 1) + 1 from Nat.succ_le_succ (Nat.mul_le_mul_right _ (by omega))))) (Nat.le_refl n)
  rwa [tr_flat] at h
theorem Traces_arg (n : Nat) (k : Int) (a : Option Addr) (N cap : Nat) (w : World) (hn : n ≤ 64) (hN : N = n * n) (hk : k < 0 ∨ (0 ≤ k ∧ 256 < k)) :
    Calls Try.prog 32 #[.agg #[.int .i64 n, .int .i64 n, .slice a N cap], .int .i64 k] w fun e w' => e = .returned (.tuple #[.slice none 0 0, .int .i64 3]) ∧ Below w.heap.size w w' := by
  have hK4 : n * n ≤ 4096 := Nat.mul_le_mul hn hn
  have hsq := fun (u : World) => square_any n n a N cap (by omega) u
  rw [sqE_ok hn hN] at hsq
  have hb := bl_alloc w (.cells #[.int .i64 n, .int .i64 n, .slice a N cap] 24)
  have hbx := MBox.new w n n (.slice a N cap)
  have HSQ := Lib.hid hsq
  have HB := Lib.hid hb
  have x0 := hbx.m0
  have x1 := hbx.m1
  have x2 := hbx.m2
  clear hsq hb hbx hN hK4
  go_enter Try.func32, Try.ntmps32
  go_upto_region 1 with fail
  generalize w.alloc (.cells #[.int .i64 n, .int .i64 n, .slice a N cap] 24) = W at *
  go_wp2_with fail
  (refine (HSQ.out W).mono ?_)
  rintro e w3 ⟨rfl, hb3⟩
  have HB3 := Lib.hid (below_via HB.out hb3)
  clear hb3 HSQ HB x0 x1 x2
  rcases hk with hk | ⟨hk, hk2⟩
  · go_wp2_with fail
    refine bodyPost_ret (v := .tuple #[.slice none 0 0, .int .i64 3]) ?_ rfl ⟨rfl, HB3.out⟩
    simp [results, Try.results32, go_sem]
  · have hk3 : ¬ k < 0 := by omega
    go_wp2_with fail
    refine bodyPost_ret (v := .tuple #[.slice none 0 0, .int .i64 3]) ?_ rfl ⟨rfl, HB3.out⟩
    simp [results, Try.results32, go_sem]
theorem Traces_good (n k S : Nat) (sl : Value) (A : Nat → Int) (w : World) (hn : n ≤ 64) (hk : k ≤ 256) (hS : S ≤ 200000000) (hr : RdE w sl (n * n) A) (hA : ∀ q, q < n * n → ZB S (A q)) :
    Calls Try.prog 32 #[.agg #[.int .i64 n, .int .i64 n, sl], .int .i64 k] w fun e w' => ∃ v, e = .returned (.tuple #[v, .int .i64 0]) ∧ RdE w' v k (trP n (mtx n A)) ∧ Below w.heap.size w w' := by
  have hmix : Try.prog.follows .mixedOrders = true := by kernel_rfl
  have hK4 : n * n ≤ 4096 := Nat.mul_le_mul hn hn
  have hpz := fun (t : Nat) (ht : t ≤ 256) i j hi hj => (pw_zb hn (mtx_zb hA) t i j hi hj).mono (show t * (S + 1) + 1 ≤ 256 * (S + 1) + 1 from Nat.succ_le_succ (Nat.mul_le_mul_right _ ht))
  have htz := fun (i : Nat) (hi : i < 256) => trP_zb hn (mtx_zb hA) hi
  obtain ⟨T, hT⟩ : ∃ T, T = 256 * (S + 1) + 1 := ⟨_, rfl⟩
  have hT2 : T ≤ 51200000257 := by omega
  rw [← hT] at hpz htz
  clear hT
  obtain ⟨a, cap, rfl, hcap⟩ := hr.slice
  obtain ⟨N, hN⟩ : ∃ N, N = n * n := ⟨_, rfl⟩
  have hsq := fun (u : World) => square_any n n a N cap (by omega) u
  rw [sqE_ok hn hN] at hsq
  have hb0 := bl_alloc w (.cells #[.int .i64 n, .int .i64 n, .slice a N cap] 24)
  have hbx := MBox.new w n n (.slice a N cap)
  have hs0 : (w.alloc (.cells #[.int .i64 n, .int .i64 n, .slice a N cap] 24)).heap.size = w.heap.size + 1 := by simp
  have hN5 : N ≤ 4096 := by omega
  have HSQ := Lib.hid hsq
  have HB := Lib.hid hb0
  have HBX := Lib.hid hbx
  have HS0 := Lib.hid hs0
  have HR := Lib.hid hr
  have HA := Lib.hid hA
  have HPZ := Lib.hid hpz
  have HTZ := Lib.hid htz
  have HN := Lib.hid hN
  have x0 := hbx.m0
  have x1 := hbx.m1
  have x2 := hbx.m2
  rw [← hN]
  clear hsq hb0 hbx hr hA hpz htz hN hs0 hK4
  go_enter Try.func32, Try.ntmps32
  go_upto_region 1 with fail
  generalize w.alloc (.cells #[.int .i64 n, .int .i64 n, .slice a N cap] 24) = W at *
  go_wp2_with fail
  (refine (HSQ.out W).mono ?_)
  rintro e w3 ⟨rfl, hb3⟩
  have HB3 := Lib.hid (below_via HB.out hb3)
  have HX3 := Lib.hid (HBX.out.below hb3)
  have HS3 := Lib.hid (show w.heap.size + 1 ≤ w3.heap.size by have := HS0.out; have := hb3.size; omega)
  clear hb3 HB HBX HSQ HS0 x0 x1 x2
  have hk1 : ¬ (k : Int) < 0 := by omega
  have hk2 : ¬ (256 : Int) < (k : Int) := by omega
  have mk : ∀ u : World, (Instr.makeSlice 22 (.int .i64 0) (.int .i64 (k : Int))).run Try.prog u = .ok (.slice (some ⟨u.heap.size, 0, none⟩) 0 k) (u.alloc (.cells (madeCells #[.bool false, .slice none 0 0] (k * 2)) 49)) := mk_intsN 0 k (Nat.zero_le _) (by omega)
  have how := World.ownsRow_made (base := w.heap.size + 1) (e := 49) (size := 2) w3 (madeCells #[.bool false, .slice none 0 0] (k * 2)) k HS3.out (by unfold maxLen; omega) (by simp [madeCells])
  have hba := bl_alloc w3 (.cells (madeCells #[.bool false, .slice none 0 0] (k * 2)) 49)
  obtain ⟨vb, hvb⟩ : ∃ vb, vb = w3.heap.size := ⟨_, rfl⟩
  rw [← hvb] at how
  go_upto_region 7 with fail
  rw [← hvb]
  have HVB := Lib.hid (show vb < (w3.alloc (.cells (madeCells #[.bool false, .slice none 0 0] (k * 2)) 49)).heap.size by rw [hvb]; simp)
  clear hvb mk
  have HB4 := Lib.hid (below_via HB3.out hba)
  have HX4 := Lib.hid (HX3.out.below hba)
  have HOW := Lib.hid how
  clear hba how HB3 HX3 HS3
  generalize w3.alloc (.cells (madeCells #[.bool false, .slice none 0 0] (k * 2)) 49) = w4 at *
  have x0 := HX4.out.m0
  have x1 := HX4.out.m1
  have x2 := HX4.out.m2
  go_wp2_with fail
  (refine (Unit_good n _ hn).mono ?_)
  rintro e w7 ⟨lb, rfl, hf7, hb7⟩
  have hb8 := bl_alloc w7 (.cells #[.int .i64 n, .int .i64 n, .slice (some ⟨lb, 0, none⟩) (n * n) (n * n)] 24)
  have h78 := below_via hb7 hb8
  have hst : TrR w (w7.alloc (.cells #[.int .i64 n, .int .i64 n, .slice (some ⟨lb, 0, none⟩) (n * n) (n * n)] 24)) n w7.heap.size lb 0 (.slice a N cap) (.slice (some ⟨vb, 0, none⟩) 0 k) (flat n (pw n (mtx n A) 0)) (trP n (mtx n A)) (fun _ => .slice none 0 0) := by
    have hv := HVB.out
    have h7 := hb7.size
    have h4 := HB4.out.size
    have h5 := HOW.out.lt vb rfl
    refine ⟨below_via HB4.out h78, ⟨by omega, by simp⟩, HX4.out.below h78, MBox.new w7 n n _, ?_, own_below HOW.out h78, fun i hi => absurd hi (by omega), fun e => ?_⟩
    · refine RdE.congr (((hf7.rd (Nat.le_refl _) (by have := HN.out; omega))).below hb8) (fun q hq => ?_)
      show unitE (q / n) (q % n) = laZ.idm (q / n) (q % n)
      unfold unitE laZ.idm
      by_cases e : q / n = q % n
      · rw [if_pos e, if_pos e.symm]
      · rw [if_neg e, if_neg (fun e' => e e'.symm)]
    · have : vb = w7.heap.size := by simpa [Value.ownBlock] using e
      omega
  have HST := Lib.hid hst
  clear hst hf7 hb7 hb8 h78 HB4 HX4 HOW HVB x0 x1 x2
  go_upto_region 8 with fail
  obtain ⟨mb, hmb⟩ : ∃ mb, mb = w7.heap.size := ⟨_, rfl⟩
  rw [← hmb] at HST ⊢
  clear hmb
  generalize w7.alloc (.cells #[.int .i64 n, .int .i64 n, .slice (some ⟨lb, 0, none⟩) (n * n) (n * n)] 24) = w8 at *
  go_wp2_with fail
  go_loopw [7, 32] (fun v iv wr => ∃ (t lb : Nat) (M : Nat → Value), t ≤ k ∧ iv = .int .i64 t ∧ TrR w wr n mb lb t (.slice a N cap) v (flat n (pw n (mtx n A) t)) (trP n (mtx n A)) M) (fun _ iv _ => k - (intOf iv).toNat)
  case atStart => exact ⟨0, lb, _, Nat.zero_le _, rfl, HST.out⟩
  case round =>
    clear HST
    obtain ⟨t, lb, M, ht, rfl, hrel⟩ := hrel
    obtain ⟨va, vc, rfl⟩ := own_slice hrel.own
    by_cases htk : t < k
    · have htk1 : (t : Int) < (k : Int) := by omega
      have wt : IntKind.i64.wrap ((t : Int) + 1) = (t : Int) + 1 := IntWalk.i64_in _ (by omega)
      have hmul := Mul_good n n n T S _ _ (flat n (pw n (mtx n A) t)) A wr hn hn hn (by omega) hrel.g (HR.out.below hrel.below) (flat_zb (HPZ.out t (by omega))) HA.out
      rw [← HN.out] at hmul
      have HMUL := Lib.hid hmul
      have HREL := Lib.hid hrel
      have x0 := hrel.a.m0
      have x1 := hrel.a.m1
      have x2 := hrel.a.m2
      have m0 := hrel.m.m0
      have m1 := hrel.m.m1
      have m2 := hrel.m.m2
      rw [← HN.out] at m2
      clear hmul hrel
      go_wp2_with fail
      (refine HMUL.out.mono ?_)
      rintro e w9 ⟨l2, rfl, hf9, hb9⟩
      rw [HN.out] at hf9
      have hr2 := HREL.out.mul (by rw [← HN.out]; omega) hb9 (hf9.congr (fun q hq => mul_flat' hq A (pw n (mtx n A) t)))
      have hm9 := HREL.out.m.below hb9
      have m0 := hm9.m0
      have m1 := hm9.m1
      have m2 := hm9.m2
      have f0 := hm9.f0
      have f1 := hm9.f1
      have f2 := hm9.f2
      rw [← HN.out] at m2
      rw [← HN.out] at hr2
      obtain ⟨wa, hwa⟩ : ∃ wa, wa = ((w9.setCell ⟨mb, 0, none⟩ (.int .i64 n)).setCell ⟨mb, 1, none⟩ (.int .i64 n)).setCell ⟨mb, 2, none⟩ (.slice (some ⟨l2, 0, none⟩) N N) := ⟨_, rfl⟩
      have HR3 := Lib.hid (show TrS w wa n mb l2 t (.slice a N cap) (.slice va t vc) (flat n (pw n (mtx n A) (t + 1))) (trP n (mtx n A)) M by rw [hwa]; exact hr2)
      clear hr2 hm9 hf9 hb9 HREL HMUL x0 x1 x2
      go_upto_region 11 with fail
      rw [← hwa]
      clear hwa m0 m1 m2 f0 f1 f2
      have m0 := HR3.out.r.m.m0
      have m1 := HR3.out.r.m.m1
      have m2 := HR3.out.r.m.m2
      rw [← HN.out] at m2
      have htr := Trace_good n T _ _ wa hn (by omega) HR3.out.r.g (flat_zb (HPZ.out (t + 1) (by omega)))
      rw [tr_flat, ← HN.out] at htr
      have HTR := Lib.hid (show Calls Try.prog 34 #[.agg #[.int .i64 n, .int .i64 n, .slice (some ⟨l2, 0, none⟩) N N]] wa fun e w' => ∃ v, e = .returned (.tuple #[v, .int .i64 0]) ∧ FrZ w' wa.heap.size v (trP n (mtx n A) t) ∧ Below wa.heap.size wa w' from htr)
      clear htr
      obtain ⟨τ, hτ⟩ : ∃ τ, τ = trP n (mtx n A) t := ⟨_, rfl⟩
      rw [← hτ] at HTR
      go_wp2_with fail
      (refine HTR.out.mono ?_)
      rintro e wb ⟨v, rfl, hfb, hbb⟩
      obtain ⟨ab, nb, cb, rfl, -⟩ := hfb.agg
      have hbc := bl_alloc wb (.cells #[.bool (decide (τ < 0)), .slice ab nb cb] 49)
      obtain ⟨y0, y1, -, -⟩ := two_cells wb (.bool (decide (τ < 0))) (.slice ab nb cb) 49
      have HZC := Lib.hid ((hfb.below hbc).mono (show mb + 1 ≤ wa.heap.size from HR3.out.r.pm.2))
      have HRC := Lib.hid (HR3.out.on (below_via hbb hbc))
      have HTA := Lib.hid hτ
      clear hfb hbb hbc HTR HR3 m0 m1 m2 hτ
      go_upto_region 12 with fail
      generalize wb.alloc (.cells #[.bool (decide (τ < 0)), .slice ab nb cb] 49) = wc at *
      go_upto_region 13 with (at_builtin; refine wp_pushInt rfl _ _ rfl HRC.out.r.own rfl rfl rfl rfl rfl (by have := HRC.out.r.pm; omega) (by omega) ?_; intro g cap2 wd g1 g2 g3 g4)
      have hps := HRC.out.push (by rw [← HN.out]; omega) HZC.out g1 g2 g3 g4
      rw [show (fun i => if i = t then τ else trP n (mtx n A) i) = trP n (mtx n A) from funext fun i => by
        by_cases e : i = t
        · rw [if_pos e, HTA.out, e]
        · rw [if_neg e]] at hps
      have HPS := Lib.hid hps
      clear hps g1 g2 g3 g4 HRC HZC y0 y1
      go_wp2_with fail
      go_roundw
      case rel => exact ⟨t + 1, l2, _, by omega, by go_num, HPS.out⟩
      case measure => simp [intOf]; omega
    · obtain rfl : t = k := by omega
      have HRD := Lib.hid (hrel.read (by omega) (show T + 1 ≤ 274877906944 by omega) (fun i hi => HTZ.out i (by omega)))
      have HBL := Lib.hid hrel.below
      clear hrel
      go_wp2_with fail
      refine bodyPost_ret (v := .tuple #[.slice va t vc, .int .i64 0]) ?_ rfl ⟨_, rfl, HRD.out, HBL.out⟩
      simp [results, Try.results32, go_sem]
end Go.Proofs.Ytejliecmdkmgiaa
namespace Go.Proofs.Ytejliecmdkmgiaa
open Go.RowKit Go.Shelf
def LstC (f : FuncId) (args : Array Value) (X : Int) (u : World) : Prop := Calls Try.prog f args u fun e w' => ∃ (l : Option Addr) (m c : Nat), e = .returned (.tuple #[.slice l m c, .int .i64 X]) ∧ (X ≠ 0 → m = 0) ∧ Below u.heap.size u w'
def LstC0 (f : FuncId) (args : Array Value) (X : Int) (u : World) : Prop := Calls Try.prog f args u fun e w' => ∃ (l : Option Addr) (c : Nat), e = .returned (.tuple #[.slice l 0 c, .int .i64 X]) ∧ Below u.heap.size u w'
def MatC (f : FuncId) (args : Array Value) (X : Int) (u : World) : Prop := Calls Try.prog f args u fun e w' => ∃ (r c : Int) (l : Option Addr) (m k : Nat), e = .returned (.tuple #[.agg #[.int .i64 r, .int .i64 c, .slice l m k], .int .i64 X]) ∧ (X ≠ 0 → m = 0) ∧ Below u.heap.size u w'
theorem refused_gen (r c : Int) (a : Option Addr) (n cap : Nat) (hn : n ≤ 17592186044416) (w : World)
    (hC : ∀ u, Below w.heap.size w u → LstC 17 #[.agg #[.int .i64 r, .int .i64 c, .slice a n cap]] (sqE r c n) u)
    (hL : ∀ u, Below w.heap.size w u → LstC 22 #[.agg #[.int .i64 r, .int .i64 c, .slice a n cap]] (sqE r c n) u)
    (hA : ∀ u x, Below w.heap.size w u → RdE u x 1 (fun _ => 1) → MatC 28 #[x, .agg #[.int .i64 r, .int .i64 c, .slice a n cap]] (sqE r c n) u)
    (hT : ∀ u, Below w.heap.size w u → LstC0 32 #[.agg #[.int .i64 r, .int .i64 c, .slice a n cap], .int .i64 0] (sqE r c n) u) :
    Calls Try.prog 27 #[.agg #[.int .i64 r, .int .i64 c, .slice a n cap]] w fun e w' => e = .returned (.tuple #[.bool true, .bool (decide (sqE r c n ≠ 0))]) ∧ Below w.heap.size w w' := by
  have hmix : Try.prog.follows .mixedOrders = true := by kernel_rfl
  have hck := fun (u : World) => Check_any r c a n cap hn u
  have hX : (sqE r c n = 0 ∧ checkE r c n = 0 ∧ r = c) ∨ (sqE r c n = 1 ∧ checkE r c n = 1) ∨ (sqE r c n = 2 ∧ checkE r c n = 0 ∧ r ≠ c) := by
    unfold sqE
    rcases checkE_or r c n with e | e
    · rw [if_pos e]
      by_cases h : r = c
      · exact Or.inl ⟨if_pos h, e, h⟩
      · exact Or.inr (Or.inr ⟨if_neg h, e, h⟩)
    · exact Or.inr (Or.inl ⟨if_neg (by rw [e]; decide), e⟩)
  generalize sqE r c n = X at *
  generalize checkE r c n = Y at *
  have hb0 := bl_alloc w (.cells #[.int .i64 r, .int .i64 c, .slice a n cap] 24)
  have hbx := MBox.new w r c (.slice a n cap)
  have HC := Lib.hid hC
  have HL := Lib.hid hL
  have HA := Lib.hid hA
  have HT := Lib.hid hT
  have HCK := Lib.hid hck
  have HXX := Lib.hid hX
  have HB := Lib.hid hb0
  have HM := Lib.hid hbx
  have x0 := hbx.m0
  have x1 := hbx.m1
  have x2 := hbx.m2
  clear hC hL hA hT hck hX hb0 hbx
  go_enter Try.func27, Try.ntmps27
  go_upto_region 1 with fail
  generalize w.alloc (.cells #[.int .i64 r, .int .i64 c, .slice a n cap] 24) = W at *
  go_wp2_with fail
  (refine (HC.out W HB.out).mono ?_)
  rintro e w1 ⟨l1, m1, k1, rfl, hm1, hb1⟩
  replace HB := Lib.hid (below_via HB.out hb1)
  replace HM := Lib.hid (HM.out.below hb1)
  have H1 := Lib.hid hm1
  clear hb1 HC hm1 x0 x1 x2
  have x0 := HM.out.m0
  have x1 := HM.out.m1
  have x2 := HM.out.m2
  go_wp2_with fail
  (refine (HL.out w1 HB.out).mono ?_)
  rintro e w2 ⟨l2, m2, k2, rfl, hm2, hb2⟩
  replace HB := Lib.hid (below_via HB.out hb2)
  replace HM := Lib.hid (HM.out.below hb2)
  have H2 := Lib.hid hm2
  clear hb2 HL hm2 x0 x1 x2
  go_upto_region 3 with fail
  go_cut [8, 9] (fun v8 v9 wx => ∃ (q m : Nat) (l : Option Addr) (k : Nat), v8 = .pointer (some ⟨q, 0, none⟩) ∧ v9 = .int .i64 X ∧ wx.cell? ⟨q, 2, none⟩ = some (.slice l m k) ∧ (X ≠ 0 → m = 0) ∧ Below w2.heap.size w2 wx)
  case first =>
    have x0 := HM.out.m0
    have x1 := HM.out.m1
    have x2 := HM.out.m2
    have hSK : ∀ u, Below w2.heap.size w2 u → (u.cell? ⟨w.heap.size, 0, none⟩ = some (.int .i64 r) ∧ u.cell? ⟨w.heap.size, 1, none⟩ = some (.int .i64 c) ∧ u.cell? ⟨w.heap.size, 2, none⟩ = some (.slice a n cap)) := fun u hu => ⟨cell_stays hu x0, cell_stays hu x1, cell_stays hu x2⟩
    have HSK := Lib.hid hSK
    clear hSK
    refine region_early (fun u => u.cell? ⟨w.heap.size, 0, none⟩ = some (.int .i64 r) ∧ u.cell? ⟨w.heap.size, 1, none⟩ = some (.int .i64 c) ∧ u.cell? ⟨w.heap.size, 2, none⟩ = some (.slice a n cap)) 8 [2] 9 hmix (by kernel_rfl) rfl (by kernel_rfl) (fun _ _ d _ _ h => by cases d <;> exact h) ⟨x0, x1, x2⟩ ?_
    iterate 1 (refine early_take rfl (by rfl) ?_; apply Exists.intro; refine ⟨fun u hu => ?_, ?_⟩; (obtain ⟨u_1, u_2, u_3⟩ := hu; go_simp; rfl); simp only [Act.put, List.getElem_toArray, List.getElem_cons_zero, List.getElem_cons_succ, List.setIfInBounds_toArray, List.set_cons_zero, List.set_cons_succ])
    refine early_done ?_
    simp only [marked]
    clear x0 x1 x2
    have HBW := Lib.hid (bl_drew w2)
    clear HM
    refine anyL_two (i := 0) (j := 7) (by kernel_rfl) rfl (by rfl) rfl (by rfl) (fun J hJ => ?_) (fun J hJ => ?_)
    · go_simp
      refine (of16_any 1 w2.drew).mono ?_
      rintro e u10 ⟨b0, rfl, hc0, -, -, hbo⟩
      replace HBW := Lib.hid (below_via HBW.out hbo)
      have HC0 := Lib.hid hc0
      refine hJ _ _ (fun _ => HSK.out _ HBW.out) ?_
      clear hJ J hbo hc0
      refine anyL_two (i := 1) (j := 7) (by kernel_rfl) rfl (by rfl) rfl (by rfl) (fun J hJ => ?_) (fun J hJ => ?_)
      · go_simp
        have hbo := bl_alloc u10 (.cells #[.bool false, .slice (some ⟨b0, 0, none⟩) 1 1] 49)
        have HLI := Lib.hid (rde_one u10 b0 1 (rdz_word u10 b0 1 (by omega) (by omega) HC0.out) (fun _ => 1) rfl)
        replace HBW := Lib.hid (below_via HBW.out hbo)
        obtain ⟨lb0, hlb0⟩ : ∃ lb0, lb0 = u10.heap.size := ⟨_, rfl⟩
        rw [← hlb0] at HLI ⊢
        clear hlb0
        generalize hww : u10.alloc (.cells #[.bool false, .slice (some ⟨b0, 0, none⟩) 1 1] 49) = u201 at *
        clear hww
        refine hJ _ _ (fun _ => HSK.out _ HBW.out) ?_
        clear hJ J hbo HC0
        refine anyL_two (i := 3) (j := 7) (by kernel_rfl) rfl (by rfl) rfl (by rfl) (fun J hJ => ?_) (fun J hJ => ?_)
        · go_simp
          refine (HA.out u201 _ (HB.out.trans (HBW.out.mono HB.out.size)) HLI.out).mono ?_
          rintro e u3013 ⟨r', c', l', m', k', rfl, hm', hbo⟩
          replace HBW := Lib.hid (below_via HBW.out hbo)
          have HM' := Lib.hid hm'
          refine hJ _ _ (fun _ => HSK.out _ HBW.out) ?_
          clear hJ J hbo hm' HLI HA
          refine anyL_yield (i := 4) rfl (by kernel_rfl) (by kernel_rfl) (by kernel_rfl) (by kernel_rfl) (fun _ _ d _ _ h => by cases d <;> exact h) (by rfl) (HSK.out _ HBW.out) ?_
          apply Exists.intro
          refine ⟨fun u => ?_, ?_⟩
          · go_simp
            rfl
          simp only [Act.put, List.getElem_toArray, List.getElem_cons_zero, List.getElem_cons_succ, List.setIfInBounds_toArray, List.set_cons_zero, List.set_cons_succ]
          refine anyL_yield (i := 5) rfl (by kernel_rfl) (by kernel_rfl) (by kernel_rfl) (by kernel_rfl) (fun _ _ d _ _ h => by cases d <;> exact h) (by rfl) (HSK.out _ HBW.out) ?_
          apply Exists.intro
          refine ⟨fun u => ?_, ?_⟩
          · go_simp
            rfl
          simp only [Act.put, List.getElem_toArray, List.getElem_cons_zero, List.getElem_cons_succ, List.setIfInBounds_toArray, List.set_cons_zero, List.set_cons_succ]
          refine anyL_yield (i := 6) rfl (by kernel_rfl) (by kernel_rfl) (by kernel_rfl) (by kernel_rfl) (fun _ _ d _ _ h => by cases d <;> exact h) (by rfl) (HSK.out _ HBW.out) ?_
          apply Exists.intro
          refine ⟨fun u => ?_, ?_⟩
          · go_simp
            rfl
          simp only [Act.put, List.getElem_toArray, List.getElem_cons_zero, List.getElem_cons_succ, List.setIfInBounds_toArray, List.set_cons_zero, List.set_cons_succ]
          refine anyL_one (i := 7) (by kernel_rfl) rfl (by rfl) fun J hJ => ?_
          go_simp
          have hbo : Below u3013.heap.size u3013 (u3013.alloc (.cells #[.int .i64 0, .int .i64 0, .slice none 0 0] 24)) := bl_alloc u3013 (.cells #[.int .i64 0, .int .i64 0, .slice none 0 0] 24)
          have HQ := Lib.hid (show MBox (u3013.alloc (.cells #[.int .i64 0, .int .i64 0, .slice none 0 0] 24)) u3013.heap.size 0 0 (.slice none 0 0) from MBox.new u3013 0 0 (.slice none 0 0))
          have hqs : w2.heap.size ≤ u3013.heap.size := HBW.out.size
          replace HBW := Lib.hid (below_via HBW.out hbo)
          obtain ⟨q, hq⟩ : ∃ q, q = u3013.heap.size := ⟨_, rfl⟩
          have HQW := Lib.hid (show w2.heap.size ≤ q by omega)
          rw [← hq] at HQ ⊢
          clear hq hqs
          generalize hww : u3013.alloc (.cells #[.int .i64 0, .int .i64 0, .slice none 0 0] 24) = u40137 at *
          clear hww
          refine hJ _ _ (fun _ => HSK.out _ HBW.out) ?_
          clear hJ J hbo
          have z0 := HQ.out.m0
          have z1 := HQ.out.m1
          have z2 := HQ.out.m2
          have y0 := HQ.out.f0
          have y1 := HQ.out.f1
          have y2 := HQ.out.f2
          refine anyL_one (i := 8) (by kernel_rfl) rfl (by rfl) fun J hJ => ?_
          go_simp
          refine hJ _ _ (fun e => absurd e (by decide)) ?_
          clear hJ J
          refine anyL_one (i := 9) (by kernel_rfl) rfl (by rfl) fun J hJ => ?_
          go_simp
          refine hJ _ _ (fun e => absurd e (by decide)) ?_
          clear hJ J
          refine anyL_done (by kernel_rfl) ?_ _
          go_wp2_with fail
          go_meet
          exact ⟨q, m', l', k', rfl, rfl, (HQ.out.store (r' := r') (c' := c') (v' := .slice l' m' k')).m2, HM'.out, HBW.out.grown (stored3_gb u40137 q (.int .i64 r') (.int .i64 c') (.slice l' m' k')) HBW.out.size (fun k hk => by injection hk with hk; have := HQW.out; omega)⟩
        · go_simp
          have hbo : Below u201.heap.size u201 (u201.alloc (.cells #[.int .i64 0, .int .i64 0, .slice none 0 0] 24)) := bl_alloc u201 (.cells #[.int .i64 0, .int .i64 0, .slice none 0 0] 24)
          have HQ := Lib.hid (show MBox (u201.alloc (.cells #[.int .i64 0, .int .i64 0, .slice none 0 0] 24)) u201.heap.size 0 0 (.slice none 0 0) from MBox.new u201 0 0 (.slice none 0 0))
          have hqs : w2.heap.size ≤ u201.heap.size := HBW.out.size
          replace HBW := Lib.hid (below_via HBW.out hbo)
          replace HLI := Lib.hid (HLI.out.below hbo)
          obtain ⟨q, hq⟩ : ∃ q, q = u201.heap.size := ⟨_, rfl⟩
          have HQW := Lib.hid (show w2.heap.size ≤ q by omega)
          rw [← hq] at HQ ⊢
          clear hq hqs
          generalize hww : u201.alloc (.cells #[.int .i64 0, .int .i64 0, .slice none 0 0] 24) = u3017 at *
          clear hww
          refine hJ _ _ (fun _ => HSK.out _ HBW.out) ?_
          clear hJ J hbo
          refine anyL_one (i := 3) (by kernel_rfl) rfl (by rfl) fun J hJ => ?_
          go_simp
          refine (HA.out u3017 _ (HB.out.trans (HBW.out.mono HB.out.size)) HLI.out).mono ?_
          rintro e u40173 ⟨r', c', l', m', k', rfl, hm', hbo⟩
          replace HBW := Lib.hid (below_via HBW.out hbo)
          replace HQ := Lib.hid (HQ.out.below hbo)
          have HM' := Lib.hid hm'
          refine hJ _ _ (fun _ => HSK.out _ HBW.out) ?_
          clear hJ J hbo hm' HLI HA
          refine anyL_yield (i := 4) rfl (by kernel_rfl) (by kernel_rfl) (by kernel_rfl) (by kernel_rfl) (fun _ _ d _ _ h => by cases d <;> exact h) (by rfl) (HSK.out _ HBW.out) ?_
          apply Exists.intro
          refine ⟨fun u => ?_, ?_⟩
          · go_simp
            rfl
          simp only [Act.put, List.getElem_toArray, List.getElem_cons_zero, List.getElem_cons_succ, List.setIfInBounds_toArray, List.set_cons_zero, List.set_cons_succ]
          refine anyL_yield (i := 5) rfl (by kernel_rfl) (by kernel_rfl) (by kernel_rfl) (by kernel_rfl) (fun _ _ d _ _ h => by cases d <;> exact h) (by rfl) (HSK.out _ HBW.out) ?_
          apply Exists.intro
          refine ⟨fun u => ?_, ?_⟩
          · go_simp
            rfl
          simp only [Act.put, List.getElem_toArray, List.getElem_cons_zero, List.getElem_cons_succ, List.setIfInBounds_toArray, List.set_cons_zero, List.set_cons_succ]
          refine anyL_yield (i := 6) rfl (by kernel_rfl) (by kernel_rfl) (by kernel_rfl) (by kernel_rfl) (fun _ _ d _ _ h => by cases d <;> exact h) (by rfl) (HSK.out _ HBW.out) ?_
          apply Exists.intro
          refine ⟨fun u => ?_, ?_⟩
          · go_simp
            rfl
          simp only [Act.put, List.getElem_toArray, List.getElem_cons_zero, List.getElem_cons_succ, List.setIfInBounds_toArray, List.set_cons_zero, List.set_cons_succ]
          have z0 := HQ.out.m0
          have z1 := HQ.out.m1
          have z2 := HQ.out.m2
          have y0 := HQ.out.f0
          have y1 := HQ.out.f1
          have y2 := HQ.out.f2
          refine anyL_one (i := 8) (by kernel_rfl) rfl (by rfl) fun J hJ => ?_
          go_simp
          refine hJ _ _ (fun e => absurd e (by decide)) ?_
          clear hJ J
          refine anyL_one (i := 9) (by kernel_rfl) rfl (by rfl) fun J hJ => ?_
          go_simp
          refine hJ _ _ (fun e => absurd e (by decide)) ?_
          clear hJ J
          refine anyL_done (by kernel_rfl) ?_ _
          go_wp2_with fail
          go_meet
          exact ⟨q, m', l', k', rfl, rfl, (HQ.out.store (r' := r') (c' := c') (v' := .slice l' m' k')).m2, HM'.out, HBW.out.grown (stored3_gb u40173 q (.int .i64 r') (.int .i64 c') (.slice l' m' k')) HBW.out.size (fun k hk => by injection hk with hk; have := HQW.out; omega)⟩
      · go_simp
        have hbo : Below u10.heap.size u10 (u10.alloc (.cells #[.int .i64 0, .int .i64 0, .slice none 0 0] 24)) := bl_alloc u10 (.cells #[.int .i64 0, .int .i64 0, .slice none 0 0] 24)
        have HQ := Lib.hid (show MBox (u10.alloc (.cells #[.int .i64 0, .int .i64 0, .slice none 0 0] 24)) u10.heap.size 0 0 (.slice none 0 0) from MBox.new u10 0 0 (.slice none 0 0))
        have hqs : w2.heap.size ≤ u10.heap.size := HBW.out.size
        replace HBW := Lib.hid (below_via HBW.out hbo)
        replace HC0 := Lib.hid (cell_stays hbo HC0.out)
        obtain ⟨q, hq⟩ : ∃ q, q = u10.heap.size := ⟨_, rfl⟩
        have HQW := Lib.hid (show w2.heap.size ≤ q by omega)
        rw [← hq] at HQ ⊢
        clear hq hqs
        generalize hww : u10.alloc (.cells #[.int .i64 0, .int .i64 0, .slice none 0 0] 24) = u207 at *
        clear hww
        refine hJ _ _ (fun _ => HSK.out _ HBW.out) ?_
        clear hJ J hbo
        refine anyL_one (i := 1) (by kernel_rfl) rfl (by rfl) fun J hJ => ?_
        go_simp
        have hbo := bl_alloc u207 (.cells #[.bool false, .slice (some ⟨b0, 0, none⟩) 1 1] 49)
        have HLI := Lib.hid (rde_one u207 b0 1 (rdz_word u207 b0 1 (by omega) (by omega) HC0.out) (fun _ => 1) rfl)
        replace HBW := Lib.hid (below_via HBW.out hbo)
        replace HQ := Lib.hid (HQ.out.below hbo)
        obtain ⟨lb0, hlb0⟩ : ∃ lb0, lb0 = u207.heap.size := ⟨_, rfl⟩
        rw [← hlb0] at HLI ⊢
        clear hlb0
        generalize hww : u207.alloc (.cells #[.bool false, .slice (some ⟨b0, 0, none⟩) 1 1] 49) = u3071 at *
        clear hww
        refine hJ _ _ (fun _ => HSK.out _ HBW.out) ?_
        clear hJ J hbo HC0
        refine anyL_one (i := 3) (by kernel_rfl) rfl (by rfl) fun J hJ => ?_
        go_simp
        refine (HA.out u3071 _ (HB.out.trans (HBW.out.mono HB.out.size)) HLI.out).mono ?_
        rintro e u40713 ⟨r', c', l', m', k', rfl, hm', hbo⟩
        replace HBW := Lib.hid (below_via HBW.out hbo)
        replace HQ := Lib.hid (HQ.out.below hbo)
        have HM' := Lib.hid hm'
        refine hJ _ _ (fun _ => HSK.out _ HBW.out) ?_
        clear hJ J hbo hm' HLI HA
        refine anyL_yield (i := 4) rfl (by kernel_rfl) (by kernel_rfl) (by kernel_rfl) (by kernel_rfl) (fun _ _ d _ _ h => by cases d <;> exact h) (by rfl) (HSK.out _ HBW.out) ?_
        apply Exists.intro
        refine ⟨fun u => ?_, ?_⟩
        · go_simp
          rfl
        simp only [Act.put, List.getElem_toArray, List.getElem_cons_zero, List.getElem_cons_succ, List.setIfInBounds_toArray, List.set_cons_zero, List.set_cons_succ]
        refine anyL_yield (i := 5) rfl (by kernel_rfl) (by kernel_rfl) (by kernel_rfl) (by kernel_rfl) (fun _ _ d _ _ h => by cases d <;> exact h) (by rfl) (HSK.out _ HBW.out) ?_
        apply Exists.intro
        refine ⟨fun u => ?_, ?_⟩
        · go_simp
          rfl
        simp only [Act.put, List.getElem_toArray, List.getElem_cons_zero, List.getElem_cons_succ, List.setIfInBounds_toArray, List.set_cons_zero, List.set_cons_succ]
        refine anyL_yield (i := 6) rfl (by kernel_rfl) (by kernel_rfl) (by kernel_rfl) (by kernel_rfl) (fun _ _ d _ _ h => by cases d <;> exact h) (by rfl) (HSK.out _ HBW.out) ?_
        apply Exists.intro
        refine ⟨fun u => ?_, ?_⟩
        · go_simp
          rfl
        simp only [Act.put, List.getElem_toArray, List.getElem_cons_zero, List.getElem_cons_succ, List.setIfInBounds_toArray, List.set_cons_zero, List.set_cons_succ]
        have z0 := HQ.out.m0
        have z1 := HQ.out.m1
        have z2 := HQ.out.m2
        have y0 := HQ.out.f0
        have y1 := HQ.out.f1
        have y2 := HQ.out.f2
        refine anyL_one (i := 8) (by kernel_rfl) rfl (by rfl) fun J hJ => ?_
        go_simp
        refine hJ _ _ (fun e => absurd e (by decide)) ?_
        clear hJ J
        refine anyL_one (i := 9) (by kernel_rfl) rfl (by rfl) fun J hJ => ?_
        go_simp
        refine hJ _ _ (fun e => absurd e (by decide)) ?_
        clear hJ J
        refine anyL_done (by kernel_rfl) ?_ _
        go_wp2_with fail
        go_meet
        exact ⟨q, m', l', k', rfl, rfl, (HQ.out.store (r' := r') (c' := c') (v' := .slice l' m' k')).m2, HM'.out, HBW.out.grown (stored3_gb u40713 q (.int .i64 r') (.int .i64 c') (.slice l' m' k')) HBW.out.size (fun k hk => by injection hk with hk; have := HQW.out; omega)⟩
    · go_simp
      have hbo : Below w2.drew.heap.size w2.drew ((w2.alloc (.cells #[.int .i64 0, .int .i64 0, .slice none 0 0] 24)).drew) := bl_alloc w2.drew (.cells #[.int .i64 0, .int .i64 0, .slice none 0 0] 24)
      have HQ := Lib.hid (show MBox ((w2.alloc (.cells #[.int .i64 0, .int .i64 0, .slice none 0 0] 24)).drew) w2.heap.size 0 0 (.slice none 0 0) from MBox.new w2.drew 0 0 (.slice none 0 0))
      have hqs : w2.heap.size ≤ w2.heap.size := HBW.out.size
      replace HBW := Lib.hid (below_via HBW.out hbo)
      obtain ⟨q, hq⟩ : ∃ q, q = w2.heap.size := ⟨_, rfl⟩
      have HQW := Lib.hid (show w2.heap.size ≤ q by omega)
      rw [← hq] at HQ ⊢
      clear hq hqs
      generalize hww : (w2.alloc (.cells #[.int .i64 0, .int .i64 0, .slice none 0 0] 24)).drew = u17 at *
      clear hww
      refine hJ _ _ (fun _ => HSK.out _ HBW.out) ?_
      clear hJ J hbo
      refine anyL_one (i := 0) (by kernel_rfl) rfl (by rfl) fun J hJ => ?_
      go_simp
      refine (of16_any 1 u17).mono ?_
      rintro e u270 ⟨b0, rfl, hc0, -, -, hbo⟩
      replace HBW := Lib.hid (below_via HBW.out hbo)
      replace HQ := Lib.hid (HQ.out.below hbo)
      have HC0 := Lib.hid hc0
      refine hJ _ _ (fun _ => HSK.out _ HBW.out) ?_
      clear hJ J hbo hc0
      refine anyL_one (i := 1) (by kernel_rfl) rfl (by rfl) fun J hJ => ?_
      go_simp
      have hbo := bl_alloc u270 (.cells #[.bool false, .slice (some ⟨b0, 0, none⟩) 1 1] 49)
      have HLI := Lib.hid (rde_one u270 b0 1 (rdz_word u270 b0 1 (by omega) (by omega) HC0.out) (fun _ => 1) rfl)
      replace HBW := Lib.hid (below_via HBW.out hbo)
      replace HQ := Lib.hid (HQ.out.below hbo)
      obtain ⟨lb0, hlb0⟩ : ∃ lb0, lb0 = u270.heap.size := ⟨_, rfl⟩
      rw [← hlb0] at HLI ⊢
      clear hlb0
      generalize hww : u270.alloc (.cells #[.bool false, .slice (some ⟨b0, 0, none⟩) 1 1] 49) = u3701 at *
      clear hww
      refine hJ _ _ (fun _ => HSK.out _ HBW.out) ?_
      clear hJ J hbo HC0
      refine anyL_one (i := 3) (by kernel_rfl) rfl (by rfl) fun J hJ => ?_
      go_simp
      refine (HA.out u3701 _ (HB.out.trans (HBW.out.mono HB.out.size)) HLI.out).mono ?_
      rintro e u47013 ⟨r', c', l', m', k', rfl, hm', hbo⟩
      replace HBW := Lib.hid (below_via HBW.out hbo)
      replace HQ := Lib.hid (HQ.out.below hbo)
      have HM' := Lib.hid hm'
      refine hJ _ _ (fun _ => HSK.out _ HBW.out) ?_
      clear hJ J hbo hm' HLI HA
      refine anyL_yield (i := 4) rfl (by kernel_rfl) (by kernel_rfl) (by kernel_rfl) (by kernel_rfl) (fun _ _ d _ _ h => by cases d <;> exact h) (by rfl) (HSK.out _ HBW.out) ?_
      apply Exists.intro
      refine ⟨fun u => ?_, ?_⟩
      · go_simp
        rfl
      simp only [Act.put, List.getElem_toArray, List.getElem_cons_zero, List.getElem_cons_succ, List.setIfInBounds_toArray, List.set_cons_zero, List.set_cons_succ]
      refine anyL_yield (i := 5) rfl (by kernel_rfl) (by kernel_rfl) (by kernel_rfl) (by kernel_rfl) (fun _ _ d _ _ h => by cases d <;> exact h) (by rfl) (HSK.out _ HBW.out) ?_
      apply Exists.intro
      refine ⟨fun u => ?_, ?_⟩
      · go_simp
        rfl
      simp only [Act.put, List.getElem_toArray, List.getElem_cons_zero, List.getElem_cons_succ, List.setIfInBounds_toArray, List.set_cons_zero, List.set_cons_succ]
      refine anyL_yield (i := 6) rfl (by kernel_rfl) (by kernel_rfl) (by kernel_rfl) (by kernel_rfl) (fun _ _ d _ _ h => by cases d <;> exact h) (by rfl) (HSK.out _ HBW.out) ?_
      apply Exists.intro
      refine ⟨fun u => ?_, ?_⟩
      · go_simp
        rfl
      simp only [Act.put, List.getElem_toArray, List.getElem_cons_zero, List.getElem_cons_succ, List.setIfInBounds_toArray, List.set_cons_zero, List.set_cons_succ]
      have z0 := HQ.out.m0
      have z1 := HQ.out.m1
      have z2 := HQ.out.m2
      have y0 := HQ.out.f0
      have y1 := HQ.out.f1
      have y2 := HQ.out.f2
      refine anyL_one (i := 8) (by kernel_rfl) rfl (by rfl) fun J hJ => ?_
      go_simp
      refine hJ _ _ (fun e => absurd e (by decide)) ?_
      clear hJ J
      refine anyL_one (i := 9) (by kernel_rfl) rfl (by rfl) fun J hJ => ?_
      go_simp
      refine hJ _ _ (fun e => absurd e (by decide)) ?_
      clear hJ J
      refine anyL_done (by kernel_rfl) ?_ _
      go_wp2_with fail
      go_meet
      exact ⟨q, m', l', k', rfl, rfl, (HQ.out.store (r' := r') (c' := c') (v' := .slice l' m' k')).m2, HM'.out, HBW.out.grown (stored3_gb u47013 q (.int .i64 r') (.int .i64 c') (.slice l' m' k')) HBW.out.size (fun k hk => by injection hk with hk; have := HQW.out; omega)⟩
  case rest =>
  obtain ⟨q, m3, l3, k3, rfl, rfl, hq2, hm3, hb3⟩ := hcut
  have HQ2 := Lib.hid hq2
  have H3 := Lib.hid hm3
  replace HB := Lib.hid (below_via HB.out hb3)
  replace HM := Lib.hid (HM.out.below hb3)
  clear hq2 hm3 hb3 HA
  have x0 := HM.out.m0
  have x1 := HM.out.m1
  have x2 := HM.out.m2
  go_wp2_with fail
  (refine (HT.out _ HB.out).mono ?_)
  rintro e w4 ⟨l4, k4, rfl, hb4⟩
  replace HB := Lib.hid (below_via HB.out hb4)
  replace HM := Lib.hid (HM.out.below hb4)
  replace HQ2 := Lib.hid (cell_stays hb4 HQ2.out)
  clear hb4 HT x0 x1 x2
  have x0 := HM.out.m0
  have x1 := HM.out.m1
  have x2 := HM.out.m2
  have q2 := HQ2.out
  have HCK4 := Lib.hid (HCK.out w4)
  rcases HXX.out with ⟨rfl, rfl, rfl⟩ | ⟨rfl, rfl⟩ | ⟨rfl, rfl, hrc⟩
  · go_wp2_with fail
    (refine HCK4.out.mono ?_)
    rintro e w5 ⟨rfl, hb5⟩
    replace x0 := cell_stays hb5 x0
    replace x1 := cell_stays hb5 x1
    replace x2 := cell_stays hb5 x2
    replace HB := Lib.hid (below_via HB.out hb5)
    clear hb5 HCK4 HCK q2 HM HQ2
    go_wp2_with fail
    refine bodyPost_ret (v := .tuple #[.bool true, .bool false]) ?_ rfl ⟨rfl, HB.out⟩
    simp [results, Try.results27, go_sem]
  · obtain rfl : m1 = 0 := H1.out (by decide)
    obtain rfl : m2 = 0 := H2.out (by decide)
    obtain rfl : m3 = 0 := H3.out (by decide)
    go_wp2_with fail
    (refine HCK4.out.mono ?_)
    rintro e w5 ⟨rfl, hb5⟩
    replace x0 := cell_stays hb5 x0
    replace x1 := cell_stays hb5 x1
    replace x2 := cell_stays hb5 x2
    replace q2 := cell_stays hb5 q2
    replace HB := Lib.hid (below_via HB.out hb5)
    clear hb5 HCK4 HCK HM HQ2
    go_wp2_with fail
    refine bodyPost_ret (v := .tuple #[.bool true, .bool true]) ?_ rfl ⟨rfl, HB.out⟩
    simp [results, Try.results27, go_sem]
  · obtain rfl : m1 = 0 := H1.out (by decide)
    obtain rfl : m2 = 0 := H2.out (by decide)
    obtain rfl : m3 = 0 := H3.out (by decide)
    have hrc2 : (r == c) = false := by rw [beq_eq_false_iff_ne]; exact hrc
    go_wp2_with fail
    (refine HCK4.out.mono ?_)
    rintro e w5 ⟨rfl, hb5⟩
    replace x0 := cell_stays hb5 x0
    replace x1 := cell_stays hb5 x1
    replace x2 := cell_stays hb5 x2
    replace q2 := cell_stays hb5 q2
    replace HB := Lib.hid (below_via HB.out hb5)
    clear hb5 HCK4 HCK HM HQ2
    go_wp2_with fail
    refine bodyPost_ret (v := .tuple #[.bool true, .bool true]) ?_ rfl ⟨rfl, HB.out⟩
    simp [results, Try.results27, go_sem]
end Go.Proofs.Ytejliecmdkmgiaa
namespace Go.Proofs.Ytejliecmdkmgiaa
open Go.RowKit Go.Shelf
theorem refused16_good (n S : Nat) (sl : Value) (A : Nat → Int) (w : World) (hn : n ≤ 64) (hS : S ≤ 16000000) (hr : RdE w sl (n * n) A) (hA : ∀ q, q < n * n → ZB S (A q)) :
    Calls Try.prog 27 #[.agg #[.int .i64 n, .int .i64 n, sl]] w fun e w' => e = .returned (.tuple #[.bool true, .bool false]) ∧ Below w.heap.size w w' := by
  have hK4 : n * n ≤ 4096 := Nat.mul_le_mul hn hn
  obtain ⟨a, cap, rfl, hcap⟩ := hr.slice
  have h0 : sqE n n (n * n) = 0 := sqE_ok hn rfl
  have h := refused_gen n n a (n * n) cap (by omega) w
    (fun u hu => (Char_good n S _ A u hn (by omega) (hr.below hu) hA).mono fun e w' ⟨lb, he, hf, hb⟩ => ⟨_, _, _, by rw [h0]; exact he, fun e => absurd h0 e, hb⟩)
    (fun u hu => (LeastPoly_good n S _ A u hn hS (hr.below hu) hA).mono fun e w' ⟨lb, k, μ, he, _, _, _, _, hb⟩ => ⟨_, _, _, by rw [h0]; exact he, fun e => absurd h0 e, hb⟩)
    (fun u x hu hx => (At_good n S 1 1 x _ (fun _ => 1) A u hn (by omega) (by omega) hx (Nat.le_trans (szE_le _ 1) (by omega)) (fun _ _ => zb_ones) (hr.below hu) hA).mono fun e w' ⟨lb, he, _, hb⟩ => ⟨_, _, _, _, _, by rw [h0]; exact he, fun e => absurd h0 e, hb⟩)
    (fun u hu => (Traces_good n 0 S _ A u hn (by omega) (by omega) (hr.below hu) hA).mono fun e w' ⟨v, he, hrd, hb⟩ => by
      obtain ⟨l, c, rfl, -⟩ := hrd.slice
      exact ⟨l, c, by rw [h0]; exact he, hb⟩)
  rw [h0] at h
  exact h
end Go.Proofs.Ytejliecmdkmgiaa
namespace Go.Proofs.Ytejliecmdkmgiaa
open laZ
end Go.Proofs.Ytejliecmdkmgiaa
namespace Go.Proofs.Ytejliecmdkmgiaa
open Go.RowKit Go.Shelf
structure DmR (w wr : World) (lr lq N K : Nat) (R Q : Nat → Int) : Prop where
  below : Below w.heap.size w wr
  r : PaE wr w.heap.size (fun b => b = lr ∨ b = lq) lr N N R
  q : PaE wr w.heap.size (fun b => b = lr ∨ b = lq) lq K K Q
  ne : lr ≠ lq
section
variable {w wr w' u : World} {lr lq N K : Nat} {R R' Q : Nat → Int}
theorem DmR.on (h : DmR w wr lr lq N K R Q) (hb : Below wr.heap.size wr w') : DmR w w' lr lq N K R Q := ⟨below_via h.below hb, h.r.below hb, h.q.below hb, h.ne⟩
theorem DmR.congr (h : DmR w wr lr lq N K R Q) {Q' : Nat → Int} (h1 : ∀ j, j < N → R j = R' j) (h2 : ∀ j, j < K → Q j = Q' j) : DmR w wr lr lq N K R' Q' := ⟨h.below, h.r.congr h1, h.q.congr h2, h.ne⟩
theorem DmR.turn (h : DmR w wr lr lq N K R Q) (hg : wr.grownBy w' (some lr)) (hp : PaE w' w.heap.size (fun b => b = lr ∨ b = lq) lr N N R') : DmR w w' lr lq N K R' Q :=
  ⟨h.below.grown hg h.below.size (fun k hk => by injection hk with hk; have := h.r.own; omega), hp, h.q.grown hg (fun e => h.ne e.symm) (Or.inl rfl), h.ne⟩
theorem DmR.put (h : DmR w wr lr lq N K R Q) {s : Bool} {m : Value} {z : Int} {j : Nat} (hj : j < K) (hz : LeZ wr (.agg #[.bool s, m]) z) (hm : ∀ b, m.ownBlock = some b → b < wr.heap.size ∧ b ≠ lr ∧ b ≠ lq) :
    DmR w ((wr.setCell ⟨lq, j * 2, none⟩ (.bool s)).setCell ⟨lq, j * 2 + 1, none⟩ m) lr lq N K R (fun i => if i = j then z else Q i) := by
  have hg := gb_two wr lq (j * 2) (j * 2 + 1) (.bool s) m
  have hp := h.q.put hj (by omega) (Or.inr rfl) hz (fun b e => ⟨(hm b e).1, fun hd => hd.elim (hm b e).2.1 (hm b e).2.2⟩)
  rw [show max K (j + 1) = K by omega] at hp
  exact ⟨h.below.grown hg h.below.size (fun k hk => by injection hk with hk; have := h.q.own; omega), h.r.grown hg h.ne (Or.inr rfl), hp, h.ne⟩
end
end Go.Proofs.Ytejliecmdkmgiaa
