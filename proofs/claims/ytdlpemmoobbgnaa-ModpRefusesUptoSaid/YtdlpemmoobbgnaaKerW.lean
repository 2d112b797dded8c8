/- The walks of field.kernel and modp.Kernel. -/
import Derived.Test.YtdlpemmoobbgnaaCutW
set_option linter.unusedVariables false
set_option linter.unusedSimpArgs false
namespace Go.Proofs.Ytdlpemmoobbgnaa
open Go.RowKit

def kerR (p : Int) (R K : Nat) (x : Nat → Raw) : Nat := (besS p R K x).P.length
/-- what stays below the pivots' rows, cut -/
def kerG (p : Int) (R K : Nat) (x : Nat → Raw) : Nat → Nat → Int := fun i j => (besS p R K x).G (kerR p R K x + i) (K + j)
def kerS (p : Int) (R K : Nat) (x : Nat → Raw) : RS := RS.run p (R - kerR p R K x) R ⟨kerG p R K x, [], 1 % p⟩ R

theorem kerR_le (p : Int) (R K : Nat) (x : Nat → Raw) : kerR p R K x ≤ R := RS.run_len (s := ⟨besG p K x, [], 1 % p⟩) (Nat.zero_le _) K

theorem kerG_res (p : Int) (hp : 2 ≤ p) (R K : Nat) (x : Nat → Raw) : Res p (R - kerR p R K x) R (kerG p R K x) := fun i j hi hj => by
  have := kerR_le p R K x
  exact besS_res p hp R K x _ _ (by omega) (by omega)

theorem kerS_res (p : Int) (hp : 2 ≤ p) (R K : Nat) (x : Nat → Raw) : Res p (R - kerR p R K x) R (kerS p R K x).G :=
  RS.run_res (s := ⟨kerG p R K x, [], 1 % p⟩) (by omega) (Nat.zero_le _) (kerG_res p hp R K x) R

theorem GridAt.empty {k : IntKind} {w : World} {base gb go m n n' : Nat} {B O C : Nat → Nat} {G : Nat → Nat → Int} (h : GridAt k w base gb go m n B O C G) (go' : Nat) (G' : Nat → Nat → Int) : GridAt k w base gb go' 0 n' B O C G' :=
  ⟨fun _ hi => absurd hi (by omega), fun _ hi => absurd hi (by omega), fun _ _ hi => absurd hi (by omega), fun _ hi => absurd hi (by omega), fun _ hi => absurd hi (by omega), fun _ hi => absurd hi (by omega), h.ownG, fun _ hi => absurd hi (by omega)⟩

theorem own_mono {w : World} {base base' : Nat} {e : TypeId} {size : Nat} {v : Value} {n : Nat} {xs : List Value} (h : w.ownsRow base e size v n xs) (hb : base' ≤ base) : w.ownsRow base' e size v n xs := by
  obtain ⟨h1, h2⟩ := h
  refine ⟨h1, ?_⟩
  rcases h2 with h2 | ⟨g, cap, cur, k1, k2, k3⟩
  · exact Or.inl h2
  · exact Or.inr ⟨g, cap, cur, k1, Nat.le_trans hb k2, k3⟩

set_option maxHeartbeats 2000000 in
set_option maxRecDepth 100000 in
theorem kernel_any (p : Int) (p0 : 2 ≤ p) (p1 : p < 2147483648) (R K n : Nat) (hR : R ≤ 64) (hK : K ≤ 64) (hN : n = R * K) (s : Value) (x : Nat → Raw) (w : World) (hr : RdL w s n x) :
    Calls Try.prog 53 #[.int .u64 p, .agg #[.int .i64 R, .int .i64 K, s]] w fun e w' =>
      ∃ gb go B O C pv, e = .returned (.tuple #[.slice (some ⟨gb, go, none⟩) (R - kerR p R K x) (R - kerR p R K x), pv]) ∧ GridAt .u64 w' w.heap.size gb go (R - kerR p R K x) R B O C (kerS p R K x).G ∧
        w'.ownsRow w.heap.size 3 1 pv (kerS p R K x).P.length (ints (kerS p R K x).P) ∧ Below w.heap.size w w' := by
  obtain ⟨a, cap, rfl, hn⟩ := hr.slice
  have hb0 : Below w.heap.size w (w.alloc (.cells #[.int .i64 R, .int .i64 K, .slice a n cap] 34)) := (Below.refl _ _).alloc (Nat.le_refl _) _
  have z := three_cells w (.int .i64 R) (.int .i64 K) (.slice a n cap) 34
  have hs0 : (w.alloc (.cells #[.int .i64 R, .int .i64 K, .slice a n cap] 34)).heap.size = w.heap.size + 1 := by simp
  have HB0 := Lib.hid hb0
  have HR1 := Lib.hid (hr.below hb0)
  have Z := Lib.hid z
  have HN := Lib.hid hN
  have HS0 := Lib.hid hs0
  obtain ⟨S, hS⟩ : ∃ S, S = RS.run p R (K + R) ⟨besG p K x, [], 1 % p⟩ K := ⟨_, rfl⟩
  have hbs : besS p R K x = S := hS.symm
  have hle := kerR_le p R K x
  have hkr : kerR p R K x = S.P.length := by unfold kerR; rw [hbs]
  have hkg := kerG_res p p0 R K x
  obtain ⟨T, hT⟩ : ∃ T, T = kerS p R K x := ⟨_, rfl⟩
  have hT' : RS.run p (R - S.P.length) R ⟨fun i j => S.G (S.P.length + i) (K + j), [], 1 % p⟩ R = T := by rw [hT]; unfold kerS kerG; rw [hkr, hbs]
  have hkg' : Res p (R - S.P.length) R (fun i j => S.G (S.P.length + i) (K + j)) := by have := hkg; unfold kerG at this; rw [hkr, hbs] at this; exact this
  rw [← hT, hkr]
  rw [hkr] at hle
  have HS := Lib.hid hS
  have HT := Lib.hid hT'
  have HKG := Lib.hid hkg'
  clear hr hb0 z hs0 hN hS hbs hkr hkg hT hT' hkg'
  by_cases hlr : S.P.length = R
  · subst hlr
    go_enter Try.func53, Try.ntmps53
    go_wp2_with (first
      | (go_at_call 47; refine (beside_any p (by omega) p1 S.P.length K n hR hK HN.out _ x _ HR1.out).mono ?_; rintro e w2 ⟨gb, B, C, rfl, hp2, hb2⟩; have y0 := cell_stays hb2 (Z.out 0 _ rfl).1; have y1 := cell_stays hb2 (Z.out 1 _ rfl).1)
      | (go_at_call 44; refine (reduce_any p p0 p1 S.P.length (K + S.P.length) K S.P.length _ gb 0 B _ _ (besG p K x) (by omega) (by omega) (by omega) (besG_res p p0 S.P.length K x) _ hp2.grid hb2.size).mono ?_; rw [← HS.out]; rintro e w3 ⟨B', O', C', pv, rfl, hg3, ho3, hb3⟩; obtain ⟨pa, pc, rfl⟩ := own_slice ho3))
    have hg0 := hg3.empty (n' := S.P.length) 0 (fun i j => S.G (S.P.length + i) (K + j))
    have hbw : Below w.heap.size w w3 := HB0.out.trans ((hb2.mono (by rw [HS0.out]; omega)).trans (hb3.mono (by rw [HS0.out]; omega)))
    rw [HS0.out] at hg0 hb3 hb2
    have hs2 := hb2.size
    rw [HS0.out] at hs2
    have y0 := (World.cell?_of_block (w := w2) (a := ⟨w.heap.size, 0, none⟩) (hb3.block w.heap.size (by omega))).trans y0
    have y1 := (World.cell?_of_block (w := w2) (a := ⟨w.heap.size, 1, none⟩) (hb3.block w.heap.size (by omega))).trans y1
    have hs3 : w.heap.size + 1 ≤ w3.heap.size := Nat.le_trans hs2 hb3.size
    have HG := Lib.hid hg0
    have HBL := Lib.hid hbw
    have HT0 : Hid (RS.run p 0 S.P.length ⟨fun i j => S.G (S.P.length + i) (K + j), [], 1 % p⟩ S.P.length = T) := by have := HT.out; rw [Nat.sub_self] at this; exact this
    have HKG0 : Hid (Res p 0 S.P.length (fun i j => S.G (S.P.length + i) (K + j))) := by have := HKG.out; rw [Nat.sub_self] at this; exact this
    clear hg0 hbw hg3 ho3 hb3 hb2 hp2 hs2
    go_loopw [29] (fun iv wr => iv = .int .i64 0 ∧ wr = w3) (fun _ _ => 0)
    case atStart => exact ⟨rfl, rfl⟩
    case round =>
      obtain ⟨rfl, rfl⟩ := hrel
      go_wp2_with (go_at_call 44; refine (reduce_any p p0 p1 0 S.P.length S.P.length 0 _ gb 0 _ _ _ _ (by omega) (by omega) (Nat.le_refl _) HKG0.out _ HG.out hs3).mono ?_; rw [HT0.out]; rintro e w5 ⟨B5, O5, C5, pv5, rfl, hg5, ho5, hb5⟩; have HG5 := Lib.hid hg5; have HO5 := Lib.hid ho5; have HB5 := Lib.hid hb5; clear hg5 ho5 hb5)
      go_ret2
      rw [Nat.sub_self]
      exact ⟨gb, 0, B5, O5, C5, pv5, rfl, ⟨HG5.out.cells, HG5.out.rows, HG5.out.apart, HG5.out.off, HG5.out.caps, fun i hi => by have := HG5.out.own i hi; omega, by have := HG5.out.ownG; omega, HG5.out.lt⟩, own_mono HO5.out (by omega), HBL.out.trans (HB5.out.mono (by omega))⟩
  · have hlt : S.P.length < R := by omega
    clear hlr hle
    go_enter Try.func53, Try.ntmps53
    go_wp2_with (first
      | (go_at_call 47; refine (beside_any p (by omega) p1 R K n hR hK HN.out _ x _ HR1.out).mono ?_; rintro e w2 ⟨gb, B, C, rfl, hp2, hb2⟩; have y0 := cell_stays hb2 (Z.out 0 _ rfl).1; have y1 := cell_stays hb2 (Z.out 1 _ rfl).1)
      | (go_at_call 44; refine (reduce_any p p0 p1 R (K + R) K R _ gb 0 B _ _ (besG p K x) (by omega) (by omega) (by omega) (besG_res p p0 R K x) _ hp2.grid hb2.size).mono ?_; rw [← HS.out]; rintro e w3 ⟨B', O', C', pv, rfl, hg3, ho3, hb3⟩; obtain ⟨pa, pc, rfl⟩ := own_slice ho3))
    have hc0 := Cut.start ((hg3.drop S.P.length).congrO (Nat.zero_add _))
    generalize hq : R - S.P.length = q at *
    have hbw : Below w.heap.size w w3 := HB0.out.trans ((hb2.mono (by rw [HS0.out]; omega)).trans (hb3.mono (by rw [HS0.out]; omega)))
    rw [HS0.out] at hc0 hb3 hb2
    have hs2 := hb2.size
    rw [HS0.out] at hs2
    have y0 := (World.cell?_of_block (w := w2) (a := ⟨w.heap.size, 0, none⟩) (hb3.block w.heap.size (by omega))).trans y0
    have y1 := (World.cell?_of_block (w := w2) (a := ⟨w.heap.size, 1, none⟩) (hb3.block w.heap.size (by omega))).trans y1
    have hs3 : w.heap.size + 1 ≤ w3.heap.size := Nat.le_trans hs2 hb3.size
    have HC0 := Lib.hid hc0
    have HBW := Lib.hid hbw
    clear hc0 hbw hg3 ho3 hb3 hb2 hp2 hs2
    go_loopw [29] (fun iv wr => ∃ l : Nat, l ≤ q ∧ iv = .int .i64 l ∧ Cut wr (w.heap.size + 1) gb S.P.length q K R l (fun i => B' (S.P.length + i)) (fun i => O' (S.P.length + i)) (fun i => C' (S.P.length + i)) (fun i => S.G (S.P.length + i)) ∧
        Below w.heap.size w wr ∧ wr.cell? ⟨w.heap.size, 0, none⟩ = some (.int .i64 R) ∧ wr.cell? ⟨w.heap.size, 1, none⟩ = some (.int .i64 K) ∧ w.heap.size + 1 ≤ wr.heap.size) (fun iv _ => q - (intOf iv).toNat)
    case atStart => exact ⟨0, by omega, rfl, HC0.out, HBW.out, y0, y1, hs3⟩
    case round =>
      clear HC0 HBW y0 y1
      obtain ⟨l, l1, rfl, hcut, hbel, y0, y1, hs4⟩ := hrel
      have HC := Lib.hid hcut
      have HBL := Lib.hid hbel
      clear hcut hbel
      by_cases hl : l < q
      · obtain ⟨c1, c2⟩ := HC.out.cells l hl
        rw [if_neg (Nat.lt_irrefl l)] at c1
        have hcap := HC.out.caps l hl
        have hlen : K + R - K = R := Nat.add_sub_cancel_left K R
        go_wp2_with fail
        go_region
        all_goals
          have hn := HC.out.drew.next hl
          have hog := HC.out.ownG
          have hb4 : Below w.heap.size w (wr.drew.setCell ⟨gb, S.P.length + l, none⟩ (.slice (some ⟨B' (S.P.length + l), O' (S.P.length + l) + K, none⟩) R (C' (S.P.length + l) - K))) := HBL.out.drew.setCell (by show w.heap.size ≤ gb; omega) _
          have hg4 := gb_set wr.drew ⟨gb, S.P.length + l, none⟩ (.slice (some ⟨B' (S.P.length + l), O' (S.P.length + l) + K, none⟩) R (C' (S.P.length + l) - K))
          have z0 := hg4.cell (a := ⟨w.heap.size, 0, none⟩) y0 (by simp; omega)
          have z1 := hg4.cell (a := ⟨w.heap.size, 1, none⟩) y1 (by simp; omega)
          have z2 : w.heap.size + 1 ≤ (wr.drew.setCell ⟨gb, S.P.length + l, none⟩ (.slice (some ⟨B' (S.P.length + l), O' (S.P.length + l) + K, none⟩) R (C' (S.P.length + l) - K))).heap.size := Nat.le_trans hs4 hg4.size
          have HN2 := Lib.hid (And.intro hn (And.intro hb4 (And.intro z0 (And.intro z1 z2))))
          clear hn hb4 z0 z1 z2 hg4
          go_wp2_with fail
          go_roundw
          case rel =>
            first
              | exact ⟨l + 1, by omega, by go_num, HN2.out⟩
              | (rw [hlen]; exact ⟨l + 1, by omega, by go_num, HN2.out⟩)
          case measure => simp [intOf]; omega
      · obtain rfl : l = q := by omega
        have hg := HC.out.done
        have HG := Lib.hid hg
        clear hg HC
        go_wp2_with (go_at_call 44; refine (reduce_any p p0 p1 l R R l _ gb S.P.length _ _ _ _ (by omega) (by omega) (Nat.le_refl _) HKG.out _ HG.out hs4).mono ?_; rw [HT.out]; rintro e w5 ⟨B5, O5, C5, pv5, rfl, hg5, ho5, hb5⟩; have HG5 := Lib.hid hg5; have HO5 := Lib.hid ho5; have HB5 := Lib.hid hb5; clear hg5 ho5 hb5)
        go_ret2
        subst hq
        exact ⟨gb, S.P.length, B5, O5, C5, pv5, rfl, ⟨HG5.out.cells, HG5.out.rows, HG5.out.apart, HG5.out.off, HG5.out.caps, fun i hi => by have := HG5.out.own i hi; omega, by have := HG5.out.ownG; omega, HG5.out.lt⟩, own_mono HO5.out (by omega), HBL.out.trans (HB5.out.mono (by omega))⟩

set_option maxHeartbeats 2000000 in
set_option maxRecDepth 100000 in
theorem Kernel_any (r c : Int) (p : Int) (hp : 0 ≤ p) (s : Value) (n : Nat) (x : Nat → Raw) (w : World) (hr : RdL w s n x) :
    Calls Try.prog 26 #[.agg #[.int .i64 r, .int .i64 c, s], .int .u64 p] w fun e w' => ∃ v,
      e = .returned (.tuple #[v, .int .i64 (openE r c n p true)]) ∧ AnsM w' w.heap.size v (openE r c n p true) (r.toNat - kerR p r.toNat c.toNat x) r.toNat (kerS p r.toNat c.toNat x).G ∧ Below w.heap.size w w' := by
  obtain ⟨a, cap, rfl, hn⟩ := hr.slice
  have HR := Lib.hid hr
  have HO := Lib.hid (Opened.start w r c (.slice a n cap))
  clear hr
  by_cases he : openE r c n p true = 0
  · obtain ⟨R, C, rfl, rfl, hR, hC, hN, p0, p1, -, -⟩ := openE_ok he
    rw [he, Int.toNat_natCast, Int.toNat_natCast]
    have hle := kerR_le p R C x
    have HGB : Hid (∀ i j, i < R - kerR p R C x → j < R → 0 ≤ (kerS p R C x).G i j ∧ (kerS p R C x).G i j < 2147483648) := fun i j hi hj => by
      have := kerS_res p p0 R C x i j hi hj; omega
    have hk := fun w hr => kernel_any p p0 p1 R C n hR hC hN (.slice a n cap) x w hr
    generalize hq : R - kerR p R C x = q at *
    generalize (kerS p R C x).G = T at *
    have hq64 : q ≤ 64 := by omega
    have HK := Lib.hid hk
    have HE := Lib.hid he
    clear he hN hk hq hle
    go_enter Try.func26, Try.ntmps26
    go_wp2_with (first
      | (go_at_call 43; refine (open_any R C a n cap hn p hp true _).mono ?_; rw [HE.out]; rintro e w1 ⟨rfl, hb1⟩; have HO := Lib.hid (HO.out.step HO.out.size hb1); obtain ⟨x0, x1, x2, ⟨z0, y0⟩, ⟨z1, y1⟩, ⟨z2, y2⟩, hB1, hsz⟩ := HO.out; have hr1 := Lib.hid (HR.out.below hB1); clear hb1)
      | (go_at_call 53; refine (HK.out _ hr1.out).mono ?_; rintro e w2 ⟨gb, go, B, O, C', pv, rfl, hg2, ho2, hb2⟩; have HO2 := Lib.hid (HO.out.step hsz hb2); have y0 := HO2.out.x0; have y1 := HO2.out.x1; have y2 := HO2.out.x2; have hs3 := HO2.out.size)
      | (go_at_call 48; refine (whole_any q R _ _ gb go B _ _ _ hq64 hR HGB.out _ hg2).mono ?_; rintro e w4 ⟨lb, M, rfl, hl4, hb4⟩; have HO4 := Lib.hid (HO2.out.step hs3 hb4); obtain ⟨y0, y1, y2, ⟨z0, s0⟩, ⟨z1, s1⟩, ⟨z2, s2⟩, hB4, hsz4⟩ := HO4.out))
    obtain ⟨o1, o2⟩ := HO4.out.out (.int .i64 q) (.int .i64 R) (.slice (some ⟨lb, 0, none⟩) (q * R) (q * R)) hs3 hl4
    refine bodyPost_ret (v := .tuple #[.agg #[.int .i64 q, .int .i64 R, .slice (some ⟨lb, 0, none⟩) (q * R) (q * R)], .int .i64 0]) ?_ rfl ⟨_, rfl, ⟨fun _ => ⟨lb, M, rfl, o1⟩, fun h => absurd rfl h⟩, o2⟩
    simp [results, Try.results26, go_sem, z0, z1, z2]
  · have hne : (openE r c n p true != 0) = true := by rw [bne_iff_ne]; exact he
    obtain ⟨E, hE⟩ : ∃ E, E = openE r c n p true := ⟨_, rfl⟩
    rw [← hE] at hne ⊢
    have HE := Lib.hid hE.symm
    have HNE : Hid (E ≠ 0) := by rw [hE]; exact he
    clear he hE
    go_enter Try.func26, Try.ntmps26
    go_wp2_with (go_at_call 43; refine (open_any r c a n cap hn p hp true _).mono ?_; rw [HE.out]; rintro e w1 ⟨rfl, hb1⟩; have HO1 := Lib.hid (HO.out.step HO.out.size hb1); obtain ⟨y0, y1, y2, ⟨z0, s0⟩, ⟨z1, s1⟩, ⟨z2, s2⟩, hB3, hsz3⟩ := HO1.out)
    refine bodyPost_ret (v := .tuple #[mat0, .int .i64 E]) ?_ rfl ⟨_, rfl, ⟨fun h => absurd h HNE.out, fun _ => rfl⟩, HO1.out.none (.int .i64 0) (.int .i64 0) (.slice none 0 0)⟩
    simp [results, Try.results26, go_sem, z0, z1, z2, mat0]

end Go.Proofs.Ytdlpemmoobbgnaa
