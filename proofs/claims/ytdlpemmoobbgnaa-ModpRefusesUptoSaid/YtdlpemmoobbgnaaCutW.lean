/- Rows cut off at the left: what stays of a grid; the walk of modp.Inverse. -/
import Derived.Test.YtdlpemmoobbgnaaBeside
set_option linter.unusedVariables false
set_option linter.unusedSimpArgs false
namespace Go.Proofs.Ytdlpemmoobbgnaa
open Go.RowKit

/-- a grid of rows of K + n numbers, of which the first l rows have lost their first K -/
structure Cut (w : World) (base gb go m K n l : Nat) (B O C : Nat → Nat) (G : Nat → Nat → Int) : Prop where
  cells : ∀ i, i < m → w.cell? ⟨gb, go + i, none⟩ = some (if i < l then .slice (some ⟨B i, O i + K, none⟩) n (C i - K) else .slice (some ⟨B i, O i, none⟩) (K + n) (C i)) ∧ w.frozen? ⟨gb, go + i, none⟩ = false
  rows : ∀ i, i < m → RowAt .u64 w (B i) (O i) (K + n) (G i)
  apart : ∀ i j, i < m → j < m → B i = B j → i = j
  off : ∀ i, i < m → B i ≠ gb
  caps : ∀ i, i < m → K + n ≤ C i ∧ K + n ≤ 17592186044416
  own : ∀ i, i < m → base ≤ B i
  ownG : base ≤ gb
  lt : ∀ i, i < m → B i < w.heap.size

section
variable {w w' : World} {base gb go m K n l : Nat} {B O C : Nat → Nat} {G : Nat → Nat → Int}

theorem Cut.start (h : GridAt .u64 w base gb go m (K + n) B O C G) : Cut w base gb go m K n 0 B O C G :=
  { h with cells := fun i hi => by rw [if_neg (Nat.not_lt_zero i)]; exact h.cells i hi }

theorem Cut.drew (h : Cut w base gb go m K n l B O C G) : Cut w.drew base gb go m K n l B O C G :=
  ⟨h.cells, h.rows, h.apart, h.off, h.caps, h.own, h.ownG, h.lt⟩

theorem Cut.next (h : Cut w base gb go m K n l B O C G) (hl : l < m) : Cut (w.setCell ⟨gb, go + l, none⟩ (.slice (some ⟨B l, O l + K, none⟩) n (C l - K))) base gb go m K n (l + 1) B O C G := by
  refine { h with cells := fun i hi => ?_, rows := fun i hi => (h.rows i hi).other (fun e => h.off i hi (by simpa using e.symm)) _, lt := fun i hi => by simpa using h.lt i hi }
  obtain ⟨c1, c2⟩ := h.cells i hi
  rw [World.frozen?_setCell]
  refine ⟨?_, c2⟩
  by_cases e : i = l
  · subst e
    rw [if_pos (by omega)]
    exact World.cell?_setCell_same _ _ _ c1
  · rw [World.cell?_setCell_other _ _ _ _ (by intro e'; injection e' with _ e3 _; omega), c1]
    by_cases e2 : i < l
    · rw [if_pos e2, if_pos (by omega)]
    · rw [if_neg e2, if_neg (by omega)]

theorem Cut.done (h : Cut w base gb go m K n m B O C G) : GridAt .u64 w base gb go m n B (fun i => O i + K) (fun i => C i - K) (fun i j => G i (K + j)) :=
  ⟨fun i hi => by have := h.cells i hi; rw [if_pos hi] at this; exact this,
   fun i hi j hj => by have := h.rows i hi (K + j) (by omega); rw [← Nat.add_assoc] at this; exact this,
   h.apart, h.off, fun i hi => by have := h.caps i hi; omega, h.own, h.ownG, h.lt⟩

theorem GridAt.drop {k : IntKind} (h : GridAt k w base gb go m n B O C G) (r : Nat) : GridAt k w base gb (go + r) (m - r) n (fun i => B (r + i)) (fun i => O (r + i)) (fun i => C (r + i)) (fun i => G (r + i)) :=
  ⟨fun i hi => by have := h.cells (r + i) (by omega); rw [← Nat.add_assoc] at this; exact this, fun i hi => h.rows _ (by omega),
   fun i j hi hj e => by have := h.apart (r + i) (r + j) (by omega) (by omega) e; omega, fun i hi => h.off _ (by omega), fun i hi => h.caps _ (by omega), fun i hi => h.own _ (by omega), h.ownG, fun i hi => h.lt _ (by omega)⟩

theorem GridAt.congrO {k : IntKind} (h : GridAt k w base gb go m n B O C G) {go' : Nat} (e : go = go') : GridAt k w base gb go' m n B O C G := e ▸ h
end

/-- the state of the elimination of a with the unit matrix beside it -/
def besS (p : Int) (R K : Nat) (x : Nat → Raw) : RS := RS.run p R (K + R) ⟨besG p K x, [], 1 % p⟩ K

theorem besG_res (p : Int) (hp : 2 ≤ p) (R K : Nat) (x : Nat → Raw) : Res p R (K + R) (besG p K x) := by
  intro i j _ _
  unfold besG
  split
  · exact resid_bd _ p (by omega)
  · split <;> omega

theorem besS_res (p : Int) (hp : 2 ≤ p) (R K : Nat) (x : Nat → Raw) : Res p R (K + R) (besS p R K x).G :=
  RS.run_res (s := ⟨besG p K x, [], 1 % p⟩) (by omega) (Nat.zero_le _) (besG_res p hp R K x) K

def invE (r c : Int) (n : Nat) (x : Nat → Raw) (p : Int) : Int :=
  if openE r c n p (r == c) = 0 then if (besS p r.toNat c.toNat x).P.length < r.toNat then 6 else 0 else openE r c n p (r == c)

set_option maxHeartbeats 2000000 in
set_option maxRecDepth 100000 in
theorem Inverse_any (r c : Int) (p : Int) (hp : 0 ≤ p) (s : Value) (n : Nat) (x : Nat → Raw) (w : World) (hr : RdL w s n x) :
    Calls Try.prog 20 #[.agg #[.int .i64 r, .int .i64 c, s], .int .u64 p] w fun e w' => ∃ v,
      e = .returned (.tuple #[v, .int .i64 (invE r c n x p)]) ∧ AnsM w' w.heap.size v (invE r c n x p) r.toNat r.toNat (fun i j => (besS p r.toNat c.toNat x).G i (c.toNat + j)) ∧ Below w.heap.size w w' := by
  obtain ⟨a, cap, rfl, hn⟩ := hr.slice
  have HR := Lib.hid hr
  have HO := Lib.hid (Opened.start w r c (.slice a n cap))
  clear hr
  by_cases he : openE r c n p (r == c) = 0
  · obtain ⟨R, C, rfl, rfl, hR, hC, hN, p0, p1, hrc, -⟩ := openE_ok he
    obtain rfl : R = C := by have : (R : Int) = C := by simpa using hrc
                             omega
    obtain ⟨S, hS⟩ : ∃ S, S = RS.run p R (R + R) ⟨besG p R x, [], 1 % p⟩ R := ⟨_, rfl⟩
    have hbs : besS p R R x = S := hS.symm
    have HI : Hid (invE R R n x p = if S.P.length < R then 6 else 0) := by show _ = _; unfold invE; rw [if_pos he, Int.toNat_natCast, hbs]
    have HRS : Hid (Res p R (R + R) S.G) := by have := besS_res p p0 R R x; rw [hbs] at this; exact this
    rw [Int.toNat_natCast, hbs]
    have hE : openE R R n p true = 0 := by rw [hrc] at he; exact he
    have HE := Lib.hid hE
    have HN := Lib.hid hN
    have HS := Lib.hid hS
    have HGB : Hid (∀ i j, i < R → j < R → 0 ≤ S.G i (R + j) ∧ S.G i (R + j) < 2147483648) := fun i j hi hj => by
      have := HRS.out i (R + j) hi (by omega); omega
    clear he hN hS hrc hbs hE
    by_cases hlt : S.P.length < R
    · rw [HI.out, if_pos hlt]
      go_enter Try.func20, Try.ntmps20
      go_wp2_with (first
        | (go_at_call 43; refine (open_any R R a n cap hn p hp true _).mono ?_; rw [HE.out]; rintro e w1 ⟨rfl, hb1⟩; have HO := Lib.hid (HO.out.step HO.out.size hb1); obtain ⟨x0, x1, x2, ⟨z0, y0⟩, ⟨z1, y1⟩, ⟨z2, y2⟩, hB1, hsz⟩ := HO.out; have hr1 := Lib.hid (HR.out.below hB1); clear hb1)
        | (go_at_call 47; refine (beside_any p (by omega) p1 R R n hR hC HN.out _ x _ hr1.out).mono ?_; rintro e w2 ⟨gb, B, C, rfl, hp2, hb2⟩; have HO2 := Lib.hid (HO.out.step hsz hb2); have y0 := HO2.out.x0; have y1 := HO2.out.x1; have y2 := HO2.out.x2)
        | (go_at_call 44; refine (reduce_any p p0 p1 R (R + R) R R _ gb 0 B _ _ (besG p R x) (by omega) (by omega) (by omega) (besG_res p p0 R R x) _ hp2.grid hb2.size).mono ?_; rw [← HS.out]; rintro e w3 ⟨B', O', C', pv, rfl, hg3, ho3, hb3⟩; obtain ⟨pa, pc, rfl⟩ := own_slice ho3; have HO3 := Lib.hid (HO2.out.step hsz hb3); obtain ⟨y0, y1, y2, ⟨z0, s0⟩, ⟨z1, s1⟩, ⟨z2, s2⟩, hB3, hsz3⟩ := HO3.out))
      refine bodyPost_ret (v := .tuple #[mat0, .int .i64 6]) ?_ rfl ⟨_, rfl, ⟨fun h => absurd h (by omega), fun _ => rfl⟩, HO3.out.none (.int .i64 0) (.int .i64 0) (.slice none 0 0)⟩
      simp [results, Try.results20, go_sem, z0, z1, z2, mat0]
    · rw [HI.out, if_neg hlt]
      go_enter Try.func20, Try.ntmps20
      go_wp2_with (first
        | (go_at_call 43; refine (open_any R R a n cap hn p hp true _).mono ?_; rw [HE.out]; rintro e w1 ⟨rfl, hb1⟩; have HO := Lib.hid (HO.out.step HO.out.size hb1); obtain ⟨x0, x1, x2, ⟨z0, y0⟩, ⟨z1, y1⟩, ⟨z2, y2⟩, hB1, hsz⟩ := HO.out; have hr1 := Lib.hid (HR.out.below hB1); clear hb1)
        | (go_at_call 47; refine (beside_any p (by omega) p1 R R n hR hC HN.out _ x _ hr1.out).mono ?_; rintro e w2 ⟨gb, B, C, rfl, hp2, hb2⟩; have HO2 := Lib.hid (HO.out.step hsz hb2); have y0 := HO2.out.x0; have y1 := HO2.out.x1; have y2 := HO2.out.x2)
        | (go_at_call 44; refine (reduce_any p p0 p1 R (R + R) R R _ gb 0 B _ _ (besG p R x) (by omega) (by omega) (by omega) (besG_res p p0 R R x) _ hp2.grid hb2.size).mono ?_; rw [← HS.out]; rintro e w3 ⟨B', O', C', pv, rfl, hg3, ho3, hb3⟩; obtain ⟨pa, pc, rfl⟩ := own_slice ho3; have HO3 := Lib.hid (HO2.out.step hsz hb3); obtain ⟨y0, y1, y2, ⟨z0, s0⟩, ⟨z1, s1⟩, ⟨z2, s2⟩, hB3, hsz3⟩ := HO3.out))
      have hc0 := Cut.start hg3
      have HC0 := Lib.hid hc0
      have hs3 := hb2.size
      clear hc0 hg3 ho3 hb3 hb2 hp2 HO2
      go_loopw [42] (fun iv wr => ∃ l : Nat, l ≤ R ∧ iv = .int .i64 l ∧ Cut wr w1.heap.size gb 0 R R R l B' O' C' S.G ∧ Opened w wr R R (.slice a n cap)) (fun iv _ => R - (intOf iv).toNat)
      case atStart => exact ⟨0, by omega, rfl, HC0.out, HO3.out⟩
      case round =>
        clear z0 s0 z1 s1 z2 s2 y0 y1 y2 hB3 hsz3
        obtain ⟨l, l1, rfl, hcut, hop⟩ := hrel
        have HOP : Hid (Opened w wr R R (.slice a n cap)) := hop
        obtain ⟨y0, y1, y2, ⟨z0, s0⟩, ⟨z1, s1⟩, ⟨z2, s2⟩, hB3, hsz3⟩ := hop
        have HC := Lib.hid hcut
        clear hcut
        by_cases hl : l < R
        · obtain ⟨c1, c2⟩ := HC.out.cells l hl
          rw [if_neg (Nat.lt_irrefl l), Nat.zero_add] at c1
          rw [Nat.zero_add] at c2
          have hcap := HC.out.caps l hl
          go_wp2_with fail
          have hlen : R + R - R = R := Nat.add_sub_cancel R R
          go_region
          all_goals
            have hn := HC.out.drew.next hl
            rw [Nat.zero_add] at hn
            have HN2 := Lib.hid hn
            have hog := HC.out.ownG
            have hO3 := Lib.hid (HOP.out.drew.step (B := w1.heap.size) hsz ((Below.refl _ _).setCell (p := ⟨gb, l, none⟩) hog (.slice (some ⟨B' l, O' l + R, none⟩) R (C' l - R))))
            clear hn
            go_wp2_with fail
            go_roundw
            case rel => exact ⟨l + 1, by omega, by go_num, by first | exact HN2.out | (rw [hlen]; exact HN2.out), by first | exact hO3.out | (rw [hlen]; exact hO3.out)⟩
            case measure => simp [intOf]; omega
        · obtain rfl : l = R := by omega
          have hg := HC.out.done
          have HG := Lib.hid hg
          clear hg HC
          have hsw := HOP.out.size
          go_wp2_with (go_at_call 48; refine (whole_any l l l _ gb 0 B' _ _ _ hR hC HGB.out _ HG.out).mono ?_; rintro e w4 ⟨lb, M, rfl, hl4, hb4⟩; have HO4 := Lib.hid (HOP.out.step hsw hb4); obtain ⟨y0, y1, y2, ⟨z0, s0⟩, ⟨z1, s1⟩, ⟨z2, s2⟩, hB4, hsz4⟩ := HO4.out)
          obtain ⟨o1, o2⟩ := HO4.out.out (.int .i64 l) (.int .i64 l) (.slice (some ⟨lb, 0, none⟩) (l * l) (l * l)) hsw hl4
          refine bodyPost_ret (v := .tuple #[.agg #[.int .i64 l, .int .i64 l, .slice (some ⟨lb, 0, none⟩) (l * l) (l * l)], .int .i64 0]) ?_ rfl ⟨_, rfl, ⟨fun _ => ⟨lb, M, rfl, o1⟩, fun h => absurd rfl h⟩, o2⟩
          simp [results, Try.results20, go_sem, z0, z1, z2]
  · have hI : invE r c n x p = openE r c n p (r == c) := if_neg he
    have hne : (openE r c n p (r == c) != 0) = true := by rw [bne_iff_ne]; exact he
    rw [hI]
    obtain ⟨E, hE⟩ : ∃ E, E = openE r c n p (r == c) := ⟨_, rfl⟩
    rw [← hE] at hne ⊢
    have HE := Lib.hid hE.symm
    have HNE : Hid (E ≠ 0) := by rw [hE]; exact he
    clear he hE hI
    go_enter Try.func20, Try.ntmps20
    go_wp2_with (go_at_call 43; refine (open_any r c a n cap hn p hp (r == c) _).mono ?_; rw [HE.out]; rintro e w1 ⟨rfl, hb1⟩; have HO1 := Lib.hid (HO.out.step HO.out.size hb1); obtain ⟨y0, y1, y2, ⟨z0, s0⟩, ⟨z1, s1⟩, ⟨z2, s2⟩, hB3, hsz3⟩ := HO1.out)
    refine bodyPost_ret (v := .tuple #[mat0, .int .i64 E]) ?_ rfl ⟨_, rfl, ⟨fun h => absurd h HNE.out, fun _ => rfl⟩, HO1.out.none (.int .i64 0) (.int .i64 0) (.slice none 0 0)⟩
    simp [results, Try.results20, go_sem, z0, z1, z2, mat0]

end Go.Proofs.Ytdlpemmoobbgnaa
