/- The walks of modp.Rank, modp.Reduce and modp.Echelon. -/
import Derived.Test.YtdlpemmoobbgnaaDetW
import Derived.Test.YtdlpemmoobbgnaaWhole
set_option linter.unusedVariables false
set_option linter.unusedSimpArgs false
namespace Go.Proofs.Ytdlpemmoobbgnaa
open Go.RowKit

theorem openE_ok {r c : Int} {n : Nat} {p : Int} {fit : Bool} (h : openE r c n p fit = 0) :
    ∃ R C : Nat, r = R ∧ c = C ∧ R ≤ 64 ∧ C ≤ 64 ∧ n = R * C ∧ 2 ≤ p ∧ p < 2147483648 ∧ fit = true ∧ primeB p = true := by
  have hs : soundB r c n = true := by
    unfold openE at h; by_cases g : soundB r c n = true
    · exact g
    · rw [if_neg g] at h; omega
  unfold openE at h; rw [if_pos hs] at h
  have hf : fit = true := by
    by_cases g : fit = true
    · exact g
    · rw [if_neg g] at h; omega
  rw [if_pos hf] at h
  have hp : primeB p = true := by
    by_cases g : primeB p = true
    · exact g
    · rw [if_neg g] at h; omega
  obtain ⟨⟨s0, s1⟩, ⟨t0, t1⟩, s2⟩ := soundB_yes hs
  obtain ⟨p0, p1⟩ := primeB_bd hp
  obtain ⟨R, rfl⟩ := Int.eq_ofNat_of_zero_le s0
  obtain ⟨C, rfl⟩ := Int.eq_ofNat_of_zero_le t0
  exact ⟨R, C, rfl, rfl, by omega, by omega, by exact_mod_cast s2, p0, p1, hf, hp⟩

/-- no matrix -/
def mat0 : Value := .agg #[.int .i64 0, .int .i64 0, .slice none 0 0]
/-- a matrix of m rows and n columns of residues, in memory that lay nowhere before block base -/
def OutM (w' : World) (base : Nat) (v : Value) (m n : Nat) (G : Nat → Nat → Int) : Prop :=
  ∃ lb M, v = .agg #[.int .i64 m, .int .i64 n, .slice (some ⟨lb, 0, none⟩) (m * n) (m * n)] ∧
    LS 56 22 w' base base lb (m * n) (m * n) (fun q => small (G (q / n) (q % n))) M
/-- a matrix, or an error and none -/
def AnsM (w' : World) (base : Nat) (v : Value) (E : Int) (m n : Nat) (G : Nat → Nat → Int) : Prop :=
  (E = 0 → OutM w' base v m n G) ∧ (E ≠ 0 → v = mat0)

theorem retT {u v u' v' : Value} (h : u = u') (g : v = v') : Ending.returned (.tuple #[u, v]) = .returned (.tuple #[u', v']) := by rw [h, g]

theorem redS_res {p : Int} (hp : 2 ≤ p) {m n : Nat} {G : Nat → Nat → Int} (h : Res p m n G) (cols : Nat) : Res p m n (redS p m n G cols).G :=
  RS.run_res (s := ⟨G, [], 1 % p⟩) (by omega) (Nat.zero_le _) h cols

def rankV (r c : Int) (n : Nat) (x : Nat → Raw) (p : Int) : Int :=
  if openE r c n p true = 0 then ((redS p r.toNat c.toNat (resG p c.toNat x) c.toNat).P.length : Int) else 0

set_option maxHeartbeats 2000000 in
set_option maxRecDepth 100000 in
theorem Rank_any (r c : Int) (p : Int) (hp : 0 ≤ p) (s : Value) (n : Nat) (x : Nat → Raw) (w : World) (hr : RdL w s n x) :
    Calls Try.prog 31 #[.agg #[.int .i64 r, .int .i64 c, s], .int .u64 p] w fun e w' =>
      e = .returned (.tuple #[.int .i64 (rankV r c n x p), .int .i64 (openE r c n p true)]) ∧ Below w.heap.size w w' := by
  obtain ⟨a, cap, rfl, hn⟩ := hr.slice
  have HR := Lib.hid hr
  clear hr
  by_cases he : openE r c n p true = 0
  · obtain ⟨R, C, rfl, rfl, hR, hC, hN, p0, p1, -, -⟩ := openE_ok he
    obtain ⟨S, hS⟩ : ∃ S, S = RS.run p R C ⟨resG p C x, [], 1 % p⟩ C := ⟨_, rfl⟩
    have HV : Hid (rankV R C n x p = S.P.length) := by show _ = _; unfold rankV; rw [if_pos he, Int.toNat_natCast, Int.toNat_natCast, hS]; rfl
    have HE := Lib.hid he
    have HN := Lib.hid hN
    have HS := Lib.hid hS
    clear he hN hS
    go_enter Try.func31, Try.ntmps31
    go_wp2_with (go_at_call 43; refine (open_any R C a n cap hn p hp true _).mono ?_; rw [HE.out]; rintro e w1 ⟨rfl, hb1⟩)
    have hx := fun o u (h : (w.alloc (.cells #[.int .i64 R, .int .i64 C, .slice a n cap] 34)).cell? ⟨w.heap.size, o, none⟩ = some u) => cell_stays hb1 h
    have x0 := hx 0 (.int .i64 R) (by go_simp)
    have x1 := hx 1 (.int .i64 C) (by go_simp)
    have x2 := hx 2 (.slice a n cap) (by go_simp)
    have hB1 : Below w.heap.size w w1 := ((Below.refl _ _).alloc (Nat.le_refl _) _).trans (hb1.mono (by simp))
    have hsz : w.heap.size < w1.heap.size := by have := hb1.size; simp at this; omega
    have hr1 := Lib.hid (HR.out.below hB1)
    clear hx hb1
    have hszd : w.heap.size < w1.drew.heap.size := hsz
    go_region_with ((first
      | (go_at_call 45; refine (residues_any p (by omega) p1 R C n (by omega) (by omega) HN.out _ x _ (hr1.out.below (Below.refl _ _).drew)).mono ?_; rintro e w2 ⟨gb, B, rfl, hp2, hb2⟩; have y0 := cell_stays (w := w1.drew) hb2 x0; have y1 := cell_stays (w := w1.drew) hb2 x1; have y2 := cell_stays (w := w1.drew) hb2 x2)
      | (go_at_call 44; refine (reduce_any p p0 p1 R C C R _ gb 0 B _ _ (resG p C x) (by omega) (by omega) (Nat.le_refl _) (resG_res p (by omega) R C C x) _ (hp2.grid (by omega)) hb2.size).mono ?_; rw [← HS.out]; rintro e w3 ⟨B', O', C', pv, rfl, hg3, ho3, hb3⟩; obtain ⟨pa, pc, rfl⟩ := own_slice ho3)))
    all_goals
      have hB3 : Below w.heap.size w w3 := ((hB1.drew).trans (hb2.mono (by omega))).trans (hb3.mono (by omega))
      clear hg3 ho3 hp2
      go_wp2_with fail
      go_ret2
      exact ⟨retT (by rw [HV.out]; rfl) (by rw [HE.out]; rfl), hB3⟩
  · have hV : rankV r c n x p = 0 := if_neg he
    have hne : (openE r c n p true != 0) = true := by rw [bne_iff_ne]; exact he
    obtain ⟨E, hE⟩ : ∃ E, E = openE r c n p true := ⟨_, rfl⟩
    rw [← hE] at hne ⊢
    have HE := Lib.hid hE.symm
    have HV := Lib.hid hV
    clear he hE hV
    go_enter Try.func31, Try.ntmps31
    go_wp2_with (go_at_call 43; refine (open_any r c a n cap hn p hp true _).mono ?_; rw [HE.out]; rintro e w1 ⟨rfl, hb1⟩)
    go_ret2
    exact ⟨retT (by rw [HV.out]; rfl) rfl, ((Below.refl _ _).alloc (Nat.le_refl _) _).trans (hb1.mono (by simp))⟩

/-- the parameter's box and the result's box, both just made -/
structure Opened (w w1 : World) (r c : Int) (sl : Value) : Prop where
  x0 : w1.cell? ⟨w.heap.size, 0, none⟩ = some (.int .i64 r)
  x1 : w1.cell? ⟨w.heap.size, 1, none⟩ = some (.int .i64 c)
  x2 : w1.cell? ⟨w.heap.size, 2, none⟩ = some sl
  z0 : w1.cell? ⟨w.heap.size + 1, 0, none⟩ = some (.int .i64 0) ∧ w1.frozen? ⟨w.heap.size + 1, 0, none⟩ = false
  z1 : w1.cell? ⟨w.heap.size + 1, 1, none⟩ = some (.int .i64 0) ∧ w1.frozen? ⟨w.heap.size + 1, 1, none⟩ = false
  z2 : w1.cell? ⟨w.heap.size + 1, 2, none⟩ = some (.slice none 0 0) ∧ w1.frozen? ⟨w.heap.size + 1, 2, none⟩ = false
  below : Below w.heap.size w w1
  size : w.heap.size + 2 ≤ w1.heap.size

theorem Opened.step {w w1 w2 : World} {r c : Int} {sl : Value} (h : Opened w w1 r c sl) {B : Nat} (hB : w.heap.size + 2 ≤ B) (hb : Below B w1 w2) : Opened w w2 r c sl := by
  have c1 (b o : Nat) (u : Value) (hbB : b < B) (hu : w1.cell? ⟨b, o, none⟩ = some u) : w2.cell? ⟨b, o, none⟩ = some u :=
    (World.cell?_of_block (w := w1) (a := ⟨b, o, none⟩) (hb.block b hbB)).trans hu
  have c2 (b o : Nat) (u : Value) (hbB : b < B) (hu : w1.cell? ⟨b, o, none⟩ = some u ∧ w1.frozen? ⟨b, o, none⟩ = false) : w2.cell? ⟨b, o, none⟩ = some u ∧ w2.frozen? ⟨b, o, none⟩ = false :=
    ⟨c1 b o u hbB hu.1, (World.frozen?_of_block (w := w1) (a := ⟨b, o, none⟩) (hb.block b hbB)).trans hu.2⟩
  exact ⟨c1 _ _ _ (by omega) h.x0, c1 _ _ _ (by omega) h.x1, c1 _ _ _ (by omega) h.x2, c2 _ _ _ (by omega) h.z0, c2 _ _ _ (by omega) h.z1, c2 _ _ _ (by omega) h.z2,
    h.below.trans (hb.mono (by omega)), Nat.le_trans h.size hb.size⟩

theorem Opened.drew {w w1 : World} {r c : Int} {sl : Value} (h : Opened w w1 r c sl) : Opened w w1.drew r c sl :=
  h.step h.size ⟨rfl, rfl, rfl, Nat.le_refl _, fun _ _ => rfl⟩

theorem Opened.start (w : World) (r c : Int) (sl : Value) :
    Opened w ((w.alloc (.cells #[.int .i64 r, .int .i64 c, sl] 34)).alloc (.cells #[.int .i64 0, .int .i64 0, .slice none 0 0] 34)) r c sl := by
  obtain ⟨w1, h1⟩ : ∃ w1, w1 = w.alloc (.cells #[.int .i64 r, .int .i64 c, sl] 34) := ⟨_, rfl⟩
  have s1 : w1.heap.size = w.heap.size + 1 := by rw [h1]; simp
  have c1 := three_cells w (.int .i64 r) (.int .i64 c) sl 34
  have b1 : Below w.heap.size w w1 := by rw [h1]; exact (Below.refl _ _).alloc (Nat.le_refl _) _
  rw [← h1] at c1 ⊢
  have c2 := three_cells w1 (.int .i64 0) (.int .i64 0) (.slice none 0 0) 34
  have b2 : Below w1.heap.size w1 (w1.alloc (.cells #[.int .i64 0, .int .i64 0, .slice none 0 0] 34)) := (Below.refl _ _).alloc (Nat.le_refl _) _
  rw [s1] at c2
  exact ⟨cell_stays b2 (c1 0 _ rfl).1, cell_stays b2 (c1 1 _ rfl).1, cell_stays b2 (c1 2 _ rfl).1, c2 0 _ rfl, c2 1 _ rfl, c2 2 _ rfl, b1.trans (b2.mono (by omega)), by simp [s1]⟩

/-- the answer is stored in the result's box -/
def stored (w3 : World) (b : Nat) (u v x : Value) : World := ((w3.setCell ⟨b, 0, none⟩ u).setCell ⟨b, 1, none⟩ v).setCell ⟨b, 2, none⟩ x

theorem stored_gb (w3 : World) (b : Nat) (u v x : Value) : w3.grownBy (stored w3 b u v x) (some b) := gb_trans (gb_trans (gb_set _ _ _) (gb_set _ _ _)) (gb_set _ _ _)

theorem Opened.out {w w3 : World} {r c : Int} {sl : Value} (h : Opened w w3 r c sl) (u v x : Value) {base lb K q : Nat} {y : Nat → Raw} {M : Nat → Value} (hb : w.heap.size + 2 ≤ base)
    (hl : LS 56 22 w3 base base lb K q y M) :
    LS 56 22 (stored w3 (w.heap.size + 1) u v x) w.heap.size w.heap.size lb K q y M ∧ Below w.heap.size w (stored w3 (w.heap.size + 1) u v x) := by
  have hg := stored_gb w3 (w.heap.size + 1) u v x
  have := hl.own
  refine ⟨(hl.grown hg (by simp; omega) (fun i hi => by
    cases hb' : (M i).ownBlock with
    | none => exact Or.inl rfl
    | some b => right; have := ((hl.mags i hi).lt hb').1; intro e; injection e with e; omega)).mono (by omega) (by omega), ?_⟩
  exact h.below.grown hg h.below.size (fun k hk => by injection hk with hk; omega)

theorem Opened.none {w w3 : World} {r c : Int} {sl : Value} (h : Opened w w3 r c sl) (u v x : Value) : Below w.heap.size w (stored w3 (w.heap.size + 1) u v x) :=
  h.below.grown (stored_gb w3 (w.heap.size + 1) u v x) h.below.size (fun k hk => by injection hk with hk; omega)

set_option maxHeartbeats 2000000 in
set_option maxRecDepth 100000 in
theorem Reduce_any (r c : Int) (p : Int) (hp : 0 ≤ p) (s : Value) (n : Nat) (x : Nat → Raw) (w : World) (hr : RdL w s n x) :
    Calls Try.prog 35 #[.agg #[.int .i64 r, .int .i64 c, s], .int .u64 p] w fun e w' => ∃ v,
      e = .returned (.tuple #[v, .int .i64 (openE r c n p true)]) ∧ AnsM w' w.heap.size v (openE r c n p true) r.toNat c.toNat (resG p c.toNat x) ∧ Below w.heap.size w w' := by
  obtain ⟨a, cap, rfl, hn⟩ := hr.slice
  have HR := Lib.hid hr
  have HO := Lib.hid (Opened.start w r c (.slice a n cap))
  clear hr
  by_cases he : openE r c n p true = 0
  · obtain ⟨R, C, rfl, rfl, hR, hC, hN, p0, p1, -, -⟩ := openE_ok he
    rw [he, Int.toNat_natCast, Int.toNat_natCast]
    have HE := Lib.hid he
    have HN := Lib.hid hN
    have HGB : Hid (∀ i j, i < R → j < C → 0 ≤ resG p C x i j ∧ resG p C x i j < 2147483648) := fun i j hi hj => by
      have := resG_res p (by omega) R C C x i j hi hj; omega
    clear he hN
    go_enter Try.func35, Try.ntmps35
    go_wp2_with (go_at_call 43; refine (open_any R C a n cap hn p hp true _).mono ?_; rw [HE.out]; rintro e w1 ⟨rfl, hb1⟩)
    have HO := Lib.hid (HO.out.step HO.out.size hb1)
    obtain ⟨x0, x1, x2, ⟨z0, y0⟩, ⟨z1, y1⟩, ⟨z2, y2⟩, hB1, hsz⟩ := HO.out
    have hr1 := Lib.hid (HR.out.below hB1)
    clear hb1
    go_region_with ((first
      | (go_at_call 45; refine (residues_any p (by omega) p1 R C n (by omega) (by omega) HN.out _ x _ (hr1.out.below (Below.refl _ _).drew)).mono ?_; rintro e w2 ⟨gb, B, rfl, hp2, hb2⟩; have HO2 := Lib.hid (HO.out.drew.step hsz hb2); have y0 := HO2.out.x0; have y1 := HO2.out.x1; have y2 := HO2.out.x2)
      | (go_at_call 48; refine (whole_any R C R _ gb 0 B _ _ _ hR hC HGB.out _ (hp2.grid (by omega))).mono ?_; rintro e w3 ⟨lb, M, rfl, hl3, hb3⟩; have hs2 := hb2.size; have HO3 := Lib.hid (HO2.out.step (Nat.le_trans hsz hs2) hb3); obtain ⟨y0, y1, y2, ⟨z0, s0⟩, ⟨z1, s1⟩, ⟨z2, s2⟩, hB3, hsz3⟩ := HO3.out)))
    all_goals
      clear hp2
      go_wp2_with fail
      obtain ⟨o1, o2⟩ := HO3.out.out (.int .i64 R) (.int .i64 C) (.slice (some ⟨lb, 0, none⟩) (R * C) (R * C)) (Nat.le_trans hsz hs2) hl3
      refine bodyPost_ret (v := .tuple #[.agg #[.int .i64 R, .int .i64 C, .slice (some ⟨lb, 0, none⟩) (R * C) (R * C)], .int .i64 0]) ?_ rfl ⟨_, rfl, ⟨fun _ => ⟨lb, M, rfl, o1⟩, fun h => absurd rfl h⟩, o2⟩
      simp [results, Try.results35, go_sem, z0, z1, z2]
  · have hne : (openE r c n p true != 0) = true := by rw [bne_iff_ne]; exact he
    obtain ⟨E, hE⟩ : ∃ E, E = openE r c n p true := ⟨_, rfl⟩
    rw [← hE] at hne ⊢
    have HE := Lib.hid hE.symm
    have HNE : Hid (E ≠ 0) := by rw [hE]; exact he
    clear he hE
    go_enter Try.func35, Try.ntmps35
    go_wp2_with (go_at_call 43; refine (open_any r c a n cap hn p hp true _).mono ?_; rw [HE.out]; rintro e w1 ⟨rfl, hb1⟩; have HO1 := Lib.hid (HO.out.step HO.out.size hb1); obtain ⟨y0, y1, y2, ⟨z0, s0⟩, ⟨z1, s1⟩, ⟨z2, s2⟩, hB3, hsz3⟩ := HO1.out)
    refine bodyPost_ret (v := .tuple #[mat0, .int .i64 E]) ?_ rfl ⟨_, rfl, ⟨fun h => absurd h HNE.out, fun _ => rfl⟩, HO1.out.none (.int .i64 0) (.int .i64 0) (.slice none 0 0)⟩
    simp [results, Try.results35, go_sem, z0, z1, z2, mat0]

end Go.Proofs.Ytdlpemmoobbgnaa
