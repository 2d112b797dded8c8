/- The walk of charpoly.Companion. trellislaw16.degree and monic. -/
import Derived.Test.YtejliecmdkmgiaaGR
import Derived.Test.YtejliecmdkmgiaaGS
set_option linter.unusedVariables false
set_option linter.unusedSimpArgs false
namespace Go.Proofs.Ytejliecmdkmgiaa
open Go.RowKit Go.Shelf

/-- the companion matrix when i columns are made -/
def cmE (n i : Nat) (p : Nat → Int) (q : Nat) : Int := if q / n + 1 = n then (if q % n < i then - p (q % n) else 0) else if q % n = q / n + 1 ∧ q / n < i then 1 else 0
theorem cmE_start (n : Nat) (p : Nat → Int) (q : Nat) : cmE n 0 p q = 0 := by
  unfold cmE
  split
  · rw [if_neg (by omega)]
  · rw [if_neg (fun h => absurd h.2 (Nat.not_lt_zero _))]
theorem cmE_full {n q : Nat} (hq : q < n * n) (p : Nat → Int) : cmE n n p q = flat n (cmpM n p) q := by
  obtain ⟨h1, h2, -⟩ := flat_lt hq
  unfold cmE flat cmpM
  by_cases e : q / n + 1 = n
  · rw [if_pos e, if_pos e, if_pos h2]
  · rw [if_neg e, if_neg e]
    by_cases e2 : q % n = q / n + 1
    · rw [if_pos ⟨e2, h1⟩, if_pos e2]
    · rw [if_neg (fun h => e2 h.1), if_neg e2]
theorem cmE_step {n i q : Nat} (hi : i < n) (hq : q < n * n) (p : Nat → Int) : (if q = (n - 1) * n + i then - p i else if i + 1 < n ∧ q = i * n + (i + 1) then 1 else cmE n i p q) = cmE n (i + 1) p q := by
  obtain ⟨h1, h2, h3⟩ := flat_lt hq
  by_cases e1 : q = (n - 1) * n + i
  · obtain ⟨d1, d2⟩ := idx_dm (i := n - 1) hi
    rw [if_pos e1, e1]
    unfold cmE
    rw [d1, d2, if_pos (by omega), if_pos (by omega)]
  · rw [if_neg e1]
    by_cases e2 : i + 1 < n ∧ q = i * n + (i + 1)
    · obtain ⟨d1, d2⟩ := idx_dm (i := i) e2.1
      rw [if_pos e2, e2.2]
      unfold cmE
      rw [d1, d2, if_neg (by omega), if_pos ⟨rfl, by omega⟩]
    · rw [if_neg e2]
      unfold cmE
      by_cases e3 : q / n + 1 = n
      · rw [if_pos e3, if_pos e3]
        by_cases e4 : q % n = i
        · exfalso; apply e1; rw [← h3, e4, show q / n = n - 1 by omega]
        · by_cases e5 : q % n < i
          · rw [if_pos e5, if_pos (by omega)]
          · rw [if_neg e5, if_neg (by omega)]
      · rw [if_neg e3, if_neg e3]
        by_cases e4 : q % n = q / n + 1
        · by_cases e5 : q / n = i
          · exfalso; apply e2; exact ⟨by omega, by rw [← h3, e4, e5]⟩
          · by_cases e6 : q / n < i
            · rw [if_pos ⟨e4, e6⟩, if_pos ⟨e4, by omega⟩]
            · rw [if_neg (fun h => e6 h.2), if_neg (fun h => by omega)]
        · rw [if_neg (fun h => e4 h.1), if_neg (fun h => e4 h.1)]

structure CoR (w wr : World) (n lb mb : Nat) (G : Nat → Int) : Prop where
  below : Below w.heap.size w wr
  r : MBox wr w.heap.size 0 0 (.slice none 0 0)
  m : MBox wr mb n n (.slice (some ⟨lb, 0, none⟩) (n * n) (n * n))
  g : PaE wr w.heap.size (fun b => b ≤ lb ∨ b = mb ∨ b = w.heap.size) lb (n * n) (n * n) G
  ne : w.heap.size < lb ∧ lb ≠ mb ∧ w.heap.size < mb ∧ mb < wr.heap.size
theorem CoR.on {w wr u : World} {n lb mb : Nat} {G : Nat → Int} (h : CoR w wr n lb mb G) (hu : Below wr.heap.size wr u) : CoR w u n lb mb G :=
  ⟨below_via h.below hu, h.r.below hu, h.m.below hu, h.g.below hu, h.ne.1, h.ne.2.1, h.ne.2.2.1, Nat.lt_of_lt_of_le h.ne.2.2.2 hu.size⟩
theorem CoR.congr {w wr : World} {n lb mb : Nat} {G F : Nat → Int} (h : CoR w wr n lb mb G) (e : ∀ q, q < n * n → G q = F q) : CoR w wr n lb mb F := { h with g := h.g.congr e }
theorem CoR.put {w wr u : World} {n lb mb : Nat} {G : Nat → Int} (h : CoR w wr n lb mb G) (hu : Below wr.heap.size wr u) {v : Value} {z : Int} {b : Nat} (hb : wr.heap.size ≤ b) (hf : FrZ u b v z) {S : Nat} (hz : ZB S z) (hS : S ≤ 274877906944) {j : Nat} (hj : j < n * n) :
    ∃ s a c d, v = .agg #[.bool s, .slice a c d] ∧ CoR w ((u.setCell ⟨lb, j * 2, none⟩ (.bool s)).setCell ⟨lb, j * 2 + 1, none⟩ (.slice a c d)) n lb mb (fun t => if t = j then z else G t) := by
  have h1 := h.on hu
  obtain ⟨n1, n2, n3, n4⟩ := h.ne
  have hlw := h.g.lt
  obtain ⟨s, a, c, d, rfl, hp⟩ := h1.g.putz hj (Or.inl (Nat.le_refl _)) hf hz hS (fun k k1 k2 k3 => by rcases k3 with k3 | k3 | k3 <;> omega)
  have hg := gb_two u lb (j * 2) (j * 2 + 1) (.bool s) (.slice a c d)
  exact ⟨s, a, c, d, rfl, h1.below.grown hg h1.below.size (fun k hk => by injection hk with hk; omega), h1.r.grown hg (by omega), h1.m.grown hg (fun e => n2 e.symm), hp, n1, n2, n3, Nat.lt_of_lt_of_le n4 (Nat.le_trans hu.size hg.size)⟩
theorem CoR.start {w w3 : World} {n lb : Nat} {G : Nat → Int} (h3 : Below (w.alloc (.cells #[.int .i64 0, .int .i64 0, .slice none 0 0] 24)).heap.size (w.alloc (.cells #[.int .i64 0, .int .i64 0, .slice none 0 0] 24)) w3) {base : Nat} (hbase : w.heap.size < base) (hf : FrE w3 base (fun b => b ≤ lb) lb (n * n) G) :
    CoR w (w3.alloc (.cells #[.int .i64 n, .int .i64 n, .slice (some ⟨lb, 0, none⟩) (n * n) (n * n)] 24)) n lb w3.heap.size G := by
  have hba := bl_alloc w (.cells #[.int .i64 0, .int .i64 0, .slice none 0 0] 24)
  have hbb := bl_alloc w3 (.cells #[.int .i64 n, .int .i64 n, .slice (some ⟨lb, 0, none⟩) (n * n) (n * n)] 24)
  have hs : (w.alloc (.cells #[.int .i64 0, .int .i64 0, .slice none 0 0] 24)).heap.size = w.heap.size + 1 := by simp
  have hs3 := h3.size
  have ho := hf.own
  have hl := hf.lt
  refine ⟨below_via hba (below_via h3 hbb), ((MBox.new w 0 0 _).below h3).below hbb, MBox.new w3 n n _, PaE.below ?_ hbb, by omega, by omega, by omega, by simp⟩
  exact (hf.mono (by omega)).turnD (fun b hb hn hd => by rcases hd with hd | hd | hd; exact hn hd; omega; exact hn (by omega))

set_option maxHeartbeats 4000000 in
set_option maxRecDepth 100000 in
theorem Companion_good (len n S : Nat) (x : Value) (E : Nat → Int) (w : World) (hx : RdE w x len E) (hs : szE E len = n + 1) (h1 : E n = 1) (hn : n ≤ 64) (hS : S ≤ 274877906944) (hz : ∀ j, j < n → ZB S (E j)) :
    Calls Try.prog 23 #[x] w fun e w' => ∃ lb, e = .returned (.tuple #[.agg #[.int .i64 n, .int .i64 n, .slice (some ⟨lb, 0, none⟩) (n * n) (n * n)], .int .i64 0]) ∧
      FrE w' w.heap.size (fun b => b ≤ lb) lb (n * n) (flat n (cmpM n E)) ∧ Below w.heap.size w w' := by
  have hmix : Try.prog.follows .mixedOrders = true := by kernel_rfl
  have hK4 : n * n ≤ 4096 := Nat.mul_le_mul hn hn
  have hle := szE_le E len
  rw [hs] at hle
  have hlen := hx.le_n
  have hmon : monB E len = true := by unfold monB; rw [hs]; exact decide_eq_true ⟨by omega, h1⟩
  obtain ⟨ax, cx, rfl, hcx⟩ := hx.slice
  have hba := bl_alloc w (.cells #[.int .i64 0, .int .i64 0, .slice none 0 0] 24)
  have hsz := fun (u : World) (hu : Below w.heap.size w u) => csize_any _ len E u (hx.below hu)
  have hmo := fun (u : World) (hu : Below w.heap.size w u) => monic_any _ len E u (hx.below hu)
  simp only [hs] at hsz
  simp only [hmon] at hmo
  have HX := Lib.hid hx
  have HSZ := Lib.hid hsz
  have HMO := Lib.hid hmo
  have HB := Lib.hid hba
  have HZ := Lib.hid hz
  have HSW := Lib.hid (show w.heap.size < (w.alloc (.cells #[.int .i64 0, .int .i64 0, .slice none 0 0] 24)).heap.size by simp)
  have HST := Lib.hid (fun (w3 : World) (lb base : Nat) (G : Nat → Int) h3 hbase hf => CoR.start (w := w) (w3 := w3) (n := n) (lb := lb) (base := base) (G := G) h3 hbase hf)
  clear hx hsz hmo hba hmon hs hz
  go_enter Try.func23, Try.ntmps23
  go_upto_region 1 with fail
  generalize w.alloc (.cells #[.int .i64 0, .int .i64 0, .slice none 0 0] 24) = W at *
  have w0 : IntKind.i64.wrap (((n + 1 : Nat) : Int) - 1) = (n : Int) := by rw [show ((n + 1 : Nat) : Int) - 1 = (n : Int) by omega]; exact IntWalk.i64_in _ (by omega)
  have hgt : ¬ (64 : Int) < (n : Int) := by omega
  go_wp2_with fail
  (refine (HSZ.out W HB.out).mono ?_)
  rintro e w1 ⟨rfl, hb1⟩
  have HB1 := Lib.hid (below_via HB.out hb1)
  have HW1 := Lib.hid hb1
  clear hb1 HSZ HB
  go_wp2_with fail
  (refine (HMO.out w1 HB1.out).mono ?_)
  rintro e w2 ⟨rfl, hb2⟩
  have HW2 := Lib.hid (below_via HW1.out hb2)
  clear hb2 HMO HW1 HB1
  go_wp2_with fail
  (refine (Zero_good n n w2 hn hn).mono ?_)
  rintro e w3 ⟨lb, rfl, hf3, hb3⟩
  have hst := HST.out w3 lb _ _ (below_via HW2.out hb3) (Nat.lt_of_lt_of_le HSW.out HW2.out.size) hf3
  have HCO := Lib.hid (hst.congr (F := cmE n 0 E) (fun q _ => (cmE_start n E q).symm))
  clear hst hf3 hb3 HW2 HST HSW
  go_upto_region 7 with fail
  obtain ⟨mb, hmb⟩ : ∃ mb, mb = w3.heap.size := ⟨_, rfl⟩
  rw [← hmb] at HCO ⊢
  clear hmb
  obtain ⟨N, hN⟩ : ∃ N, N = n * n := ⟨_, rfl⟩
  have hN5 : N ≤ 4096 := by omega
  have HN := Lib.hid hN
  clear hN hK4
  go_wp2_with fail
  go_loopw [25] (fun iv wr => ∃ i : Nat, i ≤ n ∧ iv = .int .i64 i ∧ CoR w wr n lb mb (cmE n i E)) (fun iv _ => n - (intOf iv).toNat)
  case atStart => exact ⟨0, Nat.zero_le _, rfl, HCO.out⟩
  case round =>
    clear HCO
    obtain ⟨i, hi, rfl, hrel⟩ := hrel
    by_cases hin : i < n
    · have hi1 : (i : Int) < (n : Int) := by omega
      have wi : IntKind.i64.wrap ((i : Int) + 1) = (i : Int) + 1 := IntWalk.i64_in _ (by omega)
      obtain ⟨d, hd⟩ : ∃ d, d = n - 1 := ⟨_, rfl⟩
      obtain ⟨q1, hq1⟩ : ∃ q1, q1 = d * n + i := ⟨_, rfl⟩
      obtain ⟨k1, k2⟩ := idx_lt (show d < n by omega) hin hq1
      have k3 : q1 < N := by rw [HN.out]; exact k1
      have hdn : d * n ≤ q1 := by omega
      have wd : IntKind.i64.wrap ((n : Int) - 1) = (d : Int) := by rw [show (n : Int) - 1 = (d : Int) by omega]; exact IntWalk.i64_in _ (by omega)
      have we : IntKind.i64.wrap ((d : Int) * (n : Int)) = (d : Int) * (n : Int) := IntWalk.i64_in _ (by omega)
      have wf : IntKind.i64.wrap ((d : Int) * (n : Int) + (i : Int)) = (q1 : Int) := by rw [k2]; exact IntWalk.i64_in _ (by omega)
      have hq1N : (q1 : Int) < (N : Int) := by omega
      have hil : (i : Int) < (len : Int) := by omega
      have HREL := Lib.hid hrel
      have m2 := hrel.m.m2
      rw [← HN.out] at m2
      have hst : ∀ q, q < n * n → (if q = q1 then - E i else if i + 1 < n ∧ q = i * n + (i + 1) then 1 else cmE n i E q) = cmE n (i + 1) E q := fun q hq => by
        rw [hq1, hd]; exact cmE_step hin hq E
      have HSTEP := Lib.hid hst
      have HQ1 := Lib.hid k1
      clear hrel hst k1 k2 hd hq1
      by_cases hi2 : i + 1 < n
      · have hi3 : (i : Int) + 1 < (n : Int) := by omega
        obtain ⟨q0, hq0⟩ : ∃ q0, q0 = i * n + (i + 1) := ⟨_, rfl⟩
        obtain ⟨j1, j2⟩ := idx_lt hin hi2 hq0
        have j3 : q0 < N := by rw [HN.out]; exact j1
        have wa : IntKind.i64.wrap ((i : Int) * (n : Int)) = (i : Int) * (n : Int) := IntWalk.i64_in _ (by omega)
        have wb : IntKind.i64.wrap ((i : Int) * (n : Int) + (i : Int)) = (i : Int) * (n : Int) + (i : Int) := IntWalk.i64_in _ (by omega)
        have wc : IntKind.i64.wrap ((i : Int) * (n : Int) + (i : Int) + 1) = (q0 : Int) := by rw [show (i : Int) * (n : Int) + (i : Int) + 1 = (q0 : Int) by omega]; exact IntWalk.i64_in _ (by omega)
        have hq0N : (q0 : Int) < (N : Int) := by omega
        have HQ0 := Lib.hid j1
        have HQE := Lib.hid hq0
        clear j1 j2 hq0
        go_wp2_with fail
        refine region_early (fun u => u.cell? ⟨mb, 2, none⟩ = some (.slice (some ⟨lb, 0, none⟩) N N)) 9 [0, 1, 2, 3, 4, 5, 6, 7] 3 hmix (by kernel_rfl) rfl (by kernel_rfl) (fun _ _ d _ _ h => by cases d <;> exact h) m2 ?_
        iterate 8 (refine early_take rfl (by rfl) ?_; apply Exists.intro; refine ⟨fun u hu => ?_, ?_⟩; (go_simp; rfl); simp only [Act.put, List.getElem_toArray, List.getElem_cons_zero, List.getElem_cons_succ, List.setIfInBounds_toArray, List.set_cons_zero, List.set_cons_succ])
        refine early_done ?_
        simp only [marked]
        refine anyL_one (i := 8) (by kernel_rfl) rfl (by rfl) fun J hJ => ?_
        go_simp
        refine (zOf_fr 1 (by omega) (by omega) wr.drew).mono ?_
        rintro e w4 ⟨v, rfl, hf, hb4⟩
        have hb := below_via (bl_drew wr) hb4
        obtain ⟨u1, u2, g1, g2, g3, g4⟩ := (HREL.out.on hb).g.ready HQ0.out
        obtain ⟨s5, a5, c5, d5, rfl, hc⟩ := HREL.out.put hb (show wr.heap.size ≤ wr.drew.heap.size from Nat.le_refl _) hf zb_ones (by omega) HQ0.out
        refine hJ _ _ (fun _ => cell_stays hb m2) ?_
        have HC := Lib.hid (hc.congr (F := fun q => if i + 1 < n ∧ q = i * n + (i + 1) then 1 else cmE n i E q) (fun q _ => by
          by_cases e : q = q0
          · rw [if_pos e, if_pos ⟨hi2, by rw [e, HQE.out]⟩]
          · rw [if_neg e, if_neg (fun h => e (by rw [h.2, HQE.out]))]))
        clear hJ J hf hb4 hb hc m2 HREL
        refine anyL_one (i := 9) (by kernel_rfl) rfl (by rfl) fun J hJ => ?_
        go_simp
        refine hJ _ _ (fun e => absurd e (by decide)) ?_
        clear hJ J
        refine anyL_one (i := 10) (by kernel_rfl) rfl (by rfl) fun J hJ => ?_
        go_simp
        refine hJ _ _ (fun e => absurd e (by decide)) ?_
        clear hJ J
        refine anyL_done (by kernel_rfl) ?_ _
        generalize (w4.setCell ⟨lb, q0 * 2, none⟩ (.bool s5)).setCell ⟨lb, q0 * 2 + 1, none⟩ (.slice a5 c5 d5) = w5 at *
        clear g1 g2 g3 g4
        have m2 := HC.out.m.m2
        rw [← HN.out] at m2
        obtain ⟨bp, op, sp, mp, rfl, p1, p2, p3⟩ := (HX.out.below HC.out.below).get (show i < len by omega)
        have HNG := Lib.hid (zNeg_any _ (E i) w5.drew (p3.below (bl_drew _)))
        clear p3
        go_wp2_with fail
        refine region_early (fun u => u.cell? ⟨mb, 2, none⟩ = some (.slice (some ⟨lb, 0, none⟩) N N) ∧ u.cell? ⟨bp, op + i * 2, none⟩ = some (.bool sp) ∧ u.cell? ⟨bp, op + i * 2 + 1, none⟩ = some mp) 13 [0, 1, 2, 3, 4, 5, 6, 7, 8, 9, 10, 11] 3 hmix (by kernel_rfl) rfl (by kernel_rfl) (fun _ _ d _ _ h => by cases d <;> exact h) ⟨m2, p1, p2⟩ ?_
        iterate 12 (refine early_take rfl (by rfl) ?_; apply Exists.intro; refine ⟨fun u hu => ?_, ?_⟩; (obtain ⟨u_1, u_2, u_3⟩ := hu; go_simp; rfl); simp only [Act.put, List.getElem_toArray, List.getElem_cons_zero, List.getElem_cons_succ, List.setIfInBounds_toArray, List.set_cons_zero, List.set_cons_succ])
        refine early_done ?_
        simp only [marked]
        refine anyL_one (i := 12) (by kernel_rfl) rfl (by rfl) fun J hJ => ?_
        go_simp
        refine HNG.out.mono ?_
        rintro e w6 ⟨v, rfl, hf, hb6⟩
        have hb := below_via (bl_drew w5) hb6
        obtain ⟨y1, y2, g1, g2, g3, g4⟩ := (HC.out.on hb).g.ready HQ1.out
        obtain ⟨s7, a7, c7, d7, rfl, hc⟩ := HC.out.put hb (show w5.heap.size ≤ w5.drew.heap.size from Nat.le_refl _) hf ((HZ.out i hin).neg) hS HQ1.out
        refine hJ _ _ (fun _ => ⟨cell_stays hb m2, cell_stays hb p1, cell_stays hb p2⟩) ?_
        have HC2 := Lib.hid (hc.congr HSTEP.out)
        clear hJ J hf hb6 hb hc m2 p1 p2 HC HNG
        refine anyL_one (i := 13) (by kernel_rfl) rfl (by rfl) fun J hJ => ?_
        go_simp
        refine hJ _ _ (fun e => absurd e (by decide)) ?_
        clear hJ J
        refine anyL_one (i := 14) (by kernel_rfl) rfl (by rfl) fun J hJ => ?_
        go_simp
        refine hJ _ _ (fun e => absurd e (by decide)) ?_
        clear hJ J
        refine anyL_done (by kernel_rfl) ?_ _
        clear g3 g4
        go_wp2_with fail
        go_roundw
        case rel => exact ⟨i + 1, by omega, by go_num, HC2.out⟩
        case measure => simp [intOf]; omega
      · have hi3 : ¬ (i : Int) + 1 < (n : Int) := by omega
        have HC := Lib.hid (HREL.out.congr (F := fun q => if i + 1 < n ∧ q = i * n + (i + 1) then 1 else cmE n i E q) (fun q _ => by rw [if_neg (fun h => hi2 h.1)]))
        clear HREL m2
        have m2 := HC.out.m.m2
        rw [← HN.out] at m2
        obtain ⟨bp, op, sp, mp, rfl, p1, p2, p3⟩ := (HX.out.below HC.out.below).get (show i < len by omega)
        have HNG := Lib.hid (zNeg_any _ (E i) wr.drew (p3.below (bl_drew _)))
        clear p3
        go_wp2_with fail
        refine region_early (fun u => u.cell? ⟨mb, 2, none⟩ = some (.slice (some ⟨lb, 0, none⟩) N N) ∧ u.cell? ⟨bp, op + i * 2, none⟩ = some (.bool sp) ∧ u.cell? ⟨bp, op + i * 2 + 1, none⟩ = some mp) 13 [0, 1, 2, 3, 4, 5, 6, 7, 8, 9, 10, 11] 3 hmix (by kernel_rfl) rfl (by kernel_rfl) (fun _ _ d _ _ h => by cases d <;> exact h) ⟨m2, p1, p2⟩ ?_
        iterate 12 (refine early_take rfl (by rfl) ?_; apply Exists.intro; refine ⟨fun u hu => ?_, ?_⟩; (obtain ⟨u_1, u_2, u_3⟩ := hu; go_simp; rfl); simp only [Act.put, List.getElem_toArray, List.getElem_cons_zero, List.getElem_cons_succ, List.setIfInBounds_toArray, List.set_cons_zero, List.set_cons_succ])
        refine early_done ?_
        simp only [marked]
        refine anyL_one (i := 12) (by kernel_rfl) rfl (by rfl) fun J hJ => ?_
        go_simp
        refine HNG.out.mono ?_
        rintro e w6 ⟨v, rfl, hf, hb6⟩
        have hb := below_via (bl_drew wr) hb6
        obtain ⟨y1, y2, g1, g2, g3, g4⟩ := (HC.out.on hb).g.ready HQ1.out
        obtain ⟨s7, a7, c7, d7, rfl, hc⟩ := HC.out.put hb (show wr.heap.size ≤ wr.drew.heap.size from Nat.le_refl _) hf ((HZ.out i hin).neg) hS HQ1.out
        refine hJ _ _ (fun _ => ⟨cell_stays hb m2, cell_stays hb p1, cell_stays hb p2⟩) ?_
        have HC2 := Lib.hid (hc.congr HSTEP.out)
        clear hJ J hf hb6 hb hc m2 p1 p2 HC HNG
        refine anyL_one (i := 13) (by kernel_rfl) rfl (by rfl) fun J hJ => ?_
        go_simp
        refine hJ _ _ (fun e => absurd e (by decide)) ?_
        clear hJ J
        refine anyL_one (i := 14) (by kernel_rfl) rfl (by rfl) fun J hJ => ?_
        go_simp
        refine hJ _ _ (fun e => absurd e (by decide)) ?_
        clear hJ J
        refine anyL_done (by kernel_rfl) ?_ _
        clear g3 g4
        go_wp2_with fail
        go_roundw
        case rel => exact ⟨i + 1, by omega, by go_num, HC2.out⟩
        case measure => simp [intOf]; omega
    · obtain rfl : i = n := by omega
      have x0 := hrel.r.m0
      have x1 := hrel.r.m1
      have x2 := hrel.r.m2
      have v0 := hrel.r.f0
      have v1 := hrel.r.f1
      have v2 := hrel.r.f2
      have m0 := hrel.m.m0
      have m1 := hrel.m.m1
      have m2 := hrel.m.m2
      have hg := stored3_gb wr w.heap.size (.int .i64 i) (.int .i64 i) (.slice (some ⟨lb, 0, none⟩) (i * i) (i * i))
      have hne := hrel.ne
      have HF := Lib.hid (((hrel.g.grown hg (by omega) (Or.inr (Or.inr rfl))).turnD (D' := fun b => b ≤ lb) (fun b _ hn hd => hn (Or.inl hd))).congr (fun q hq => cmE_full hq E))
      have HBL := Lib.hid (hrel.below.grown hg hrel.below.size (fun k hk => by injection hk with hk; omega))
      clear hg hne hrel
      go_wp2_with fail
      refine bodyPost_ret (v := .tuple #[.agg #[.int .i64 i, .int .i64 i, .slice (some ⟨lb, 0, none⟩) (i * i) (i * i)], .int .i64 0]) ?_ rfl ⟨lb, rfl, HF.out, HBL.out⟩
      simp [results, Try.results23, go_sem, x0, x1, x2]

/-- what is refused -/
def cmpE (E : Nat → Int) (len : Nat) : Int := if 65 < szE E len then 5 else 10
set_option maxHeartbeats 4000000 in
set_option maxRecDepth 100000 in
theorem Companion_bad (len : Nat) (x : Value) (E : Nat → Int) (w : World) (hx : RdE w x len E) (h : 65 < szE E len ∨ monB E len = false) :
    Calls Try.prog 23 #[x] w fun e w' => e = .returned (.tuple #[.agg #[.int .i64 0, .int .i64 0, .slice none 0 0], .int .i64 (cmpE E len)]) ∧ Below w.heap.size w w' := by
  have hle := szE_le E len
  have hlen := hx.le_n
  obtain ⟨ax, cx, rfl, hcx⟩ := hx.slice
  have hba := bl_alloc w (.cells #[.int .i64 0, .int .i64 0, .slice none 0 0] 24)
  have hbx := MBox.new w 0 0 (.slice none 0 0)
  have hsz := fun (u : World) (hu : Below w.heap.size w u) => csize_any _ len E u (hx.below hu)
  have hmo := fun (u : World) (hu : Below w.heap.size w u) => monic_any _ len E u (hx.below hu)
  unfold cmpE
  obtain ⟨z, hz⟩ : ∃ z, z = szE E len := ⟨_, rfl⟩
  rw [← hz] at h hle ⊢
  simp only [← hz] at hsz
  obtain ⟨X, hX⟩ : ∃ X : Int, X = (if 65 < z then 5 else 10) := ⟨_, rfl⟩
  rw [← hX]
  have HE := Lib.hid hX
  clear hX
  have HSZ := Lib.hid hsz
  have HMO := Lib.hid hmo
  have HB := Lib.hid hba
  have HBX := Lib.hid hbx
  clear hx hsz hmo hba hbx hz
  go_enter Try.func23, Try.ntmps23
  go_upto_region 1 with fail
  generalize w.alloc (.cells #[.int .i64 0, .int .i64 0, .slice none 0 0] 24) = W at *
  have w0 : IntKind.i64.wrap ((z : Int) - 1) = (z : Int) - 1 := IntWalk.i64_in _ (by omega)
  go_wp2_with fail
  (refine (HSZ.out W HB.out).mono ?_)
  rintro e w1 ⟨rfl, hb1⟩
  have HB1 := Lib.hid (below_via HB.out hb1)
  have HX1 := Lib.hid (HBX.out.below hb1)
  clear hb1 HSZ HB HBX
  by_cases hgt : 65 < z
  · have hgt2 : (64 : Int) < (z : Int) - 1 := by omega
    have x0 := HX1.out.m0
    have x1 := HX1.out.m1
    have x2 := HX1.out.m2
    have v0 := HX1.out.f0
    have v1 := HX1.out.f1
    have v2 := HX1.out.f2
    have hg := stored3_gb w1 w.heap.size (.int .i64 0) (.int .i64 0) (.slice none 0 0)
    have HBL := Lib.hid (HB1.out.grown hg HB1.out.size (fun k hk => by injection hk with hk; omega))
    clear hg
    have hE : X = 5 := by rw [HE.out, if_pos hgt]
    go_wp2_with fail
    refine bodyPost_ret (v := .tuple #[.agg #[.int .i64 0, .int .i64 0, .slice none 0 0], .int .i64 5]) ?_ rfl ⟨by rw [hE], HBL.out⟩
    simp [results, Try.results23, go_sem, x0, x1, x2]
  · have hgt2 : ¬ (64 : Int) < (z : Int) - 1 := by omega
    obtain h := h.resolve_left hgt
    have hm := HMO.out w1 HB1.out
    rw [h] at hm
    have HM := Lib.hid hm
    have hE : X = 10 := by rw [HE.out, if_neg hgt]
    clear hm h HMO
    go_wp2_with fail
    (refine HM.out.mono ?_)
    rintro e w2 ⟨rfl, hb2⟩
    have HX2 := Lib.hid (HX1.out.below hb2)
    have HB2 := Lib.hid (below_via HB1.out hb2)
    clear hb2 HM HX1 HB1
    have x0 := HX2.out.m0
    have x1 := HX2.out.m1
    have x2 := HX2.out.m2
    have v0 := HX2.out.f0
    have v1 := HX2.out.f1
    have v2 := HX2.out.f2
    have hg := stored3_gb w2 w.heap.size (.int .i64 0) (.int .i64 0) (.slice none 0 0)
    have HBL := Lib.hid (HB2.out.grown hg HB2.out.size (fun k hk => by injection hk with hk; omega))
    clear hg
    go_wp2_with fail
    refine bodyPost_ret (v := .tuple #[.agg #[.int .i64 0, .int .i64 0, .slice none 0 0], .int .i64 10]) ?_ rfl ⟨by rw [hE], HBL.out⟩
    simp [results, Try.results23, go_sem, x0, x1, x2]
end Go.Proofs.Ytejliecmdkmgiaa

namespace Go.Proofs.Ytejliecmdkmgiaa
open Go.RowKit Go.Shelf

set_option maxHeartbeats 1000000 in
set_option maxRecDepth 100000 in
theorem degree_any (a : Option Addr) (n cap : Nat) (hn : n ≤ 1048576) (w : World) :
    Calls Try.prog 25 #[.slice a n cap] w fun e w' => e = .returned (.int .i64 ((n : Int) - 1)) ∧ w = w' := by
  have w0 : IntKind.i64.wrap ((n : Int) - 1) = (n : Int) - 1 := IntWalk.i64_in _ (by omega)
  go_enter Try.func25, Try.ntmps25
  go_wp2_with fail
  go_ret
  exact ⟨rfl, rfl⟩

theorem cmp_one (z : Int) : ((cmpZ z 1 : Int) == 0) = decide (z = 1) := by
  unfold cmpZ
  by_cases e : z = 1
  · rw [e]; simp
  · rw [decide_eq_false e]
    split
    · rfl
    · split
      · rfl
      · omega
/-- is the last number a 1? -/
def monL (E : Nat → Int) (n : Nat) : Bool := decide (0 < n ∧ E (n - 1) = 1)
set_option maxHeartbeats 4000000 in
set_option maxRecDepth 100000 in
theorem monic16_any (x : Value) (n : Nat) (E : Nat → Int) (w : World) (hx : RdE w x n E) :
    Calls Try.prog 26 #[x] w fun e w' => e = .returned (.bool (monL E n)) ∧ Below w.heap.size w w' := by
  obtain ⟨a, cap, rfl, hcap⟩ := hx.slice
  have hmix : Try.prog.follows .mixedOrders = true := by kernel_rfl
  have hnb := hx.le_n
  obtain ⟨r, hr⟩ : ∃ r : Bool, r = monL E n := ⟨_, rfl⟩
  rw [← hr]
  have HX := Lib.hid hx
  have HR := Lib.hid hr
  clear hx hr
  go_enter Try.func26, Try.ntmps26
  by_cases h0 : n = 0
  · obtain rfl : r = false := by rw [HR.out, h0]; rfl
    subst h0
    go_wp2_with fail
    refine region_early (fun u => True) 14 [0, 1, 2, 3, 4, 5, 6, 7, 8, 9, 10, 11, 12, 13] 1 hmix (by kernel_rfl) rfl (by kernel_rfl) (fun _ _ d _ _ h => by cases d <;> exact h) trivial ?_
    iterate 4 (refine early_take rfl (by rfl) ?_; apply Exists.intro; refine ⟨fun u hu => ?_, ?_⟩; (go_simp; rfl); simp only [Act.put, List.getElem_toArray, List.getElem_cons_zero, List.getElem_cons_succ, List.setIfInBounds_toArray, List.set_cons_zero, List.set_cons_succ])
    iterate 9 (refine early_skip rfl (by rfl) ?_; simp only [Act.put, List.getElem_toArray, List.getElem_cons_zero, List.getElem_cons_succ, List.setIfInBounds_toArray, List.set_cons_zero, List.set_cons_succ])
    iterate 1 (refine early_take rfl (by rfl) ?_; apply Exists.intro; refine ⟨fun u hu => ?_, ?_⟩; (go_simp; rfl); simp only [Act.put, List.getElem_toArray, List.getElem_cons_zero, List.getElem_cons_succ, List.setIfInBounds_toArray, List.set_cons_zero, List.set_cons_succ])
    refine early_done ?_
    simp only [marked]
    refine anyL_one (i := 14) (by kernel_rfl) rfl (by rfl) fun J hJ => ?_
    go_simp
    refine hJ _ _ (fun e => absurd e (by decide)) ?_
    clear hJ J
    refine anyL_done (by kernel_rfl) ?_ _
    go_wp2_with fail
    go_ret
    exact ⟨rfl, bl_drew w⟩
  · have h0n : 0 < n := by omega
    obtain ⟨j, hj⟩ : ∃ j, j = n - 1 := ⟨_, rfl⟩
    have h1' : (j : Int) < (n : Int) := by omega
    have hw : IntKind.i64.wrap ((n : Int) - 1) = (j : Int) := by rw [show (n : Int) - 1 = (j : Int) by omega]; exact IntWalk.i64_in _ (by omega)
    obtain ⟨b, o, s, m, rfl, c1, c2, hz⟩ := HX.out.get (show j < n by omega)
    obtain ⟨am, ac, an, rfl⟩ := hz.agg
    have hr : ((cmpZ (E j) 1 : Int) == 0) = r := by
      rw [HR.out, cmp_one]
      unfold monL
      rw [← hj]
      by_cases e : E j = 1
      · rw [decide_eq_true e, decide_eq_true ⟨by omega, e⟩]
      · rw [decide_eq_false e, decide_eq_false (fun h => e h.2)]
    have HZ := Lib.hid hz
    clear hz hj h0 HR
    generalize hcz : cmpZ (E j) 1 = cz at *
    have HCZ := Lib.hid hcz
    clear hcz
    go_wp2_with fail
    refine region_early (fun u => u.cell? ⟨b, o + j * 2, none⟩ = some (.bool s) ∧ u.cell? ⟨b, o + j * 2 + 1, none⟩ = some (.slice am ac an)) 14 [0, 1, 2, 3, 4, 5, 6, 7, 8, 9] 5 hmix (by kernel_rfl) rfl (by kernel_rfl) (fun _ _ d _ _ h => by cases d <;> exact h) ⟨c1, c2⟩ ?_
    iterate 10 (refine early_take rfl (by rfl) ?_; apply Exists.intro; refine ⟨fun u hu => ?_, ?_⟩; (obtain ⟨u_1, u_2⟩ := hu; go_simp; rfl); simp only [Act.put, List.getElem_toArray, List.getElem_cons_zero, List.getElem_cons_succ, List.setIfInBounds_toArray, List.set_cons_zero, List.set_cons_succ])
    refine early_done ?_
    simp only [marked]
    refine anyL_one (i := 10) (by kernel_rfl) rfl (by rfl) fun J hJ => ?_
    go_simp
    refine (zOf_fr 1 (by omega) (by omega) w.drew).mono ?_
    rintro e w1 ⟨v1, rfl, hf1, hb1⟩
    have hb := below_via (bl_drew w) hb1
    have hcm := zCmp_any _ _ _ 1 w1 (HZ.out.below hb) (hf1.rd zb_ones (by omega))
    rw [HCZ.out] at hcm
    have HCM := Lib.hid hcm
    refine hJ _ _ (fun _ => ⟨cell_stays hb c1, cell_stays hb c2⟩) ?_
    have HB := Lib.hid hb
    clear hJ J hf1 hb1 hcm HZ
    refine anyL_one (i := 11) (by kernel_rfl) rfl (by rfl) fun J hJ => ?_
    go_simp
    refine HCM.out.mono ?_
    rintro e w2 ⟨rfl, hb2⟩
    have hb3 := below_via HB.out hb2
    have hS := And.intro (cell_stays hb3 c1) (cell_stays hb3 c2)
    refine hJ _ _ (fun _ => hS) ?_
    have HB2 := Lib.hid hb3
    clear hJ J hb2 hb3 HCM HB c1 c2
    refine anyL_yield (i := 12) rfl (by kernel_rfl) (by kernel_rfl) (by kernel_rfl) (by kernel_rfl) (fun _ _ d _ _ h => by cases d <;> exact h) (by rfl) hS ?_
    apply Exists.intro
    refine ⟨fun u => ?_, ?_⟩
    · go_simp
      rfl
    simp only [Act.put, List.getElem_toArray, List.getElem_cons_zero, List.getElem_cons_succ, List.setIfInBounds_toArray, List.set_cons_zero, List.set_cons_succ]
    refine anyL_yield (i := 13) rfl (by kernel_rfl) (by kernel_rfl) (by kernel_rfl) (by kernel_rfl) (fun _ _ d _ _ h => by cases d <;> exact h) (by rfl) hS ?_
    apply Exists.intro
    refine ⟨fun u => ?_, ?_⟩
    · go_simp
      rfl
    simp only [Act.put, List.getElem_toArray, List.getElem_cons_zero, List.getElem_cons_succ, List.setIfInBounds_toArray, List.set_cons_zero, List.set_cons_succ]
    refine anyL_one (i := 14) (by kernel_rfl) rfl (by rfl) fun J hJ => ?_
    go_simp
    refine hJ _ _ (fun e => absurd e (by decide)) ?_
    clear hJ J
    refine anyL_done (by kernel_rfl) ?_ _
    go_wp2_with fail
    go_ret
    exact ⟨rfl, HB2.out⟩
end Go.Proofs.Ytejliecmdkmgiaa
