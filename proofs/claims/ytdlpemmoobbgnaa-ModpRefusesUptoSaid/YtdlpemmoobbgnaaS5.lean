/- The walk of the law's refuses. -/
import Derived.Test.YtdlpemmoobbgnaaS4
set_option linter.unusedVariables false
set_option linter.unusedSimpArgs false
namespace Go.Proofs.Ytdlpemmoobbgnaa
open Go.RowKit

/-- the error that the law asks of a refused call -/
theorem plays_err (k : Nat) (hk : 3 ≤ k) (hk9 : k ≤ 9) (r c : Int) (p : Int) (hp : 0 ≤ p) (s : Value) (n : Nat) (x : Nat → Raw) (sb : Value) (nb : Nat) (b : Nat → Raw) (w : World) (hr : RdL w s n x) (hrb : RdL w sb nb b) (he : openE r c n p (fitB k r c nb) ≠ 0) :
    Calls Try.prog 60 #[.agg #[.int .i64 k, .int .i64 r, .int .i64 c, s, sb, .int .u64 p]] w fun e w' => e = .returned (ans0 (openE r c n p (fitB k r c nb))) ∧ Below w.heap.size w w' := by
  rcases (by omega : k = 3 ∨ k = 4 ∨ k = 5 ∨ k = 6 ∨ k = 7 ∨ k = 8 ∨ k = 9) with e | e | e | e | e | e | e <;> subst e
  · exact plays_err3 r c p hp s n x sb nb b w hr hrb he
  · exact plays_err4 r c p hp s n x sb nb b w hr hrb he
  · exact plays_err5 r c p hp s n x sb nb b w hr hrb he
  · exact plays_err6 r c p hp s n x sb nb b w hr hrb he
  · exact plays_err7 r c p hp s n x sb nb b w hr hrb he
  · exact plays_err8 r c p hp s n x sb nb b w hr hrb he
  · exact plays_err9 r c p hp s n x sb nb b w hr hrb he

theorem rdl_nil (w : World) (x : Nat → Raw) : RdL w (.slice none 0 0) 0 x := ⟨none, 0, rfl, Nat.le_refl _, by omega, fun h => absurd h (by omega)⟩

theorem same_ans0 (E : Int) (w : World) : Calls Try.prog 61 #[ans0 E, ans0 E] w fun e w' => e = .returned (.bool true) ∧ Below w.heap.size w w' :=
  same_yes (.slice none 0 0) (.slice none 0 0) (.slice none 0 0) (.slice none 0 0) 0 0 0 0 (fun _ => ⟨false, 0, fun _ => 0⟩) (fun _ => ⟨false, 0, fun _ => 0⟩) (fun _ => ⟨false, 0, fun _ => 0⟩) (fun _ => ⟨false, 0, fun _ => 0⟩) 0 0 E false w
    (rdl_nil _ _) (rdl_nil _ _) (fun _ h => absurd h (by omega)) (rdl_nil _ _) (rdl_nil _ _) (fun _ h => absurd h (by omega))

/-- an answer's box just made -/
theorem box8 (w5 : World) (t : TypeId) (V : Int) :
    let W := w5.alloc (.cells #[.int .i64 0, .int .i64 0, .slice none 0 0, .slice none 0 0, .int .u64 0, .int .i64 0, .bool false, .int .i64 V] t)
    W.cell? ⟨w5.heap.size, 0, none⟩ = some (.int .i64 0) ∧ W.cell? ⟨w5.heap.size, 1, none⟩ = some (.int .i64 0) ∧ W.cell? ⟨w5.heap.size, 2, none⟩ = some (.slice none 0 0) ∧ W.cell? ⟨w5.heap.size, 3, none⟩ = some (.slice none 0 0) ∧
      W.cell? ⟨w5.heap.size, 4, none⟩ = some (.int .u64 0) ∧ W.cell? ⟨w5.heap.size, 5, none⟩ = some (.int .i64 0) ∧ W.cell? ⟨w5.heap.size, 6, none⟩ = some (.bool false) ∧ W.cell? ⟨w5.heap.size, 7, none⟩ = some (.int .i64 V) := by
  intro W
  have k := cellsOf w5 [.int .i64 0, .int .i64 0, .slice none 0 0, .slice none 0 0, .int .u64 0, .int .i64 0, .bool false, .int .i64 V] t
  exact ⟨(k 0 _ rfl).1, (k 1 _ rfl).1, (k 2 _ rfl).1, (k 3 _ rfl).1, (k 4 _ rfl).1, (k 5 _ rfl).1, (k 6 _ rfl).1, (k 7 _ rfl).1⟩
theorem keep3 {wr w5 : World} {a b c : Addr} {x y z : Value} (h : Below wr.heap.size wr w5) (h0 : wr.cell? a = some x) (h1 : wr.cell? b = some y) (h2 : wr.cell? c = some z) (o : Obj) :
    (w5.alloc o).cell? a = some x ∧ (w5.alloc o).cell? b = some y ∧ (w5.alloc o).cell? c = some z := by
  have h' := h.trans (((Below.refl w5.heap.size w5).alloc (Nat.le_refl _) o).mono h.size)
  exact ⟨cell_stays h' h0, cell_stays h' h1, cell_stays h' h2⟩

/-- the error that stands in the law -/
def lawE (k : Nat) (r c : Int) (n : Nat) : Int := if soundB r c n = true then if ((k = 4 ∨ k = 7) ∧ r ≠ c) ∨ (k = 9 ∧ c ≠ 0) then 2 else 9 else 1
theorem lawE_eq (k : Nat) (hk : 3 ≤ k) (hk9 : k ≤ 9) (r c : Int) (n : Nat) (p : Int) (h : ¬ (soundB r c n = true ∧ primeB p = true)) : openE r c n p (fitB k r c 0) = lawE k r c n ∧ lawE k r c n ≠ 0 := by
  unfold openE lawE fitB
  by_cases hs : soundB r c n = true
  · have hp : ¬ primeB p = true := fun e => h ⟨hs, e⟩
    rw [if_pos hs, if_pos hs, if_neg hp]
    rcases (by omega : k = 3 ∨ k = 4 ∨ k = 5 ∨ k = 6 ∨ k = 7 ∨ k = 8 ∨ k = 9) with e | e | e | e | e | e | e <;> subst e <;> simp
    · by_cases hrc : r = c <;> simp [hrc]
    · by_cases hrc : r = c <;> simp [hrc]
    · by_cases hc : c = 0
      · simp [hc]
      · have : ¬ 0 = c := fun e => hc e.symm
        simp [hc, this]
  · rw [if_neg hs, if_neg hs]; simp

set_option maxHeartbeats 2000000 in
set_option maxRecDepth 100000 in
theorem refuses_yes (r c : Int) (p : Int) (hp : 0 ≤ p) (s : Value) (n : Nat) (x : Nat → Raw) (w : World) (hr : RdL w s n x) (h : ¬ (soundB r c n = true ∧ primeB p = true)) :
    Calls Try.prog 34 #[.agg #[.int .i64 r, .int .i64 c, s], .int .u64 p] w fun e w' => e = .returned (.bool true) ∧ Below w.heap.size w w' := by
  obtain ⟨a, cap, rfl, hn⟩ := hr.slice
  have hsd := fun W => sound_any r c a n cap hn W
  have hpr := fun W => prime_any p hp W
  have hlaw := fun k h1 h2 => lawE_eq k h1 h2 r c n p h
  have HR := Lib.hid hr
  have HLW := Lib.hid hlaw
  have z := three_cells w (.int .i64 r) (.int .i64 c) (.slice a n cap) 34
  have hb0 : Below w.heap.size w (w.alloc (.cells #[.int .i64 r, .int .i64 c, .slice a n cap] 34)) := (Below.refl _ _).alloc (Nat.le_refl _) _
  have x0 := (z 0 _ rfl).1
  have x1 := (z 1 _ rfl).1
  have x2 := (z 2 _ rfl).1
  have HB0 := Lib.hid hb0
  have hprE : soundB r c n = true → primeB p = false := fun e => by simpa using fun e2 => h ⟨e, e2⟩
  have HPE := Lib.hid hprE
  have hlE : ∀ k, lawE k r c n = if soundB r c n = true then if ((k = 4 ∨ k = 7) ∧ r ≠ c) ∨ (k = 9 ∧ c ≠ 0) then 2 else 9 else 1 := fun _ => rfl
  generalize soundB r c n = sd at hsd hlE HPE
  generalize primeB p = pr at hpr HPE
  generalize hlf : (fun k => lawE k r c n) = lf at *
  have hl2 : ∀ k, lawE k r c n = lf k := fun k => by rw [← hlf]
  have HSD := Lib.hid hsd
  have HPR := Lib.hid hpr
  have HLE : Hid (∀ k, lf k = if sd = true then if ((k = 4 ∨ k = 7) ∧ r ≠ c) ∨ (k = 9 ∧ c ≠ 0) then 2 else 9 else 1) := fun k => by rw [← hl2]; exact hlE k
  have HLW : Hid (∀ k : Nat, 3 ≤ k → k ≤ 9 → openE r c n p (fitB (k : Nat) r c 0) = lf k ∧ lf k ≠ 0) := fun k h1 h2 => by rw [← hl2]; exact HLW.out k h1 h2
  clear hr h hlaw hb0 z hsd hpr hprE hlE hlf hl2
  cases sd with
  | true =>
    obtain rfl : pr = false := HPE.out rfl
    go_enter Try.func34, Try.ntmps34
    go_wp2_with (first
      | (go_at_call 15; refine (HSD.out _).mono ?_; rintro e w1 ⟨rfl, hb1⟩; have x0 := cell_stays hb1 x0; have x1 := cell_stays hb1 x1; have x2 := cell_stays hb1 x2)
      | (go_at_call 14; refine (HPR.out _).mono ?_; rintro e w2 ⟨rfl, rfl⟩))
    have HB1 := Lib.hid (HB0.out.trans (hb1.mono HB0.out.size))
    clear hb1 HB0
    go_loopw [5] (fun kv wr => ∃ k : Nat, 3 ≤ k ∧ k ≤ 10 ∧ kv = .int .i64 k ∧ Below w.heap.size w wr ∧ wr.cell? ⟨w.heap.size, 0, none⟩ = some (.int .i64 r) ∧ wr.cell? ⟨w.heap.size, 1, none⟩ = some (.int .i64 c) ∧ wr.cell? ⟨w.heap.size, 2, none⟩ = some (.slice a n cap)) (fun kv _ => 10 - (intOf kv).toNat)
    case atStart => exact ⟨3, by omega, by omega, rfl, HB1.out, x0, x1, x2⟩
    case round =>
      clear HB1 x0 x1 x2
      obtain ⟨k, k1, k2, rfl, hb, x0, x1, x2⟩ := hrel
      rcases (by omega : k = 3 ∨ k = 4 ∨ k = 5 ∨ k = 6 ∨ k = 7 ∨ k = 8 ∨ k = 9 ∨ k = 10) with e | e | e | e | e | e | e | e <;> subst e
      · have hE : lf 3 = 9 := by rw [HLE.out]; simp
        have hE1 := (HLW.out 3 (by omega) (by omega)).1
        have hpl := plays_err 3 (by omega) (by omega) r c p hp _ n x (.slice none 0 0) 0 x wr (HR.out.below hb) (rdl_nil _ _) (by rw [hE1, hE]; decide)
        rw [hE1, hE, show ((3 : Nat) : Int) = 3 from rfl] at hpl
        unfold ans0 at hpl
        have hsm := fun W => same_ans0 9 W
        unfold ans0 at hsm
        have HPL := Lib.hid hpl
        have HSM := Lib.hid hsm
        have HBB := Lib.hid hb
        clear hE hE1 hpl hsm hb
        go_wp2_with (first
          | (go_at_call 60; (with_reducible refine HPL.out.mono ?_); rintro e w5 ⟨rfl, hb5⟩; have HB5 := Lib.hid ((HBB.out.trans (hb5.mono HBB.out.size)).alloc (Nat.le_trans HBB.out.size hb5.size) (.cells #[.int .i64 0, .int .i64 0, .slice none 0 0, .slice none 0 0, .int .u64 0, .int .i64 0, .bool false, .int .i64 9] 92)); have hx5 := keep3 hb5 x0 x1 x2 (.cells #[.int .i64 0, .int .i64 0, .slice none 0 0, .slice none 0 0, .int .u64 0, .int .i64 0, .bool false, .int .i64 9] 92); obtain ⟨x0, x1, x2⟩ := hx5; have ba := box8 w5 92 9; obtain ⟨a0, a1, a2, a3, a4, a5, a6, a7⟩ := ba)
          | (go_at_call 15; refine (HSD.out _).mono ?_; rintro e w6 ⟨rfl, hb6⟩; have HB6 := Lib.hid (HB5.out.trans (hb6.mono HB5.out.size)); have x0 := cell_stays hb6 x0; have x1 := cell_stays hb6 x1; have x2 := cell_stays hb6 x2; have a0 := cell_stays hb6 a0; have a1 := cell_stays hb6 a1; have a2 := cell_stays hb6 a2; have a3 := cell_stays hb6 a3; have a4 := cell_stays hb6 a4; have a5 := cell_stays hb6 a5; have a6 := cell_stays hb6 a6; have a7 := cell_stays hb6 a7)
          | (go_at_call 61; refine (HSM.out _).mono ?_; rintro e w7 ⟨rfl, hb7⟩; have HB7 := Lib.hid (HB6.out.trans (hb7.mono HB6.out.size)); have x0 := cell_stays hb7 x0; have x1 := cell_stays hb7 x1; have x2 := cell_stays hb7 x2))
        go_roundw
        case rel => exact ⟨4, by omega, by omega, by go_num, HB7.out, x0, x1, x2⟩
        case measure => simp [intOf]
      · by_cases hrc : r = c
        · have hcb : (r != c) = false := by rw [bne_eq_false_iff_eq]; exact hrc
          have hE : lf 4 = 9 := by rw [HLE.out]; simp [hrc]
          have hE1 := (HLW.out 4 (by omega) (by omega)).1
          have hpl := plays_err 4 (by omega) (by omega) r c p hp _ n x (.slice none 0 0) 0 x wr (HR.out.below hb) (rdl_nil _ _) (by rw [hE1, hE]; decide)
          rw [hE1, hE, show ((4 : Nat) : Int) = 4 from rfl] at hpl
          unfold ans0 at hpl
          have hsm := fun W => same_ans0 9 W
          unfold ans0 at hsm
          have HPL := Lib.hid hpl
          have HSM := Lib.hid hsm
          have HBB := Lib.hid hb
          clear hE hE1 hpl hsm hb hrc
          go_wp2_with (first
            | (go_at_call 60; (with_reducible refine HPL.out.mono ?_); rintro e w5 ⟨rfl, hb5⟩; have HB5 := Lib.hid ((HBB.out.trans (hb5.mono HBB.out.size)).alloc (Nat.le_trans HBB.out.size hb5.size) (.cells #[.int .i64 0, .int .i64 0, .slice none 0 0, .slice none 0 0, .int .u64 0, .int .i64 0, .bool false, .int .i64 9] 92)); have hx5 := keep3 hb5 x0 x1 x2 (.cells #[.int .i64 0, .int .i64 0, .slice none 0 0, .slice none 0 0, .int .u64 0, .int .i64 0, .bool false, .int .i64 9] 92); obtain ⟨x0, x1, x2⟩ := hx5; have ba := box8 w5 92 9; obtain ⟨a0, a1, a2, a3, a4, a5, a6, a7⟩ := ba)
            | (go_at_call 15; refine (HSD.out _).mono ?_; rintro e w6 ⟨rfl, hb6⟩; have HB6 := Lib.hid (HB5.out.trans (hb6.mono HB5.out.size)); have x0 := cell_stays hb6 x0; have x1 := cell_stays hb6 x1; have x2 := cell_stays hb6 x2; have a0 := cell_stays hb6 a0; have a1 := cell_stays hb6 a1; have a2 := cell_stays hb6 a2; have a3 := cell_stays hb6 a3; have a4 := cell_stays hb6 a4; have a5 := cell_stays hb6 a5; have a6 := cell_stays hb6 a6; have a7 := cell_stays hb6 a7)
            | (go_at_call 61; refine (HSM.out _).mono ?_; rintro e w7 ⟨rfl, hb7⟩; have HB7 := Lib.hid (HB6.out.trans (hb7.mono HB6.out.size)); have x0 := cell_stays hb7 x0; have x1 := cell_stays hb7 x1; have x2 := cell_stays hb7 x2))
          go_roundw
          case rel => exact ⟨5, by omega, by omega, by go_num, HB7.out, x0, x1, x2⟩
          case measure => simp [intOf]
        · have hcb : (r != c) = true := by rw [bne_iff_ne]; exact hrc
          have hE : lf 4 = 2 := by rw [HLE.out]; simp [hrc]
          have hE1 := (HLW.out 4 (by omega) (by omega)).1
          have hpl := plays_err 4 (by omega) (by omega) r c p hp _ n x (.slice none 0 0) 0 x wr (HR.out.below hb) (rdl_nil _ _) (by rw [hE1, hE]; decide)
          rw [hE1, hE, show ((4 : Nat) : Int) = 4 from rfl] at hpl
          unfold ans0 at hpl
          have hsm := fun W => same_ans0 2 W
          unfold ans0 at hsm
          have HPL := Lib.hid hpl
          have HSM := Lib.hid hsm
          have HBB := Lib.hid hb
          clear hE hE1 hpl hsm hb hrc
          go_wp2_with (first
            | (go_at_call 60; (with_reducible refine HPL.out.mono ?_); rintro e w5 ⟨rfl, hb5⟩; have HB5 := Lib.hid ((HBB.out.trans (hb5.mono HBB.out.size)).alloc (Nat.le_trans HBB.out.size hb5.size) (.cells #[.int .i64 0, .int .i64 0, .slice none 0 0, .slice none 0 0, .int .u64 0, .int .i64 0, .bool false, .int .i64 2] 92)); have hx5 := keep3 hb5 x0 x1 x2 (.cells #[.int .i64 0, .int .i64 0, .slice none 0 0, .slice none 0 0, .int .u64 0, .int .i64 0, .bool false, .int .i64 2] 92); obtain ⟨x0, x1, x2⟩ := hx5; have ba := box8 w5 92 2; obtain ⟨a0, a1, a2, a3, a4, a5, a6, a7⟩ := ba)
            | (go_at_call 15; refine (HSD.out _).mono ?_; rintro e w6 ⟨rfl, hb6⟩; have HB6 := Lib.hid (HB5.out.trans (hb6.mono HB5.out.size)); have x0 := cell_stays hb6 x0; have x1 := cell_stays hb6 x1; have x2 := cell_stays hb6 x2; have a0 := cell_stays hb6 a0; have a1 := cell_stays hb6 a1; have a2 := cell_stays hb6 a2; have a3 := cell_stays hb6 a3; have a4 := cell_stays hb6 a4; have a5 := cell_stays hb6 a5; have a6 := cell_stays hb6 a6; have a7 := cell_stays hb6 a7)
            | (go_at_call 61; refine (HSM.out _).mono ?_; rintro e w7 ⟨rfl, hb7⟩; have HB7 := Lib.hid (HB6.out.trans (hb7.mono HB6.out.size)); have x0 := cell_stays hb7 x0; have x1 := cell_stays hb7 x1; have x2 := cell_stays hb7 x2))
          go_roundw
          case rel => exact ⟨5, by omega, by omega, by go_num, HB7.out, x0, x1, x2⟩
          case measure => simp [intOf]
      · have hE : lf 5 = 9 := by rw [HLE.out]; simp
        have hE1 := (HLW.out 5 (by omega) (by omega)).1
        have hpl := plays_err 5 (by omega) (by omega) r c p hp _ n x (.slice none 0 0) 0 x wr (HR.out.below hb) (rdl_nil _ _) (by rw [hE1, hE]; decide)
        rw [hE1, hE, show ((5 : Nat) : Int) = 5 from rfl] at hpl
        unfold ans0 at hpl
        have hsm := fun W => same_ans0 9 W
        unfold ans0 at hsm
        have HPL := Lib.hid hpl
        have HSM := Lib.hid hsm
        have HBB := Lib.hid hb
        clear hE hE1 hpl hsm hb
        go_wp2_with (first
          | (go_at_call 60; (with_reducible refine HPL.out.mono ?_); rintro e w5 ⟨rfl, hb5⟩; have HB5 := Lib.hid ((HBB.out.trans (hb5.mono HBB.out.size)).alloc (Nat.le_trans HBB.out.size hb5.size) (.cells #[.int .i64 0, .int .i64 0, .slice none 0 0, .slice none 0 0, .int .u64 0, .int .i64 0, .bool false, .int .i64 9] 92)); have hx5 := keep3 hb5 x0 x1 x2 (.cells #[.int .i64 0, .int .i64 0, .slice none 0 0, .slice none 0 0, .int .u64 0, .int .i64 0, .bool false, .int .i64 9] 92); obtain ⟨x0, x1, x2⟩ := hx5; have ba := box8 w5 92 9; obtain ⟨a0, a1, a2, a3, a4, a5, a6, a7⟩ := ba)
          | (go_at_call 15; refine (HSD.out _).mono ?_; rintro e w6 ⟨rfl, hb6⟩; have HB6 := Lib.hid (HB5.out.trans (hb6.mono HB5.out.size)); have x0 := cell_stays hb6 x0; have x1 := cell_stays hb6 x1; have x2 := cell_stays hb6 x2; have a0 := cell_stays hb6 a0; have a1 := cell_stays hb6 a1; have a2 := cell_stays hb6 a2; have a3 := cell_stays hb6 a3; have a4 := cell_stays hb6 a4; have a5 := cell_stays hb6 a5; have a6 := cell_stays hb6 a6; have a7 := cell_stays hb6 a7)
          | (go_at_call 61; refine (HSM.out _).mono ?_; rintro e w7 ⟨rfl, hb7⟩; have HB7 := Lib.hid (HB6.out.trans (hb7.mono HB6.out.size)); have x0 := cell_stays hb7 x0; have x1 := cell_stays hb7 x1; have x2 := cell_stays hb7 x2))
        go_roundw
        case rel => exact ⟨6, by omega, by omega, by go_num, HB7.out, x0, x1, x2⟩
        case measure => simp [intOf]
      · have hE : lf 6 = 9 := by rw [HLE.out]; simp
        have hE1 := (HLW.out 6 (by omega) (by omega)).1
        have hpl := plays_err 6 (by omega) (by omega) r c p hp _ n x (.slice none 0 0) 0 x wr (HR.out.below hb) (rdl_nil _ _) (by rw [hE1, hE]; decide)
        rw [hE1, hE, show ((6 : Nat) : Int) = 6 from rfl] at hpl
        unfold ans0 at hpl
        have hsm := fun W => same_ans0 9 W
        unfold ans0 at hsm
        have HPL := Lib.hid hpl
        have HSM := Lib.hid hsm
        have HBB := Lib.hid hb
        clear hE hE1 hpl hsm hb
        go_wp2_with (first
          | (go_at_call 60; (with_reducible refine HPL.out.mono ?_); rintro e w5 ⟨rfl, hb5⟩; have HB5 := Lib.hid ((HBB.out.trans (hb5.mono HBB.out.size)).alloc (Nat.le_trans HBB.out.size hb5.size) (.cells #[.int .i64 0, .int .i64 0, .slice none 0 0, .slice none 0 0, .int .u64 0, .int .i64 0, .bool false, .int .i64 9] 92)); have hx5 := keep3 hb5 x0 x1 x2 (.cells #[.int .i64 0, .int .i64 0, .slice none 0 0, .slice none 0 0, .int .u64 0, .int .i64 0, .bool false, .int .i64 9] 92); obtain ⟨x0, x1, x2⟩ := hx5; have ba := box8 w5 92 9; obtain ⟨a0, a1, a2, a3, a4, a5, a6, a7⟩ := ba)
          | (go_at_call 15; refine (HSD.out _).mono ?_; rintro e w6 ⟨rfl, hb6⟩; have HB6 := Lib.hid (HB5.out.trans (hb6.mono HB5.out.size)); have x0 := cell_stays hb6 x0; have x1 := cell_stays hb6 x1; have x2 := cell_stays hb6 x2; have a0 := cell_stays hb6 a0; have a1 := cell_stays hb6 a1; have a2 := cell_stays hb6 a2; have a3 := cell_stays hb6 a3; have a4 := cell_stays hb6 a4; have a5 := cell_stays hb6 a5; have a6 := cell_stays hb6 a6; have a7 := cell_stays hb6 a7)
          | (go_at_call 61; refine (HSM.out _).mono ?_; rintro e w7 ⟨rfl, hb7⟩; have HB7 := Lib.hid (HB6.out.trans (hb7.mono HB6.out.size)); have x0 := cell_stays hb7 x0; have x1 := cell_stays hb7 x1; have x2 := cell_stays hb7 x2))
        go_roundw
        case rel => exact ⟨7, by omega, by omega, by go_num, HB7.out, x0, x1, x2⟩
        case measure => simp [intOf]
      · by_cases hrc : r = c
        · have hcb : (r != c) = false := by rw [bne_eq_false_iff_eq]; exact hrc
          have hE : lf 7 = 9 := by rw [HLE.out]; simp [hrc]
          have hE1 := (HLW.out 7 (by omega) (by omega)).1
          have hpl := plays_err 7 (by omega) (by omega) r c p hp _ n x (.slice none 0 0) 0 x wr (HR.out.below hb) (rdl_nil _ _) (by rw [hE1, hE]; decide)
          rw [hE1, hE, show ((7 : Nat) : Int) = 7 from rfl] at hpl
          unfold ans0 at hpl
          have hsm := fun W => same_ans0 9 W
          unfold ans0 at hsm
          have HPL := Lib.hid hpl
          have HSM := Lib.hid hsm
          have HBB := Lib.hid hb
          clear hE hE1 hpl hsm hb hrc
          go_wp2_with (first
            | (go_at_call 60; (with_reducible refine HPL.out.mono ?_); rintro e w5 ⟨rfl, hb5⟩; have HB5 := Lib.hid ((HBB.out.trans (hb5.mono HBB.out.size)).alloc (Nat.le_trans HBB.out.size hb5.size) (.cells #[.int .i64 0, .int .i64 0, .slice none 0 0, .slice none 0 0, .int .u64 0, .int .i64 0, .bool false, .int .i64 9] 92)); have hx5 := keep3 hb5 x0 x1 x2 (.cells #[.int .i64 0, .int .i64 0, .slice none 0 0, .slice none 0 0, .int .u64 0, .int .i64 0, .bool false, .int .i64 9] 92); obtain ⟨x0, x1, x2⟩ := hx5; have ba := box8 w5 92 9; obtain ⟨a0, a1, a2, a3, a4, a5, a6, a7⟩ := ba)
            | (go_at_call 15; refine (HSD.out _).mono ?_; rintro e w6 ⟨rfl, hb6⟩; have HB6 := Lib.hid (HB5.out.trans (hb6.mono HB5.out.size)); have x0 := cell_stays hb6 x0; have x1 := cell_stays hb6 x1; have x2 := cell_stays hb6 x2; have a0 := cell_stays hb6 a0; have a1 := cell_stays hb6 a1; have a2 := cell_stays hb6 a2; have a3 := cell_stays hb6 a3; have a4 := cell_stays hb6 a4; have a5 := cell_stays hb6 a5; have a6 := cell_stays hb6 a6; have a7 := cell_stays hb6 a7)
            | (go_at_call 61; refine (HSM.out _).mono ?_; rintro e w7 ⟨rfl, hb7⟩; have HB7 := Lib.hid (HB6.out.trans (hb7.mono HB6.out.size)); have x0 := cell_stays hb7 x0; have x1 := cell_stays hb7 x1; have x2 := cell_stays hb7 x2))
          go_roundw
          case rel => exact ⟨8, by omega, by omega, by go_num, HB7.out, x0, x1, x2⟩
          case measure => simp [intOf]
        · have hcb : (r != c) = true := by rw [bne_iff_ne]; exact hrc
          have hE : lf 7 = 2 := by rw [HLE.out]; simp [hrc]
          have hE1 := (HLW.out 7 (by omega) (by omega)).1
          have hpl := plays_err 7 (by omega) (by omega) r c p hp _ n x (.slice none 0 0) 0 x wr (HR.out.below hb) (rdl_nil _ _) (by rw [hE1, hE]; decide)
          rw [hE1, hE, show ((7 : Nat) : Int) = 7 from rfl] at hpl
          unfold ans0 at hpl
          have hsm := fun W => same_ans0 2 W
          unfold ans0 at hsm
          have HPL := Lib.hid hpl
          have HSM := Lib.hid hsm
          have HBB := Lib.hid hb
          clear hE hE1 hpl hsm hb hrc
          go_wp2_with (first
            | (go_at_call 60; (with_reducible refine HPL.out.mono ?_); rintro e w5 ⟨rfl, hb5⟩; have HB5 := Lib.hid ((HBB.out.trans (hb5.mono HBB.out.size)).alloc (Nat.le_trans HBB.out.size hb5.size) (.cells #[.int .i64 0, .int .i64 0, .slice none 0 0, .slice none 0 0, .int .u64 0, .int .i64 0, .bool false, .int .i64 2] 92)); have hx5 := keep3 hb5 x0 x1 x2 (.cells #[.int .i64 0, .int .i64 0, .slice none 0 0, .slice none 0 0, .int .u64 0, .int .i64 0, .bool false, .int .i64 2] 92); obtain ⟨x0, x1, x2⟩ := hx5; have ba := box8 w5 92 2; obtain ⟨a0, a1, a2, a3, a4, a5, a6, a7⟩ := ba)
            | (go_at_call 15; refine (HSD.out _).mono ?_; rintro e w6 ⟨rfl, hb6⟩; have HB6 := Lib.hid (HB5.out.trans (hb6.mono HB5.out.size)); have x0 := cell_stays hb6 x0; have x1 := cell_stays hb6 x1; have x2 := cell_stays hb6 x2; have a0 := cell_stays hb6 a0; have a1 := cell_stays hb6 a1; have a2 := cell_stays hb6 a2; have a3 := cell_stays hb6 a3; have a4 := cell_stays hb6 a4; have a5 := cell_stays hb6 a5; have a6 := cell_stays hb6 a6; have a7 := cell_stays hb6 a7)
            | (go_at_call 61; refine (HSM.out _).mono ?_; rintro e w7 ⟨rfl, hb7⟩; have HB7 := Lib.hid (HB6.out.trans (hb7.mono HB6.out.size)); have x0 := cell_stays hb7 x0; have x1 := cell_stays hb7 x1; have x2 := cell_stays hb7 x2))
          go_roundw
          case rel => exact ⟨8, by omega, by omega, by go_num, HB7.out, x0, x1, x2⟩
          case measure => simp [intOf]
      · have hE : lf 8 = 9 := by rw [HLE.out]; simp
        have hE1 := (HLW.out 8 (by omega) (by omega)).1
        have hpl := plays_err 8 (by omega) (by omega) r c p hp _ n x (.slice none 0 0) 0 x wr (HR.out.below hb) (rdl_nil _ _) (by rw [hE1, hE]; decide)
        rw [hE1, hE, show ((8 : Nat) : Int) = 8 from rfl] at hpl
        unfold ans0 at hpl
        have hsm := fun W => same_ans0 9 W
        unfold ans0 at hsm
        have HPL := Lib.hid hpl
        have HSM := Lib.hid hsm
        have HBB := Lib.hid hb
        clear hE hE1 hpl hsm hb
        go_wp2_with (first
          | (go_at_call 60; (with_reducible refine HPL.out.mono ?_); rintro e w5 ⟨rfl, hb5⟩; have HB5 := Lib.hid ((HBB.out.trans (hb5.mono HBB.out.size)).alloc (Nat.le_trans HBB.out.size hb5.size) (.cells #[.int .i64 0, .int .i64 0, .slice none 0 0, .slice none 0 0, .int .u64 0, .int .i64 0, .bool false, .int .i64 9] 92)); have hx5 := keep3 hb5 x0 x1 x2 (.cells #[.int .i64 0, .int .i64 0, .slice none 0 0, .slice none 0 0, .int .u64 0, .int .i64 0, .bool false, .int .i64 9] 92); obtain ⟨x0, x1, x2⟩ := hx5; have ba := box8 w5 92 9; obtain ⟨a0, a1, a2, a3, a4, a5, a6, a7⟩ := ba)
          | (go_at_call 15; refine (HSD.out _).mono ?_; rintro e w6 ⟨rfl, hb6⟩; have HB6 := Lib.hid (HB5.out.trans (hb6.mono HB5.out.size)); have x0 := cell_stays hb6 x0; have x1 := cell_stays hb6 x1; have x2 := cell_stays hb6 x2; have a0 := cell_stays hb6 a0; have a1 := cell_stays hb6 a1; have a2 := cell_stays hb6 a2; have a3 := cell_stays hb6 a3; have a4 := cell_stays hb6 a4; have a5 := cell_stays hb6 a5; have a6 := cell_stays hb6 a6; have a7 := cell_stays hb6 a7)
          | (go_at_call 61; refine (HSM.out _).mono ?_; rintro e w7 ⟨rfl, hb7⟩; have HB7 := Lib.hid (HB6.out.trans (hb7.mono HB6.out.size)); have x0 := cell_stays hb7 x0; have x1 := cell_stays hb7 x1; have x2 := cell_stays hb7 x2))
        go_roundw
        case rel => exact ⟨9, by omega, by omega, by go_num, HB7.out, x0, x1, x2⟩
        case measure => simp [intOf]
      · by_cases hc0 : c = 0
        · have hcb : (c != 0) = false := by rw [bne_eq_false_iff_eq]; exact hc0
          have hE : lf 9 = 9 := by rw [HLE.out]; simp [hc0]
          have hE1 := (HLW.out 9 (by omega) (by omega)).1
          have hpl := plays_err 9 (by omega) (by omega) r c p hp _ n x (.slice none 0 0) 0 x wr (HR.out.below hb) (rdl_nil _ _) (by rw [hE1, hE]; decide)
          rw [hE1, hE, show ((9 : Nat) : Int) = 9 from rfl] at hpl
          unfold ans0 at hpl
          have hsm := fun W => same_ans0 9 W
          unfold ans0 at hsm
          have HPL := Lib.hid hpl
          have HSM := Lib.hid hsm
          have HBB := Lib.hid hb
          clear hE hE1 hpl hsm hb hc0
          go_wp2_with (first
            | (go_at_call 60; (with_reducible refine HPL.out.mono ?_); rintro e w5 ⟨rfl, hb5⟩; have HB5 := Lib.hid ((HBB.out.trans (hb5.mono HBB.out.size)).alloc (Nat.le_trans HBB.out.size hb5.size) (.cells #[.int .i64 0, .int .i64 0, .slice none 0 0, .slice none 0 0, .int .u64 0, .int .i64 0, .bool false, .int .i64 9] 92)); have hx5 := keep3 hb5 x0 x1 x2 (.cells #[.int .i64 0, .int .i64 0, .slice none 0 0, .slice none 0 0, .int .u64 0, .int .i64 0, .bool false, .int .i64 9] 92); obtain ⟨x0, x1, x2⟩ := hx5; have ba := box8 w5 92 9; obtain ⟨a0, a1, a2, a3, a4, a5, a6, a7⟩ := ba)
            | (go_at_call 15; refine (HSD.out _).mono ?_; rintro e w6 ⟨rfl, hb6⟩; have HB6 := Lib.hid (HB5.out.trans (hb6.mono HB5.out.size)); have x0 := cell_stays hb6 x0; have x1 := cell_stays hb6 x1; have x2 := cell_stays hb6 x2; have a0 := cell_stays hb6 a0; have a1 := cell_stays hb6 a1; have a2 := cell_stays hb6 a2; have a3 := cell_stays hb6 a3; have a4 := cell_stays hb6 a4; have a5 := cell_stays hb6 a5; have a6 := cell_stays hb6 a6; have a7 := cell_stays hb6 a7)
            | (go_at_call 61; refine (HSM.out _).mono ?_; rintro e w7 ⟨rfl, hb7⟩; have HB7 := Lib.hid (HB6.out.trans (hb7.mono HB6.out.size)); have x0 := cell_stays hb7 x0; have x1 := cell_stays hb7 x1; have x2 := cell_stays hb7 x2))
          go_roundw
          case rel => exact ⟨10, by omega, by omega, by go_num, HB7.out, x0, x1, x2⟩
          case measure => simp [intOf]
        · have hcb : (c != 0) = true := by rw [bne_iff_ne]; exact hc0
          have hE : lf 9 = 2 := by rw [HLE.out]; simp [hc0]
          have hE1 := (HLW.out 9 (by omega) (by omega)).1
          have hpl := plays_err 9 (by omega) (by omega) r c p hp _ n x (.slice none 0 0) 0 x wr (HR.out.below hb) (rdl_nil _ _) (by rw [hE1, hE]; decide)
          rw [hE1, hE, show ((9 : Nat) : Int) = 9 from rfl] at hpl
          unfold ans0 at hpl
          have hsm := fun W => same_ans0 2 W
          unfold ans0 at hsm
          have HPL := Lib.hid hpl
          have HSM := Lib.hid hsm
          have HBB := Lib.hid hb
          clear hE hE1 hpl hsm hb hc0
          go_wp2_with (first
            | (go_at_call 60; (with_reducible refine HPL.out.mono ?_); rintro e w5 ⟨rfl, hb5⟩; have HB5 := Lib.hid ((HBB.out.trans (hb5.mono HBB.out.size)).alloc (Nat.le_trans HBB.out.size hb5.size) (.cells #[.int .i64 0, .int .i64 0, .slice none 0 0, .slice none 0 0, .int .u64 0, .int .i64 0, .bool false, .int .i64 2] 92)); have hx5 := keep3 hb5 x0 x1 x2 (.cells #[.int .i64 0, .int .i64 0, .slice none 0 0, .slice none 0 0, .int .u64 0, .int .i64 0, .bool false, .int .i64 2] 92); obtain ⟨x0, x1, x2⟩ := hx5; have ba := box8 w5 92 2; obtain ⟨a0, a1, a2, a3, a4, a5, a6, a7⟩ := ba)
            | (go_at_call 15; refine (HSD.out _).mono ?_; rintro e w6 ⟨rfl, hb6⟩; have HB6 := Lib.hid (HB5.out.trans (hb6.mono HB5.out.size)); have x0 := cell_stays hb6 x0; have x1 := cell_stays hb6 x1; have x2 := cell_stays hb6 x2; have a0 := cell_stays hb6 a0; have a1 := cell_stays hb6 a1; have a2 := cell_stays hb6 a2; have a3 := cell_stays hb6 a3; have a4 := cell_stays hb6 a4; have a5 := cell_stays hb6 a5; have a6 := cell_stays hb6 a6; have a7 := cell_stays hb6 a7)
            | (go_at_call 61; refine (HSM.out _).mono ?_; rintro e w7 ⟨rfl, hb7⟩; have HB7 := Lib.hid (HB6.out.trans (hb7.mono HB6.out.size)); have x0 := cell_stays hb7 x0; have x1 := cell_stays hb7 x1; have x2 := cell_stays hb7 x2))
          go_roundw
          case rel => exact ⟨10, by omega, by omega, by go_num, HB7.out, x0, x1, x2⟩
          case measure => simp [intOf]
      · go_wp2_with fail
        go_ret
        exact ⟨rfl, hb⟩
  | false =>
    go_enter Try.func34, Try.ntmps34
    go_wp2_with (first
      | (go_at_call 15; refine (HSD.out _).mono ?_; rintro e w1 ⟨rfl, hb1⟩; have x0 := cell_stays hb1 x0; have x1 := cell_stays hb1 x1; have x2 := cell_stays hb1 x2)
      | (go_at_call 14; refine (HPR.out _).mono ?_; rintro e w2 ⟨rfl, rfl⟩))
    have HB1 := Lib.hid (HB0.out.trans (hb1.mono HB0.out.size))
    clear hb1 HB0
    go_loopw [5] (fun kv wr => ∃ k : Nat, 3 ≤ k ∧ k ≤ 10 ∧ kv = .int .i64 k ∧ Below w.heap.size w wr ∧ wr.cell? ⟨w.heap.size, 0, none⟩ = some (.int .i64 r) ∧ wr.cell? ⟨w.heap.size, 1, none⟩ = some (.int .i64 c) ∧ wr.cell? ⟨w.heap.size, 2, none⟩ = some (.slice a n cap)) (fun kv _ => 10 - (intOf kv).toNat)
    case atStart => exact ⟨3, by omega, by omega, rfl, HB1.out, x0, x1, x2⟩
    case round =>
      clear HB1 x0 x1 x2
      obtain ⟨k, k1, k2, rfl, hb, x0, x1, x2⟩ := hrel
      rcases (by omega : k = 3 ∨ k = 4 ∨ k = 5 ∨ k = 6 ∨ k = 7 ∨ k = 8 ∨ k = 9 ∨ k = 10) with e | e | e | e | e | e | e | e <;> subst e
      · have hE : lf 3 = 1 := by rw [HLE.out]; simp
        have hE1 := (HLW.out 3 (by omega) (by omega)).1
        have hpl := plays_err 3 (by omega) (by omega) r c p hp _ n x (.slice none 0 0) 0 x wr (HR.out.below hb) (rdl_nil _ _) (by rw [hE1, hE]; decide)
        rw [hE1, hE, show ((3 : Nat) : Int) = 3 from rfl] at hpl
        unfold ans0 at hpl
        have hsm := fun W => same_ans0 1 W
        unfold ans0 at hsm
        have HPL := Lib.hid hpl
        have HSM := Lib.hid hsm
        have HBB := Lib.hid hb
        clear hE hE1 hpl hsm hb
        go_wp2_with (first
          | (go_at_call 60; (with_reducible refine HPL.out.mono ?_); rintro e w5 ⟨rfl, hb5⟩; have HB5 := Lib.hid ((HBB.out.trans (hb5.mono HBB.out.size)).alloc (Nat.le_trans HBB.out.size hb5.size) (.cells #[.int .i64 0, .int .i64 0, .slice none 0 0, .slice none 0 0, .int .u64 0, .int .i64 0, .bool false, .int .i64 1] 92)); have hx5 := keep3 hb5 x0 x1 x2 (.cells #[.int .i64 0, .int .i64 0, .slice none 0 0, .slice none 0 0, .int .u64 0, .int .i64 0, .bool false, .int .i64 1] 92); obtain ⟨x0, x1, x2⟩ := hx5; have ba := box8 w5 92 1; obtain ⟨a0, a1, a2, a3, a4, a5, a6, a7⟩ := ba)
          | (go_at_call 15; refine (HSD.out _).mono ?_; rintro e w6 ⟨rfl, hb6⟩; have HB6 := Lib.hid (HB5.out.trans (hb6.mono HB5.out.size)); have x0 := cell_stays hb6 x0; have x1 := cell_stays hb6 x1; have x2 := cell_stays hb6 x2; have a0 := cell_stays hb6 a0; have a1 := cell_stays hb6 a1; have a2 := cell_stays hb6 a2; have a3 := cell_stays hb6 a3; have a4 := cell_stays hb6 a4; have a5 := cell_stays hb6 a5; have a6 := cell_stays hb6 a6; have a7 := cell_stays hb6 a7)
          | (go_at_call 61; refine (HSM.out _).mono ?_; rintro e w7 ⟨rfl, hb7⟩; have HB7 := Lib.hid (HB6.out.trans (hb7.mono HB6.out.size)); have x0 := cell_stays hb7 x0; have x1 := cell_stays hb7 x1; have x2 := cell_stays hb7 x2))
        go_roundw
        case rel => exact ⟨4, by omega, by omega, by go_num, HB7.out, x0, x1, x2⟩
        case measure => simp [intOf]
      · by_cases hrc : r = c
        · have hcb : (r != c) = false := by rw [bne_eq_false_iff_eq]; exact hrc
          have hE : lf 4 = 1 := by rw [HLE.out]; simp [hrc]
          have hE1 := (HLW.out 4 (by omega) (by omega)).1
          have hpl := plays_err 4 (by omega) (by omega) r c p hp _ n x (.slice none 0 0) 0 x wr (HR.out.below hb) (rdl_nil _ _) (by rw [hE1, hE]; decide)
          rw [hE1, hE, show ((4 : Nat) : Int) = 4 from rfl] at hpl
          unfold ans0 at hpl
          have hsm := fun W => same_ans0 1 W
          unfold ans0 at hsm
          have HPL := Lib.hid hpl
          have HSM := Lib.hid hsm
          have HBB := Lib.hid hb
          clear hE hE1 hpl hsm hb hrc
          go_wp2_with (first
            | (go_at_call 60; (with_reducible refine HPL.out.mono ?_); rintro e w5 ⟨rfl, hb5⟩; have HB5 := Lib.hid ((HBB.out.trans (hb5.mono HBB.out.size)).alloc (Nat.le_trans HBB.out.size hb5.size) (.cells #[.int .i64 0, .int .i64 0, .slice none 0 0, .slice none 0 0, .int .u64 0, .int .i64 0, .bool false, .int .i64 1] 92)); have hx5 := keep3 hb5 x0 x1 x2 (.cells #[.int .i64 0, .int .i64 0, .slice none 0 0, .slice none 0 0, .int .u64 0, .int .i64 0, .bool false, .int .i64 1] 92); obtain ⟨x0, x1, x2⟩ := hx5; have ba := box8 w5 92 1; obtain ⟨a0, a1, a2, a3, a4, a5, a6, a7⟩ := ba)
            | (go_at_call 15; refine (HSD.out _).mono ?_; rintro e w6 ⟨rfl, hb6⟩; have HB6 := Lib.hid (HB5.out.trans (hb6.mono HB5.out.size)); have x0 := cell_stays hb6 x0; have x1 := cell_stays hb6 x1; have x2 := cell_stays hb6 x2; have a0 := cell_stays hb6 a0; have a1 := cell_stays hb6 a1; have a2 := cell_stays hb6 a2; have a3 := cell_stays hb6 a3; have a4 := cell_stays hb6 a4; have a5 := cell_stays hb6 a5; have a6 := cell_stays hb6 a6; have a7 := cell_stays hb6 a7)
            | (go_at_call 61; refine (HSM.out _).mono ?_; rintro e w7 ⟨rfl, hb7⟩; have HB7 := Lib.hid (HB6.out.trans (hb7.mono HB6.out.size)); have x0 := cell_stays hb7 x0; have x1 := cell_stays hb7 x1; have x2 := cell_stays hb7 x2))
          go_roundw
          case rel => exact ⟨5, by omega, by omega, by go_num, HB7.out, x0, x1, x2⟩
          case measure => simp [intOf]
        · have hcb : (r != c) = true := by rw [bne_iff_ne]; exact hrc
          have hE : lf 4 = 1 := by rw [HLE.out]; simp [hrc]
          have hE1 := (HLW.out 4 (by omega) (by omega)).1
          have hpl := plays_err 4 (by omega) (by omega) r c p hp _ n x (.slice none 0 0) 0 x wr (HR.out.below hb) (rdl_nil _ _) (by rw [hE1, hE]; decide)
          rw [hE1, hE, show ((4 : Nat) : Int) = 4 from rfl] at hpl
          unfold ans0 at hpl
          have hsm := fun W => same_ans0 1 W
          unfold ans0 at hsm
          have HPL := Lib.hid hpl
          have HSM := Lib.hid hsm
          have HBB := Lib.hid hb
          clear hE hE1 hpl hsm hb hrc
          go_wp2_with (first
            | (go_at_call 60; (with_reducible refine HPL.out.mono ?_); rintro e w5 ⟨rfl, hb5⟩; have HB5 := Lib.hid ((HBB.out.trans (hb5.mono HBB.out.size)).alloc (Nat.le_trans HBB.out.size hb5.size) (.cells #[.int .i64 0, .int .i64 0, .slice none 0 0, .slice none 0 0, .int .u64 0, .int .i64 0, .bool false, .int .i64 1] 92)); have hx5 := keep3 hb5 x0 x1 x2 (.cells #[.int .i64 0, .int .i64 0, .slice none 0 0, .slice none 0 0, .int .u64 0, .int .i64 0, .bool false, .int .i64 1] 92); obtain ⟨x0, x1, x2⟩ := hx5; have ba := box8 w5 92 1; obtain ⟨a0, a1, a2, a3, a4, a5, a6, a7⟩ := ba)
            | (go_at_call 15; refine (HSD.out _).mono ?_; rintro e w6 ⟨rfl, hb6⟩; have HB6 := Lib.hid (HB5.out.trans (hb6.mono HB5.out.size)); have x0 := cell_stays hb6 x0; have x1 := cell_stays hb6 x1; have x2 := cell_stays hb6 x2; have a0 := cell_stays hb6 a0; have a1 := cell_stays hb6 a1; have a2 := cell_stays hb6 a2; have a3 := cell_stays hb6 a3; have a4 := cell_stays hb6 a4; have a5 := cell_stays hb6 a5; have a6 := cell_stays hb6 a6; have a7 := cell_stays hb6 a7)
            | (go_at_call 61; refine (HSM.out _).mono ?_; rintro e w7 ⟨rfl, hb7⟩; have HB7 := Lib.hid (HB6.out.trans (hb7.mono HB6.out.size)); have x0 := cell_stays hb7 x0; have x1 := cell_stays hb7 x1; have x2 := cell_stays hb7 x2))
          go_roundw
          case rel => exact ⟨5, by omega, by omega, by go_num, HB7.out, x0, x1, x2⟩
          case measure => simp [intOf]
      · have hE : lf 5 = 1 := by rw [HLE.out]; simp
        have hE1 := (HLW.out 5 (by omega) (by omega)).1
        have hpl := plays_err 5 (by omega) (by omega) r c p hp _ n x (.slice none 0 0) 0 x wr (HR.out.below hb) (rdl_nil _ _) (by rw [hE1, hE]; decide)
        rw [hE1, hE, show ((5 : Nat) : Int) = 5 from rfl] at hpl
        unfold ans0 at hpl
        have hsm := fun W => same_ans0 1 W
        unfold ans0 at hsm
        have HPL := Lib.hid hpl
        have HSM := Lib.hid hsm
        have HBB := Lib.hid hb
        clear hE hE1 hpl hsm hb
        go_wp2_with (first
          | (go_at_call 60; (with_reducible refine HPL.out.mono ?_); rintro e w5 ⟨rfl, hb5⟩; have HB5 := Lib.hid ((HBB.out.trans (hb5.mono HBB.out.size)).alloc (Nat.le_trans HBB.out.size hb5.size) (.cells #[.int .i64 0, .int .i64 0, .slice none 0 0, .slice none 0 0, .int .u64 0, .int .i64 0, .bool false, .int .i64 1] 92)); have hx5 := keep3 hb5 x0 x1 x2 (.cells #[.int .i64 0, .int .i64 0, .slice none 0 0, .slice none 0 0, .int .u64 0, .int .i64 0, .bool false, .int .i64 1] 92); obtain ⟨x0, x1, x2⟩ := hx5; have ba := box8 w5 92 1; obtain ⟨a0, a1, a2, a3, a4, a5, a6, a7⟩ := ba)
          | (go_at_call 15; refine (HSD.out _).mono ?_; rintro e w6 ⟨rfl, hb6⟩; have HB6 := Lib.hid (HB5.out.trans (hb6.mono HB5.out.size)); have x0 := cell_stays hb6 x0; have x1 := cell_stays hb6 x1; have x2 := cell_stays hb6 x2; have a0 := cell_stays hb6 a0; have a1 := cell_stays hb6 a1; have a2 := cell_stays hb6 a2; have a3 := cell_stays hb6 a3; have a4 := cell_stays hb6 a4; have a5 := cell_stays hb6 a5; have a6 := cell_stays hb6 a6; have a7 := cell_stays hb6 a7)
          | (go_at_call 61; refine (HSM.out _).mono ?_; rintro e w7 ⟨rfl, hb7⟩; have HB7 := Lib.hid (HB6.out.trans (hb7.mono HB6.out.size)); have x0 := cell_stays hb7 x0; have x1 := cell_stays hb7 x1; have x2 := cell_stays hb7 x2))
        go_roundw
        case rel => exact ⟨6, by omega, by omega, by go_num, HB7.out, x0, x1, x2⟩
        case measure => simp [intOf]
      · have hE : lf 6 = 1 := by rw [HLE.out]; simp
        have hE1 := (HLW.out 6 (by omega) (by omega)).1
        have hpl := plays_err 6 (by omega) (by omega) r c p hp _ n x (.slice none 0 0) 0 x wr (HR.out.below hb) (rdl_nil _ _) (by rw [hE1, hE]; decide)
        rw [hE1, hE, show ((6 : Nat) : Int) = 6 from rfl] at hpl
        unfold ans0 at hpl
        have hsm := fun W => same_ans0 1 W
        unfold ans0 at hsm
        have HPL := Lib.hid hpl
        have HSM := Lib.hid hsm
        have HBB := Lib.hid hb
        clear hE hE1 hpl hsm hb
        go_wp2_with (first
          | (go_at_call 60; (with_reducible refine HPL.out.mono ?_); rintro e w5 ⟨rfl, hb5⟩; have HB5 := Lib.hid ((HBB.out.trans (hb5.mono HBB.out.size)).alloc (Nat.le_trans HBB.out.size hb5.size) (.cells #[.int .i64 0, .int .i64 0, .slice none 0 0, .slice none 0 0, .int .u64 0, .int .i64 0, .bool false, .int .i64 1] 92)); have hx5 := keep3 hb5 x0 x1 x2 (.cells #[.int .i64 0, .int .i64 0, .slice none 0 0, .slice none 0 0, .int .u64 0, .int .i64 0, .bool false, .int .i64 1] 92); obtain ⟨x0, x1, x2⟩ := hx5; have ba := box8 w5 92 1; obtain ⟨a0, a1, a2, a3, a4, a5, a6, a7⟩ := ba)
          | (go_at_call 15; refine (HSD.out _).mono ?_; rintro e w6 ⟨rfl, hb6⟩; have HB6 := Lib.hid (HB5.out.trans (hb6.mono HB5.out.size)); have x0 := cell_stays hb6 x0; have x1 := cell_stays hb6 x1; have x2 := cell_stays hb6 x2; have a0 := cell_stays hb6 a0; have a1 := cell_stays hb6 a1; have a2 := cell_stays hb6 a2; have a3 := cell_stays hb6 a3; have a4 := cell_stays hb6 a4; have a5 := cell_stays hb6 a5; have a6 := cell_stays hb6 a6; have a7 := cell_stays hb6 a7)
          | (go_at_call 61; refine (HSM.out _).mono ?_; rintro e w7 ⟨rfl, hb7⟩; have HB7 := Lib.hid (HB6.out.trans (hb7.mono HB6.out.size)); have x0 := cell_stays hb7 x0; have x1 := cell_stays hb7 x1; have x2 := cell_stays hb7 x2))
        go_roundw
        case rel => exact ⟨7, by omega, by omega, by go_num, HB7.out, x0, x1, x2⟩
        case measure => simp [intOf]
      · by_cases hrc : r = c
        · have hcb : (r != c) = false := by rw [bne_eq_false_iff_eq]; exact hrc
          have hE : lf 7 = 1 := by rw [HLE.out]; simp [hrc]
          have hE1 := (HLW.out 7 (by omega) (by omega)).1
          have hpl := plays_err 7 (by omega) (by omega) r c p hp _ n x (.slice none 0 0) 0 x wr (HR.out.below hb) (rdl_nil _ _) (by rw [hE1, hE]; decide)
          rw [hE1, hE, show ((7 : Nat) : Int) = 7 from rfl] at hpl
          unfold ans0 at hpl
          have hsm := fun W => same_ans0 1 W
          unfold ans0 at hsm
          have HPL := Lib.hid hpl
          have HSM := Lib.hid hsm
          have HBB := Lib.hid hb
          clear hE hE1 hpl hsm hb hrc
          go_wp2_with (first
            | (go_at_call 60; (with_reducible refine HPL.out.mono ?_); rintro e w5 ⟨rfl, hb5⟩; have HB5 := Lib.hid ((HBB.out.trans (hb5.mono HBB.out.size)).alloc (Nat.le_trans HBB.out.size hb5.size) (.cells #[.int .i64 0, .int .i64 0, .slice none 0 0, .slice none 0 0, .int .u64 0, .int .i64 0, .bool false, .int .i64 1] 92)); have hx5 := keep3 hb5 x0 x1 x2 (.cells #[.int .i64 0, .int .i64 0, .slice none 0 0, .slice none 0 0, .int .u64 0, .int .i64 0, .bool false, .int .i64 1] 92); obtain ⟨x0, x1, x2⟩ := hx5; have ba := box8 w5 92 1; obtain ⟨a0, a1, a2, a3, a4, a5, a6, a7⟩ := ba)
            | (go_at_call 15; refine (HSD.out _).mono ?_; rintro e w6 ⟨rfl, hb6⟩; have HB6 := Lib.hid (HB5.out.trans (hb6.mono HB5.out.size)); have x0 := cell_stays hb6 x0; have x1 := cell_stays hb6 x1; have x2 := cell_stays hb6 x2; have a0 := cell_stays hb6 a0; have a1 := cell_stays hb6 a1; have a2 := cell_stays hb6 a2; have a3 := cell_stays hb6 a3; have a4 := cell_stays hb6 a4; have a5 := cell_stays hb6 a5; have a6 := cell_stays hb6 a6; have a7 := cell_stays hb6 a7)
            | (go_at_call 61; refine (HSM.out _).mono ?_; rintro e w7 ⟨rfl, hb7⟩; have HB7 := Lib.hid (HB6.out.trans (hb7.mono HB6.out.size)); have x0 := cell_stays hb7 x0; have x1 := cell_stays hb7 x1; have x2 := cell_stays hb7 x2))
          go_roundw
          case rel => exact ⟨8, by omega, by omega, by go_num, HB7.out, x0, x1, x2⟩
          case measure => simp [intOf]
        · have hcb : (r != c) = true := by rw [bne_iff_ne]; exact hrc
          have hE : lf 7 = 1 := by rw [HLE.out]; simp [hrc]
          have hE1 := (HLW.out 7 (by omega) (by omega)).1
          have hpl := plays_err 7 (by omega) (by omega) r c p hp _ n x (.slice none 0 0) 0 x wr (HR.out.below hb) (rdl_nil _ _) (by rw [hE1, hE]; decide)
          rw [hE1, hE, show ((7 : Nat) : Int) = 7 from rfl] at hpl
          unfold ans0 at hpl
          have hsm := fun W => same_ans0 1 W
          unfold ans0 at hsm
          have HPL := Lib.hid hpl
          have HSM := Lib.hid hsm
          have HBB := Lib.hid hb
          clear hE hE1 hpl hsm hb hrc
          go_wp2_with (first
            | (go_at_call 60; (with_reducible refine HPL.out.mono ?_); rintro e w5 ⟨rfl, hb5⟩; have HB5 := Lib.hid ((HBB.out.trans (hb5.mono HBB.out.size)).alloc (Nat.le_trans HBB.out.size hb5.size) (.cells #[.int .i64 0, .int .i64 0, .slice none 0 0, .slice none 0 0, .int .u64 0, .int .i64 0, .bool false, .int .i64 1] 92)); have hx5 := keep3 hb5 x0 x1 x2 (.cells #[.int .i64 0, .int .i64 0, .slice none 0 0, .slice none 0 0, .int .u64 0, .int .i64 0, .bool false, .int .i64 1] 92); obtain ⟨x0, x1, x2⟩ := hx5; have ba := box8 w5 92 1; obtain ⟨a0, a1, a2, a3, a4, a5, a6, a7⟩ := ba)
            | (go_at_call 15; refine (HSD.out _).mono ?_; rintro e w6 ⟨rfl, hb6⟩; have HB6 := Lib.hid (HB5.out.trans (hb6.mono HB5.out.size)); have x0 := cell_stays hb6 x0; have x1 := cell_stays hb6 x1; have x2 := cell_stays hb6 x2; have a0 := cell_stays hb6 a0; have a1 := cell_stays hb6 a1; have a2 := cell_stays hb6 a2; have a3 := cell_stays hb6 a3; have a4 := cell_stays hb6 a4; have a5 := cell_stays hb6 a5; have a6 := cell_stays hb6 a6; have a7 := cell_stays hb6 a7)
            | (go_at_call 61; refine (HSM.out _).mono ?_; rintro e w7 ⟨rfl, hb7⟩; have HB7 := Lib.hid (HB6.out.trans (hb7.mono HB6.out.size)); have x0 := cell_stays hb7 x0; have x1 := cell_stays hb7 x1; have x2 := cell_stays hb7 x2))
          go_roundw
          case rel => exact ⟨8, by omega, by omega, by go_num, HB7.out, x0, x1, x2⟩
          case measure => simp [intOf]
      · have hE : lf 8 = 1 := by rw [HLE.out]; simp
        have hE1 := (HLW.out 8 (by omega) (by omega)).1
        have hpl := plays_err 8 (by omega) (by omega) r c p hp _ n x (.slice none 0 0) 0 x wr (HR.out.below hb) (rdl_nil _ _) (by rw [hE1, hE]; decide)
        rw [hE1, hE, show ((8 : Nat) : Int) = 8 from rfl] at hpl
        unfold ans0 at hpl
        have hsm := fun W => same_ans0 1 W
        unfold ans0 at hsm
        have HPL := Lib.hid hpl
        have HSM := Lib.hid hsm
        have HBB := Lib.hid hb
        clear hE hE1 hpl hsm hb
        go_wp2_with (first
          | (go_at_call 60; (with_reducible refine HPL.out.mono ?_); rintro e w5 ⟨rfl, hb5⟩; have HB5 := Lib.hid ((HBB.out.trans (hb5.mono HBB.out.size)).alloc (Nat.le_trans HBB.out.size hb5.size) (.cells #[.int .i64 0, .int .i64 0, .slice none 0 0, .slice none 0 0, .int .u64 0, .int .i64 0, .bool false, .int .i64 1] 92)); have hx5 := keep3 hb5 x0 x1 x2 (.cells #[.int .i64 0, .int .i64 0, .slice none 0 0, .slice none 0 0, .int .u64 0, .int .i64 0, .bool false, .int .i64 1] 92); obtain ⟨x0, x1, x2⟩ := hx5; have ba := box8 w5 92 1; obtain ⟨a0, a1, a2, a3, a4, a5, a6, a7⟩ := ba)
          | (go_at_call 15; refine (HSD.out _).mono ?_; rintro e w6 ⟨rfl, hb6⟩; have HB6 := Lib.hid (HB5.out.trans (hb6.mono HB5.out.size)); have x0 := cell_stays hb6 x0; have x1 := cell_stays hb6 x1; have x2 := cell_stays hb6 x2; have a0 := cell_stays hb6 a0; have a1 := cell_stays hb6 a1; have a2 := cell_stays hb6 a2; have a3 := cell_stays hb6 a3; have a4 := cell_stays hb6 a4; have a5 := cell_stays hb6 a5; have a6 := cell_stays hb6 a6; have a7 := cell_stays hb6 a7)
          | (go_at_call 61; refine (HSM.out _).mono ?_; rintro e w7 ⟨rfl, hb7⟩; have HB7 := Lib.hid (HB6.out.trans (hb7.mono HB6.out.size)); have x0 := cell_stays hb7 x0; have x1 := cell_stays hb7 x1; have x2 := cell_stays hb7 x2))
        go_roundw
        case rel => exact ⟨9, by omega, by omega, by go_num, HB7.out, x0, x1, x2⟩
        case measure => simp [intOf]
      · by_cases hc0 : c = 0
        · have hcb : (c != 0) = false := by rw [bne_eq_false_iff_eq]; exact hc0
          have hE : lf 9 = 1 := by rw [HLE.out]; simp [hc0]
          have hE1 := (HLW.out 9 (by omega) (by omega)).1
          have hpl := plays_err 9 (by omega) (by omega) r c p hp _ n x (.slice none 0 0) 0 x wr (HR.out.below hb) (rdl_nil _ _) (by rw [hE1, hE]; decide)
          rw [hE1, hE, show ((9 : Nat) : Int) = 9 from rfl] at hpl
          unfold ans0 at hpl
          have hsm := fun W => same_ans0 1 W
          unfold ans0 at hsm
          have HPL := Lib.hid hpl
          have HSM := Lib.hid hsm
          have HBB := Lib.hid hb
          clear hE hE1 hpl hsm hb hc0
          go_wp2_with (first
            | (go_at_call 60; (with_reducible refine HPL.out.mono ?_); rintro e w5 ⟨rfl, hb5⟩; have HB5 := Lib.hid ((HBB.out.trans (hb5.mono HBB.out.size)).alloc (Nat.le_trans HBB.out.size hb5.size) (.cells #[.int .i64 0, .int .i64 0, .slice none 0 0, .slice none 0 0, .int .u64 0, .int .i64 0, .bool false, .int .i64 1] 92)); have hx5 := keep3 hb5 x0 x1 x2 (.cells #[.int .i64 0, .int .i64 0, .slice none 0 0, .slice none 0 0, .int .u64 0, .int .i64 0, .bool false, .int .i64 1] 92); obtain ⟨x0, x1, x2⟩ := hx5; have ba := box8 w5 92 1; obtain ⟨a0, a1, a2, a3, a4, a5, a6, a7⟩ := ba)
            | (go_at_call 15; refine (HSD.out _).mono ?_; rintro e w6 ⟨rfl, hb6⟩; have HB6 := Lib.hid (HB5.out.trans (hb6.mono HB5.out.size)); have x0 := cell_stays hb6 x0; have x1 := cell_stays hb6 x1; have x2 := cell_stays hb6 x2; have a0 := cell_stays hb6 a0; have a1 := cell_stays hb6 a1; have a2 := cell_stays hb6 a2; have a3 := cell_stays hb6 a3; have a4 := cell_stays hb6 a4; have a5 := cell_stays hb6 a5; have a6 := cell_stays hb6 a6; have a7 := cell_stays hb6 a7)
            | (go_at_call 61; refine (HSM.out _).mono ?_; rintro e w7 ⟨rfl, hb7⟩; have HB7 := Lib.hid (HB6.out.trans (hb7.mono HB6.out.size)); have x0 := cell_stays hb7 x0; have x1 := cell_stays hb7 x1; have x2 := cell_stays hb7 x2))
          go_roundw
          case rel => exact ⟨10, by omega, by omega, by go_num, HB7.out, x0, x1, x2⟩
          case measure => simp [intOf]
        · have hcb : (c != 0) = true := by rw [bne_iff_ne]; exact hc0
          have hE : lf 9 = 1 := by rw [HLE.out]; simp [hc0]
          have hE1 := (HLW.out 9 (by omega) (by omega)).1
          have hpl := plays_err 9 (by omega) (by omega) r c p hp _ n x (.slice none 0 0) 0 x wr (HR.out.below hb) (rdl_nil _ _) (by rw [hE1, hE]; decide)
          rw [hE1, hE, show ((9 : Nat) : Int) = 9 from rfl] at hpl
          unfold ans0 at hpl
          have hsm := fun W => same_ans0 1 W
          unfold ans0 at hsm
          have HPL := Lib.hid hpl
          have HSM := Lib.hid hsm
          have HBB := Lib.hid hb
          clear hE hE1 hpl hsm hb hc0
          go_wp2_with (first
            | (go_at_call 60; (with_reducible refine HPL.out.mono ?_); rintro e w5 ⟨rfl, hb5⟩; have HB5 := Lib.hid ((HBB.out.trans (hb5.mono HBB.out.size)).alloc (Nat.le_trans HBB.out.size hb5.size) (.cells #[.int .i64 0, .int .i64 0, .slice none 0 0, .slice none 0 0, .int .u64 0, .int .i64 0, .bool false, .int .i64 1] 92)); have hx5 := keep3 hb5 x0 x1 x2 (.cells #[.int .i64 0, .int .i64 0, .slice none 0 0, .slice none 0 0, .int .u64 0, .int .i64 0, .bool false, .int .i64 1] 92); obtain ⟨x0, x1, x2⟩ := hx5; have ba := box8 w5 92 1; obtain ⟨a0, a1, a2, a3, a4, a5, a6, a7⟩ := ba)
            | (go_at_call 15; refine (HSD.out _).mono ?_; rintro e w6 ⟨rfl, hb6⟩; have HB6 := Lib.hid (HB5.out.trans (hb6.mono HB5.out.size)); have x0 := cell_stays hb6 x0; have x1 := cell_stays hb6 x1; have x2 := cell_stays hb6 x2; have a0 := cell_stays hb6 a0; have a1 := cell_stays hb6 a1; have a2 := cell_stays hb6 a2; have a3 := cell_stays hb6 a3; have a4 := cell_stays hb6 a4; have a5 := cell_stays hb6 a5; have a6 := cell_stays hb6 a6; have a7 := cell_stays hb6 a7)
            | (go_at_call 61; refine (HSM.out _).mono ?_; rintro e w7 ⟨rfl, hb7⟩; have HB7 := Lib.hid (HB6.out.trans (hb7.mono HB6.out.size)); have x0 := cell_stays hb7 x0; have x1 := cell_stays hb7 x1; have x2 := cell_stays hb7 x2))
          go_roundw
          case rel => exact ⟨10, by omega, by omega, by go_num, HB7.out, x0, x1, x2⟩
          case measure => simp [intOf]
      · go_wp2_with fail
        go_ret
        exact ⟨rfl, hb⟩

end Go.Proofs.Ytdlpemmoobbgnaa
