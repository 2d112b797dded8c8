/- The walks of trellisref05.Euclid, Mod. The walk of trellisref05.Mod. The walks of the law's sound, alike, alikeRows, alikeMats, same (where they answer yes), least, and trellisref01.Same. The law's two fixed calls. -/
import Derived.Test.YtdlpemmoobbgnaaGD
import Derived.Test.YtdlpemmoobbgnaaGB
import Derived.StillTailTactics
set_option linter.unusedVariables false
set_option linter.unusedSimpArgs false
namespace Go.Proofs.Ytdlpemmoobbgnaa
open Go.RowKit

/-- the state of Euclid: the divisor's box, two result boxes, quotient and rest in boxes Q and Q + 1 -/
structure EuS (w wr : World) (Q : Nat) (u0 u1 q0 q1 r0 r1 : Value) : Prop where
  p0 : wr.cell? ⟨w.heap.size + 1, 0, none⟩ = some u0
  p1 : wr.cell? ⟨w.heap.size + 1, 1, none⟩ = some u1
  t0 : wr.cell? ⟨w.heap.size + 1 + 1, 0, none⟩ = some (.bool false) ∧ wr.frozen? ⟨w.heap.size + 1 + 1, 0, none⟩ = false
  t1 : wr.cell? ⟨w.heap.size + 1 + 1, 1, none⟩ = some (.slice none 0 0) ∧ wr.frozen? ⟨w.heap.size + 1 + 1, 1, none⟩ = false
  z0 : wr.cell? ⟨w.heap.size + 1 + 1 + 1, 0, none⟩ = some (.bool false) ∧ wr.frozen? ⟨w.heap.size + 1 + 1 + 1, 0, none⟩ = false
  z1 : wr.cell? ⟨w.heap.size + 1 + 1 + 1, 1, none⟩ = some (.slice none 0 0) ∧ wr.frozen? ⟨w.heap.size + 1 + 1 + 1, 1, none⟩ = false
  q0 : wr.cell? ⟨Q, 0, none⟩ = some q0 ∧ wr.frozen? ⟨Q, 0, none⟩ = false
  q1 : wr.cell? ⟨Q, 1, none⟩ = some q1 ∧ wr.frozen? ⟨Q, 1, none⟩ = false
  r0 : wr.cell? ⟨Q + 1, 0, none⟩ = some r0 ∧ wr.frozen? ⟨Q + 1, 0, none⟩ = false
  r1 : wr.cell? ⟨Q + 1, 1, none⟩ = some r1 ∧ wr.frozen? ⟨Q + 1, 1, none⟩ = false
  below : Below w.heap.size w wr
  hQ : w.heap.size + 4 ≤ Q
  size : Q + 2 ≤ wr.heap.size

section
variable {w wr w' : World} {Q : Nat} {u0 u1 q0 q1 r0 r1 : Value}
theorem EuS.same (h : EuS w wr Q u0 u1 q0 q1 r0 r1) (hb : Below wr.heap.size wr w') : EuS w w' Q u0 u1 q0 q1 r0 r1 :=
  ⟨cell_stays hb h.p0, cell_stays hb h.p1, ⟨cell_stays hb h.t0.1, froz_stays hb h.t0.1 h.t0.2⟩, ⟨cell_stays hb h.t1.1, froz_stays hb h.t1.1 h.t1.2⟩, ⟨cell_stays hb h.z0.1, froz_stays hb h.z0.1 h.z0.2⟩, ⟨cell_stays hb h.z1.1, froz_stays hb h.z1.1 h.z1.2⟩,
    ⟨cell_stays hb h.q0.1, froz_stays hb h.q0.1 h.q0.2⟩, ⟨cell_stays hb h.q1.1, froz_stays hb h.q1.1 h.q1.2⟩, ⟨cell_stays hb h.r0.1, froz_stays hb h.r0.1 h.r0.2⟩, ⟨cell_stays hb h.r1.1, froz_stays hb h.r1.1 h.r1.2⟩,
    h.below.trans (hb.mono h.below.size), h.hQ, Nat.le_trans h.size hb.size⟩
theorem EuS.drew (h : EuS w wr Q u0 u1 q0 q1 r0 r1) : EuS w wr.drew Q u0 u1 q0 q1 r0 r1 := h.same ((Below.refl _ _).drew)

theorem stored2_own {w3 : World} {b : Nat} (u v : Value) {y0 y1 : Value} (h0 : w3.cell? ⟨b, 0, none⟩ = some y0) (h1 : w3.cell? ⟨b, 1, none⟩ = some y1) : (stored2 w3 b u v).cell? ⟨b, 0, none⟩ = some u ∧ (stored2 w3 b u v).cell? ⟨b, 1, none⟩ = some v := by
  unfold stored2
  constructor
  · rw [World.cell?_setCell_other _ _ _ _ (by intro e; injection e with _ e _; omega)]
    exact World.cell?_setCell_same _ _ _ h0
  · refine World.cell?_setCell_same _ _ _ (u := y1) ?_
    rw [World.cell?_setCell_other _ _ _ _ (by intro e; injection e with _ e _; omega)]; exact h1

end

theorem FrZ.stored' {w3 : World} {base : Nat} {v : Value} {z : Int} (h : FrZ w3 base v z) {b : Nat} (hb : b < base) (u v' : Value) : FrZ (stored2 w3 b u v') base v z := by
  obtain ⟨m, n, f, rfl, h1, h2⟩ := h
  exact ⟨m, n, f, rfl, stored2_fr' h1 hb u v', h2⟩

end Go.Proofs.Ytdlpemmoobbgnaa

namespace Go.Proofs.Ytdlpemmoobbgnaa
open Go.RowKit

end Go.Proofs.Ytdlpemmoobbgnaa

namespace Go.Proofs.Ytdlpemmoobbgnaa
open Go.RowKit

set_option maxHeartbeats 1000000 in
set_option maxRecDepth 100000 in
theorem Same_yes (x y : Value) (n : Nat) (f g : Nat → Int) (w : World) (hx : RdA .u64 w x n f) (hy : RdA .u64 w y n g) (hfg : ∀ i, i < n → f i = g i) :
    Calls Try.prog 77 #[x, y] w fun e w' => e = .returned (.bool true) ∧ Below w.heap.size w w' := by
  obtain ⟨a, cap, rfl, h1, h2, h3⟩ := wd_get hx
  obtain ⟨b, cap', rfl, g1, g2, g3⟩ := wd_get hy
  have H3 := Lib.hid h3
  have G3 : Hid (∀ i, i < n → ∃ b' o, b = some ⟨b', o, none⟩ ∧ w.cell? ⟨b', o + i, none⟩ = some (.int .u64 (f i))) := fun i hi => by rw [hfg i hi]; exact g3 i hi
  clear h3 g3 hx hy hfg
  go_enter Try.func77, Try.ntmps77
  go_wp2_with fail
  go_loopw [5] (fun kv wr => ∃ k : Nat, k ≤ n ∧ kv = .int .i64 k ∧ Below w.heap.size w wr) (fun kv _ => n - (intOf kv).toNat)
  case atStart => exact ⟨0, Nat.zero_le _, rfl, Below.refl _ _⟩
  case round =>
    obtain ⟨k, k1, rfl, hb⟩ := hrel
    by_cases hk : k < n
    · obtain ⟨b1, o1, rfl, hc⟩ := H3.out k hk
      obtain ⟨b2, o2, rfl, hd⟩ := G3.out k hk
      have hc := cell_stays hb hc
      have hd := cell_stays hb hd
      generalize f k = u at hc hd
      go_wp2_with fail
      go_region
      all_goals
        go_wp2_with fail
        go_roundw
        case rel => exact ⟨k + 1, by omega, by go_num, hb.drew⟩
        case measure => simp [intOf]; omega
    · go_wp2_with fail
      go_ret
      exact ⟨rfl, hb⟩

/-- the same sign and the same words -/
def RawEq (r s : Raw) : Prop := r.neg = s.neg ∧ r.n = s.n ∧ ∀ i, i < r.n → r.f i = s.f i
theorem RawEq.refl (r : Raw) : RawEq r r := ⟨rfl, rfl, fun _ _ => rfl⟩

set_option maxHeartbeats 1000000 in
theorem alike_yes (x y : Value) (r s : Raw) (w : World) (hx : RdI w x r) (hy : RdI w y s) (h : RawEq r s) :
    Calls Try.prog 54 #[x, y] w fun e w' => e = .returned (.bool true) ∧ Below w.heap.size w w' := by
  obtain ⟨m, rfl, hr, -⟩ := hx
  obtain ⟨l, rfl, hs, -⟩ := hy
  obtain ⟨e1, e2, e3⟩ := h
  rw [← e1]
  rw [← e2] at hs
  have hb0 : Below w.heap.size w ((w.alloc (.cells #[.bool r.neg, m] 56)).alloc (.cells #[.bool r.neg, l] 56)) := ((Below.refl _ _).alloc (Nat.le_refl _) _).alloc (by simp) _
  have hsm := Same_yes _ _ _ _ _ _ (hr.below hb0) (hs.below hb0) e3
  obtain ⟨am, cm, rfl, -⟩ := hr
  obtain ⟨al, cl, rfl, -⟩ := hs
  obtain ⟨⟨x0, x1, y0, y1, -, -⟩, -, -⟩ := boxes2 w (.bool r.neg) (.slice am r.n cm) (.bool r.neg) (.slice al r.n cl) 56
  have HSM := Lib.hid hsm
  have HB0 := Lib.hid hb0
  clear hb0 hsm e1 e2 e3
  go_enter Try.func54, Try.ntmps54
  go_wp2_with fail
  refine HSM.out.mono ?_
  rintro e w4 ⟨rfl, hb4⟩
  have x0 := cell_stays hb4 x0
  have y0 := cell_stays hb4 y0
  have HB4 := Lib.hid (HB0.out.trans (hb4.mono HB0.out.size))
  clear hb4
  go_wp2_with fail
  go_ret
  exact ⟨by simp, HB4.out⟩

set_option maxHeartbeats 1000000 in
set_option maxRecDepth 100000 in
theorem alikeRows_yes (x y : Value) (n : Nat) (X Y : Nat → Raw) (w : World) (hx : RdL w x n X) (hy : RdL w y n Y) (h : ∀ i, i < n → RawEq (X i) (Y i)) :
    Calls Try.prog 49 #[x, y] w fun e w' => e = .returned (.bool true) ∧ Below w.heap.size w w' := by
  obtain ⟨a, cap, rfl, h1, h2, h3⟩ := hx
  obtain ⟨b, cap', rfl, g1, g2, g3⟩ := hy
  have H3 := Lib.hid h3
  have G3 := Lib.hid g3
  have HE := Lib.hid h
  clear h3 g3 h
  go_enter Try.func49, Try.ntmps49
  go_wp2_with fail
  go_loopw [5] (fun kv wr => ∃ k : Nat, k ≤ n ∧ kv = .int .i64 k ∧ Below w.heap.size w wr) (fun kv _ => n - (intOf kv).toNat)
  case atStart => exact ⟨0, Nat.zero_le _, rfl, Below.refl _ _⟩
  case round =>
    obtain ⟨k, k1, rfl, hb⟩ := hrel
    by_cases hk : k < n
    · obtain ⟨b1, o1, rfl, hc⟩ := H3.out (by omega)
      obtain ⟨b2, o2, rfl, hd⟩ := G3.out (by omega)
      obtain ⟨m1, c1, c2, c3⟩ := hc k hk
      obtain ⟨m2, d1, d2, d3⟩ := hd k hk
      have c1 := cell_stays hb c1
      have c2 := cell_stays hb c2
      have d1 := cell_stays hb d1
      have d2 := cell_stays hb d2
      have hal := alike_yes _ _ (X k) (Y k) wr.drew ⟨m1, rfl, (c3.below hb).below (Below.refl wr.heap.size wr).drew⟩ ⟨m2, rfl, (d3.below hb).below (Below.refl wr.heap.size wr).drew⟩ (HE.out k hk)
      have HAL := Lib.hid hal
      clear hal hc hd c3 d3
      go_wp2_with fail
      refine wp_region_still_tail 8 (by kernel_rfl) (by kernel_rfl) ?_
      simp only [List.take_succ_cons, List.take_zero, List.drop_succ_cons, List.drop_zero]
      repeat still_step
      refine wpStill_nil ?_
      change wpList _ _ _ _ _ wr.drew
      go_wp2_with (go_at_call 54; (with_reducible refine HAL.out.mono ?_); rintro e w5 ⟨rfl, hb5⟩)
      go_roundw
      case rel => exact ⟨k + 1, by omega, by go_num, hb.trans ((((Below.refl wr.heap.size wr).drew).trans hb5).mono hb.size)⟩
      case measure => simp [intOf]; omega
    · go_wp2_with fail
      go_ret
      exact ⟨rfl, hb⟩

theorem alikeMats_yes (x y : Value) (r c : Int) (n : Nat) (X Y : Nat → Raw) (w : World) (hx : RdL w x n X) (hy : RdL w y n Y) (h : ∀ i, i < n → RawEq (X i) (Y i)) :
    Calls Try.prog 21 #[.agg #[.int .i64 r, .int .i64 c, x], .agg #[.int .i64 r, .int .i64 c, y]] w fun e w' => e = .returned (.bool true) ∧ Below w.heap.size w w' := by
  obtain ⟨a, cap, rfl, -⟩ := hx.slice
  obtain ⟨b, cap', rfl, -⟩ := hy.slice
  have z1 := three_cells w (.int .i64 r) (.int .i64 c) (.slice a n cap) 34
  have hb1 : Below w.heap.size w (w.alloc (.cells #[.int .i64 r, .int .i64 c, .slice a n cap] 34)) := (Below.refl _ _).alloc (Nat.le_refl _) _
  have hs1 : (w.alloc (.cells #[.int .i64 r, .int .i64 c, .slice a n cap] 34)).heap.size = w.heap.size + 1 := by simp
  have z2 := three_cells (w.alloc (.cells #[.int .i64 r, .int .i64 c, .slice a n cap] 34)) (.int .i64 r) (.int .i64 c) (.slice b n cap') 34
  rw [hs1] at z2
  have hb2 : Below (w.heap.size + 1) (w.alloc (.cells #[.int .i64 r, .int .i64 c, .slice a n cap] 34)) ((w.alloc (.cells #[.int .i64 r, .int .i64 c, .slice a n cap] 34)).alloc (.cells #[.int .i64 r, .int .i64 c, .slice b n cap'] 34)) := (Below.refl _ _).alloc (by rw [hs1]; omega) _
  rw [← hs1] at hb2
  have hb := hb1.trans (hb2.mono (by omega))
  have hal := alikeRows_yes _ _ n X Y _ (hx.below hb) (hy.below hb) h
  have x0 := cell_stays hb2 (z1 0 _ rfl).1
  have x1 := cell_stays hb2 (z1 1 _ rfl).1
  have x2 := cell_stays hb2 (z1 2 _ rfl).1
  have y0 := (z2 0 _ rfl).1
  have y1 := (z2 1 _ rfl).1
  have y2 := (z2 2 _ rfl).1
  have HAL := Lib.hid hal
  have HB := Lib.hid hb
  clear hx hy h hal hb hb1 hb2 z1 z2 hs1
  go_enter Try.func21, Try.ntmps21
  go_wp2_with fail
  refine HAL.out.mono ?_
  rintro e w4 ⟨rfl, hb4⟩
  have x0 := cell_stays hb4 x0
  have x1 := cell_stays hb4 x1
  have y0 := cell_stays hb4 y0
  have y1 := cell_stays hb4 y1
  have HB4 := Lib.hid (HB.out.trans (hb4.mono HB.out.size))
  clear hb4
  go_wp2_with fail
  go_ret
  exact ⟨by simp, HB4.out⟩

end Go.Proofs.Ytdlpemmoobbgnaa

namespace Go.Proofs.Ytdlpemmoobbgnaa
open Go.RowKit

theorem of_any (n : Int) (w : World) :
    Calls Try.prog 37 #[.int .u64 n] w fun e w' => ∃ b, e = .returned (.agg #[.bool false, .slice (some ⟨b, 0, none⟩) 1 1]) ∧ w'.cell? ⟨b, 0, none⟩ = some (.int .u64 n) ∧ Below w.heap.size w w' := by
  go_enter Try.func37, Try.ntmps37
  go_wp2_with fail
  refine bodyPost_ret (v := .agg #[.bool false, .slice (some ⟨w.heap.size + 1, 0, none⟩) 1 1]) (by simp [results, Try.results37, go_sem]) rfl ⟨w.heap.size + 1, rfl, ?_, ?_⟩
  · go_simp
  · exact ((Below.refl _ _).alloc (Nat.le_refl _) _).alloc (by simp) _

theorem one_int (w2 : World) (b : Nat) (n : Int) (t : TypeId) (h0 : 0 ≤ n) (h1 : n ≤ 18446744073709551615) (hc : w2.cell? ⟨b, 0, none⟩ = some (.int .u64 n)) :
    RdL (w2.alloc (.cells #[.bool false, .slice (some ⟨b, 0, none⟩) 1 1] t)) (.slice (some ⟨w2.heap.size, 0, none⟩) 1 1) 1 (fun _ => ⟨false, 1, fun _ => n⟩) := by
  refine ⟨_, 1, rfl, Nat.le_refl _, by omega, fun _ => ⟨w2.heap.size, 0, rfl, fun i hi => ?_⟩⟩
  obtain rfl : i = 0 := by omega
  have hn := heap_alloc_new w2 (.cells #[.bool false, .slice (some ⟨b, 0, none⟩) 1 1] t)
  have hb : Below w2.heap.size w2 (w2.alloc (.cells #[.bool false, .slice (some ⟨b, 0, none⟩) 1 1] t)) := (Below.refl _ _).alloc (Nat.le_refl _) _
  refine ⟨.slice (some ⟨b, 0, none⟩) 1 1, ?_, ?_, ⟨_, 1, rfl, Nat.le_refl _, (by decide : (1 : Nat) ≤ 17592186044416), fun _ => ⟨b, 0, rfl, fun j hj => ?_⟩⟩, fun _ _ => ⟨h0, h1⟩⟩
  · rw [cell_of_row _ _ _ _ _ _ hn]; rfl
  · rw [cell_of_row _ _ _ _ _ _ hn]; rfl
  · have hj : j < 1 := hj
    obtain rfl : j = 0 := by omega
    exact cell_stays hb hc

def nine : Nat → Raw := fun _ => ⟨false, 1, fun _ => 9⟩

theorem wake1 : belowU 10 = 7 := by decide +kernel
theorem wake2 : belowE 10 = 0 := by decide +kernel
theorem wake3 : detE 1 1 1 7 = 0 := by decide +kernel
theorem wake4 : detV 1 1 1 nine 7 = 2 := by decide +kernel

set_option maxHeartbeats 400000 in
theorem wakes_any (w : World) : Calls Try.prog 11 #[] w fun e w' => e = .returned (.bool true) ∧ Below w.heap.size w w' := by
  go_enter Try.func11, Try.ntmps11
  go_wp2_with (first | (go_at_call 13; refine (Below_any 10 (by omega) _).mono ?_; rw [wake1, wake2]; rintro e w1 ⟨rfl, rfl⟩) | (go_at_call 37; refine (of_any 9 _).mono ?_; rintro e w2 ⟨b, rfl, hc2, hb2⟩))
  have hr := one_int w2 b 9 56 (by omega) (by omega) hc2
  refine (Det_any 1 1 7 (by omega) _ 1 nine _ hr).mono ?_
  rw [wake3, wake4]
  rintro e w3 ⟨rfl, hb3⟩
  go_wp2_with fail
  go_ret
  exact ⟨rfl, (hb2.trans ((Below.refl _ _).alloc hb2.size _)).trans (hb3.mono (by have := hb2.size; simp; omega))⟩
end Go.Proofs.Ytdlpemmoobbgnaa
