/- The walk of ModpRefuses. -/
import Derived.Test.YtdlpemmoobbgnaaGH
import Derived.Test.YtdlpemmoobbgnaaGF
set_option linter.unusedVariables false
set_option linter.unusedSimpArgs false
namespace Go.Proofs.Ytdlpemmoobbgnaa
open Go.RowKit

theorem resid_eq (r : Raw) {p : Int} (hp : 0 < p) : resid r p = r.val % p := by
  unfold resid Raw.val
  have h0 := Int.emod_nonneg r.mag (show p ≠ 0 by omega)
  have h1 := Int.emod_lt_of_pos r.mag hp
  cases hn : r.neg with
  | false => simp
  | true =>
    simp only [true_and, if_true]
    have e : -r.mag = -(r.mag % p) + p * (-(r.mag / p)) := by
      have := Int.emod_add_mul_ediv r.mag p
      rw [Int.mul_neg]; omega
    rw [e, Int.add_mul_emod_self_left]
    split
    · rw [show -(r.mag % p) = (p - r.mag % p) + p * (-1) by omega, Int.add_mul_emod_self_left]
      exact (Int.emod_eq_of_lt (by omega) (by omega)).symm
    · rw [show r.mag % p = 0 by omega]; simp

theorem small_val {y : Int} (h : 0 ≤ y) : (small y).val = y := by
  have e : (small y).val = natFrom (fun _ => y) 0 (w1 y) := rfl
  rw [e]; unfold w1
  by_cases hy : y = 0
  · rw [if_pos hy, hy]; rfl
  · rw [if_neg hy]; simp [natFrom]
theorem w1_le (y : Int) : w1 y ≤ 1 := by unfold w1; split <;> omega

theorem rdl_at {w : World} {a : Option Addr} {n cap : Nat} {x : Nat → Raw} (h : RdL w (.slice a n cap) n x) {k : Nat} (hk : k < n) :
    ∃ b o, a = some ⟨b, o, none⟩ ∧ ∃ m, w.cell? ⟨b, o + k * 2, none⟩ = some (.bool (x k).neg) ∧ w.cell? ⟨b, o + k * 2 + 1, none⟩ = some m ∧ RdW w m (x k).n (x k).f := by
  obtain ⟨a', cap', e, -, -, h⟩ := h
  simp only [Value.slice.injEq, true_and] at e
  obtain ⟨rfl, rfl⟩ := e
  obtain ⟨b, o, rfl, hc⟩ := h (by omega)
  exact ⟨b, o, rfl, hc k hk⟩

/-- a list of one integer, just made -/
theorem rdl_one {w : World} {b : Bool} {m : Value} {z : Int} {t : TypeId} (h : RdZ w (.agg #[.bool b, m]) z) :
    ∃ r : Raw, RdL (w.alloc (.cells #[.bool b, m] t)) (.slice (some ⟨w.heap.size, 0, none⟩) 1 1) 1 (fun _ => r) ∧ r.val = z ∧ r.n ≤ 274877906944 := by
  obtain ⟨r, ⟨m', e, hr⟩, h1, h2⟩ := h
  simp only [Value.agg.injEq, Array.mk.injEq, List.cons.injEq, Value.bool.injEq, and_true] at e
  obtain ⟨rfl, rfl⟩ := e
  have k := cells2 w (.bool r.neg) m t
  have hb : Below w.heap.size w (w.alloc (.cells #[.bool r.neg, m] t)) := (Below.refl _ _).alloc (Nat.le_refl _) _
  refine ⟨r, ⟨_, 1, rfl, Nat.le_refl _, by omega, fun _ => ⟨w.heap.size, 0, rfl, fun i hi => ?_⟩⟩, h1, h2⟩
  obtain rfl : i = 0 := by omega
  exact ⟨m, (k 0 _ rfl).1, (k 1 _ rfl).1, hr.below hb⟩

theorem fin_alloc {w8 wr : World} {base : Nat} {bd : Bool} {ad : Option Addr} {nd cd : Nat} {dz : Int} {S : Nat} (t : TypeId) (hz : FrZ w8 base (.agg #[.bool bd, .slice ad nd cd]) dz) (hzb : ZB S dz) (hS : S ≤ 274877906944) (hb : Below wr.heap.size wr w8) :
    (w8.alloc (.cells #[.bool bd, .slice ad nd cd] t)).cell? ⟨w8.heap.size, 0, none⟩ = some (.bool bd) ∧ (w8.alloc (.cells #[.bool bd, .slice ad nd cd] t)).cell? ⟨w8.heap.size, 1, none⟩ = some (.slice ad nd cd) ∧ RdZ (w8.alloc (.cells #[.bool bd, .slice ad nd cd] t)) (.agg #[.bool bd, .slice ad nd cd]) dz ∧ Below wr.heap.size wr (w8.alloc (.cells #[.bool bd, .slice ad nd cd] t)) := by
  have k := cells2 w8 (.bool bd) (.slice ad nd cd) t
  exact ⟨(k 0 _ rfl).1, (k 1 _ rfl).1, (hz.rd hzb hS).below ((Below.refl _ _).alloc (Nat.le_refl _) _), hb.alloc hb.size _⟩
theorem fin_store {w7 wr : World} {t : TypeId} {bd : Bool} {ad : Option Addr} {nd cd : Nat} {dz : Int} {S : Nat} (hz : FrZ w7 (wr.alloc (.cells #[.bool false, .slice none 0 0] t)).drew.heap.size (.agg #[.bool bd, .slice ad nd cd]) dz) (hzb : ZB S dz) (hS : S ≤ 274877906944) (hb : Below wr.heap.size wr w7) (j0 : w7.cell? ⟨wr.heap.size, 0, none⟩ = some (.bool false)) (j1 : w7.cell? ⟨wr.heap.size, 1, none⟩ = some (.slice none 0 0)) :
    ((w7.setCell ⟨wr.heap.size, 0, none⟩ (.bool bd)).setCell ⟨wr.heap.size, 1, none⟩ (.slice ad nd cd)).cell? ⟨wr.heap.size, 0, none⟩ = some (.bool bd) ∧ ((w7.setCell ⟨wr.heap.size, 0, none⟩ (.bool bd)).setCell ⟨wr.heap.size, 1, none⟩ (.slice ad nd cd)).cell? ⟨wr.heap.size, 1, none⟩ = some (.slice ad nd cd) ∧ RdZ ((w7.setCell ⟨wr.heap.size, 0, none⟩ (.bool bd)).setCell ⟨wr.heap.size, 1, none⟩ (.slice ad nd cd)) (.agg #[.bool bd, .slice ad nd cd]) dz ∧ Below wr.heap.size wr ((w7.setCell ⟨wr.heap.size, 0, none⟩ (.bool bd)).setCell ⟨wr.heap.size, 1, none⟩ (.slice ad nd cd)) := by
  obtain ⟨g0, g1⟩ := stored2_own (.bool bd) (.slice ad nd cd) j0 j1
  refine ⟨g0, g1, (hz.stored' (b := wr.heap.size) (by simp) _ _).rd hzb hS, (hb.setCell (by simp) _).setCell (by simp) _⟩
theorem zero_one {wx : World} {bd : Bool} {ad : Option Addr} {nd cd : Nat} {dz p : Int} (h : RdZ wx (.agg #[.bool bd, .slice ad nd cd]) dz) (h0 : 0 < p) (h1 : p ≤ 18446744073709551615) (hz : dz % p = 0) (t : TypeId) (W : World) (hW : Below wx.heap.size wx W) :
    Calls Try.prog 24 #[.slice (some ⟨W.heap.size, 0, none⟩) 1 1, .int .u64 p] (W.alloc (.cells #[.bool bd, .slice ad nd cd] t)) fun e w' => e = .returned (.bool true) ∧ Below wx.heap.size wx w' := by
  obtain ⟨r, h2, h3, h4⟩ := rdl_one (t := t) (h.below hW)
  refine (zero_yes _ 1 _ p h0 h1 _ h2 (fun i _ => ⟨h4, by rw [h3]; exact hz⟩)).mono ?_
  rintro e w' ⟨rfl, hb⟩
  have q := hW.alloc hW.size (.cells #[.bool bd, .slice ad nd cd] t)
  exact ⟨rfl, q.trans (hb.mono q.size)⟩

set_option maxHeartbeats 4000000 in
set_option maxRecDepth 100000 in
theorem refu_any (r c : Int) (p : Int) (hp : 0 ≤ p) (s : Value) (n : Nat) (x : Nat → Raw) (w : World) (hr : RdL w s n x) (hsz : ∀ i, i < n → (x i).n ≤ 1048576) :
    Calls Try.prog 8 #[.agg #[.int .i64 r, .int .i64 c, s], .int .u64 p] w fun e w' => e = .returned (.bool true) ∧ Below w.heap.size w w' := by
  obtain ⟨a, cap, rfl, hn⟩ := hr.slice
  have hsd := fun W => sound_any r c a n cap hn W
  have hpr := fun W => prime_any p hp W
  have HR := Lib.hid hr
  have z := three_cells w (.int .i64 r) (.int .i64 c) (.slice a n cap) 34
  have hb0 : Below w.heap.size w (w.alloc (.cells #[.int .i64 r, .int .i64 c, .slice a n cap] 34)) := (Below.refl _ _).alloc (Nat.le_refl _) _
  have x0 := (z 0 _ rfl).1
  have x1 := (z 1 _ rfl).1
  have x2 := (z 2 _ rfl).1
  have HB0 := Lib.hid hb0
  have HSZ := Lib.hid hsz
  clear hr hb0 z hsz
  by_cases hgood : soundB r c n = true ∧ primeB p = true
  · have ho : openE r c n p true = 0 := by unfold openE; rw [if_pos hgood.1, if_pos rfl, if_pos hgood.2]
    rw [hgood.1] at hsd
    rw [hgood.2] at hpr
    obtain ⟨R, C, rfl, rfl, hR, hC, hN, p0, p1, -, -⟩ := openE_ok ho
    have hred : ∀ W, RdL W (.slice a n cap) n x → Calls Try.prog 35 #[.agg #[.int .i64 R, .int .i64 C, .slice a n cap], .int .u64 p] W fun e w' => ∃ lb M,
        e = .returned (.tuple #[.agg #[.int .i64 R, .int .i64 C, .slice (some ⟨lb, 0, none⟩) n n], .int .i64 0]) ∧ LS 56 22 w' W.heap.size W.heap.size lb n n (fun q => small (resid (x q) p)) M ∧ Below W.heap.size W w' := fun W h => by
      refine (Reduce_any R C p hp (.slice a n cap) n x W h).mono ?_
      rw [ho]
      rintro e w' ⟨v, rfl, hans, hb⟩
      obtain ⟨lb, M, rfl, hls⟩ := hans.1 rfl
      rw [Int.toNat_natCast, Int.toNat_natCast, ← hN] at hls
      refine ⟨lb, M, by rw [Int.toNat_natCast, Int.toNat_natCast, ← hN], hls.congr fun q _ => ?_, hb⟩
      show small (resid (x (q / C * C + q % C)) p) = _
      rw [show q / C * C + q % C = q by rw [Nat.mul_comm]; exact Nat.div_add_mod q C]
    have HRED := Lib.hid hred
    have HSD := Lib.hid hsd
    have HPR := Lib.hid hpr
    have HN := Lib.hid hN
    have hn4 : n ≤ 4096 := by rw [hN]; exact Nat.mul_le_mul hR hC
    clear ho hgood hred hsd hpr hN
    go_enter Try.func8, Try.ntmps8
    go_wp2_with (first
      | (go_at_call 11; refine (wakes_any _).mono ?_; rintro e w1 ⟨rfl, hb1⟩; have HB1 := Lib.hid (HB0.out.trans (hb1.mono HB0.out.size)); have x0 := cell_stays hb1 x0; have x1 := cell_stays hb1 x1; have x2 := cell_stays hb1 x2; clear hb1)
      | (go_at_call 15; refine (HSD.out _).mono ?_; rintro e w2 ⟨rfl, hb2⟩; have HB2 := Lib.hid (HB1.out.trans (hb2.mono HB1.out.size)); have x0 := cell_stays hb2 x0; have x1 := cell_stays hb2 x1; have x2 := cell_stays hb2 x2; clear hb2)
      | (go_at_call 14; refine (HPR.out _).mono ?_; rintro e w3 ⟨rfl, rfl⟩))
    refine (HRED.out _ (HR.out.below HB2.out)).mono ?_
    rintro e w4 ⟨lb, M, rfl, hls, hb4⟩
    have hbox : Below w4.heap.size w4 (w4.alloc (.cells #[.int .i64 R, .int .i64 C, .slice (some ⟨lb, 0, none⟩) n n] 34)) := (Below.refl _ _).alloc (Nat.le_refl _) _
    have hsm : ∀ q, q < n → SmallB p (small (resid (x q) p)) := fun q _ => SmallB.small (resid_bd _ p (by omega)).1 (resid_bd _ p (by omega)).2
    have hrd4 := hls.read (by omega) (fun q hq => by
      intro i _
      have := resid_bd (x q) p (by omega)
      exact ⟨this.1, by show resid _ p ≤ _; omega⟩)
    have hrd5 := hrd4.below hbox
    have hle := least_yes _ n _ p _ hrd5 hsm
    have hz5 := three_cells w4 (.int .i64 R) (.int .i64 C) (.slice (some ⟨lb, 0, none⟩) n n) 34
    have hbw := (HB2.out.trans (hb4.mono HB2.out.size)).trans (hbox.mono (Nat.le_trans HB2.out.size hb4.size))
    have hb45 := hb4.trans (hbox.mono hb4.size)
    have x0 := cell_stays hb45 x0
    have x1 := cell_stays hb45 x1
    have x2 := cell_stays hb45 x2
    have y0 := (hz5 0 _ rfl).1
    have y1 := (hz5 1 _ rfl).1
    have y2 := (hz5 2 _ rfl).1
    have HLE := Lib.hid hle
    have HRD5 := Lib.hid hrd5
    have HBW := Lib.hid hbw
    clear hls hbox hsm hrd4 hrd5 hle hz5 hbw hb45 hb4
    go_wp2_with (go_at_call 22; (with_reducible refine HLE.out.mono ?_); rintro e w6 ⟨rfl, rfl⟩)
    obtain ⟨w5, hw5⟩ : ∃ w5, w5 = w4.alloc (.cells #[.int .i64 R, .int .i64 C, .slice (some ⟨lb, 0, none⟩) n n] 34) := ⟨_, rfl⟩
    have hmb : w4.heap.size < w5.heap.size := by rw [hw5]; simp
    rw [← hw5] at HRD5 HBW x2 y2 ⊢
    clear hw5 HLE x0 x1 y0 y1
    go_loopw [7] (fun kv wr => ∃ k : Nat, k ≤ n ∧ kv = .int .i64 k ∧ Below w5.heap.size w5 wr) (fun kv _ => n - (intOf kv).toNat)
    case atStart => exact ⟨0, by omega, rfl, Below.refl _ _⟩
    case round =>
      obtain ⟨k, k1, rfl, hb⟩ := hrel
      have x2 := cell_stays hb x2
      have y2 := cell_stays hb y2
      have hbw := HBW.out.trans (hb.mono HBW.out.size)
      by_cases hk : k < n
      · obtain ⟨b1, o1, rfl, m1, c1, c2, c3⟩ := rdl_at (HR.out.below hbw) hk
        obtain ⟨b2, o2, e3, m2, d1, d2, d3⟩ := rdl_at (HRD5.out.below hb) hk
        injection e3 with e3
        injection e3 with e5 e6 _
        subst e5; subst e6
        rw [Nat.zero_add] at d1 d2
        change wr.cell? ⟨lb, k * 2, none⟩ = some (.bool false) at d1
        have hr1 : RdZ wr (.agg #[.bool (x k).neg, m1]) (x k).val := ⟨x k, ⟨m1, rfl, c3⟩, rfl, by have := HSZ.out k hk; omega⟩
        have hrs := resid_bd (x k) p (by omega)
        have hr2 : RdZ wr (.agg #[.bool false, m2]) (resid (x k) p) := ⟨small (resid (x k) p), ⟨m2, rfl, d3⟩, small_val hrs.1, Nat.le_trans (w1_le (resid (x k) p)) (by omega)⟩
        have hzb : ZB ((x k).n + 1 + 1) ((x k).val - resid (x k) p) := by
          have h1 : ZB (x k).n (x k).val := RdI.zb ⟨m1, rfl, c3⟩
          have h2 : ZB 1 (-(resid (x k) p)) := by unfold ZB; rw [Int.pow_succ, Int.pow_zero]; omega
          rw [Int.sub_eq_add_neg]; exact h1.add h2
        have hS : (x k).n + 1 + 1 ≤ 274877906944 := by have := HSZ.out k hk; omega
        have hzm : ((x k).val - resid (x k) p) % p = 0 := by
          rw [resid_eq _ (by omega)]
          exact Int.emod_eq_emod_iff_emod_sub_eq_zero.1 (Int.emod_emod_of_dvd _ (Int.dvd_refl p)).symm
        obtain ⟨am, cm, rfl, -⟩ := c3.1
        obtain ⟨al, cl, rfl, -⟩ := d3.1
        have f1 : b1 < wr.heap.size := World.block_lt_of_cell? wr _ c1
        have f2 : lb < wr.heap.size := World.block_lt_of_cell? wr _ d1
        have f3 : w.heap.size < wr.heap.size := World.block_lt_of_cell? wr _ x2
        have f4 : w4.heap.size < wr.heap.size := World.block_lt_of_cell? wr _ y2
        have cm1 : ∀ W, Below wr.heap.size wr W → Calls Try.prog 32 #[.agg #[.bool (x k).neg, .slice am (x k).n cm], .agg #[.bool false, .slice al (small (resid (x k) p)).n cl]] W fun e w' => ∃ bd ad nd cd, e = .returned (.agg #[.bool bd, .slice ad nd cd]) ∧
            FrZ w' W.heap.size (.agg #[.bool bd, .slice ad nd cd]) ((x k).val - resid (x k) p) ∧ Below wr.heap.size wr w' ∧ Below W.heap.size W w' := fun W hW => by
          refine (Sub05_any _ _ _ _ W (hr1.below hW) (hr2.below hW)).mono ?_
          rintro e w' ⟨v, rfl, hz, h3⟩
          obtain ⟨m, n', f, rfl, h1, h2⟩ := hz
          obtain ⟨a', c', rfl⟩ := h1.slice
          exact ⟨_, a', n', c', rfl, ⟨_, n', f, rfl, h1, h2⟩, hW.trans (h3.mono hW.size), h3⟩
        have CM1 := Lib.hid cm1
        have HZB := Lib.hid hzb
        have HZM := Lib.hid hzm
        have HBW2 := Lib.hid hbw
        have HB := Lib.hid hb
        have hws := w1_le (resid (x k) p)
        clear c3 d3 hr1 hr2 hzb hzm cm1 hbw hrs
        generalize (x k).val - resid (x k) p = dz at *
        generalize (x k).neg = ng at *
        generalize (small (resid (x k) p)).n = sn at *
        generalize (x k).n = nn at *
        go_upto_region 11 with fail
        go_cut [8] (fun v8 wx => ∃ (db : Nat) (bd : Bool) (ad : Option Addr) (nd cd : Nat), v8 = .pointer (some ⟨db, 0, none⟩) ∧ wx.cell? ⟨db, 0, none⟩ = some (.bool bd) ∧ wx.cell? ⟨db, 1, none⟩ = some (.slice ad nd cd) ∧ RdZ wx (.agg #[.bool bd, .slice ad nd cd]) dz ∧ Below wr.heap.size wr wx)
        case first =>
          go_region_with ((first
            | (go_at_call 32; (with_reducible refine (CM1.out wr.drew ?_).mono ?_); exact (Below.refl _ _).drew; rintro e w8 ⟨bd, ad, nd, cd, rfl, hz8, hb8, hc8⟩)
            | (go_at_call 32; (with_reducible refine (CM1.out (wr.alloc (.cells #[.bool false, .slice none 0 0] 56)).drew ?_).mono ?_); exact ((Below.refl _ _).alloc (Nat.le_refl _) _).drew; rintro e w7 ⟨bd, ad, nd, cd, rfl, hz8, hb8, hc8⟩; obtain ⟨j0, j1, j2, j3⟩ := box_kept' hc8)))
          all_goals
            go_wp2_with fail
            go_meet
            first
              | exact ⟨_, _, _, _, _, rfl, fin_alloc _ hz8 HZB.out hS hb8⟩
              | exact ⟨_, _, _, _, _, rfl, fin_store hz8 HZB.out hS hb8 j0 j1⟩
        case rest =>
          clear CM1 HZB d1 d2 c1 c2 HRED HPR HSD HSZ
          obtain ⟨db, bd, ad, nd, cd, rfl, e0, e1, hrz, hbx⟩ := hcut
          have HZ1 := Lib.hid (zero_one hrz (by omega) (by omega) HZM.out 56)
          have HBX := Lib.hid (HB.out.trans (hbx.mono HB.out.size))
          clear hrz hb
          go_wp2_with (go_at_call 24; (with_reducible first | refine (HZ1.out _ (Below.refl _ _)).mono ?_ | refine (HZ1.out _ (Below.refl _ _).drew).mono ?_); rintro e w9 ⟨rfl, hb9⟩; have HB9 := Lib.hid (HB.out.trans ((hbx.trans (hb9.mono hbx.size)).mono HB.out.size)))
          go_roundw
          case rel => exact ⟨k + 1, by omega, by go_num, HB9.out⟩
          case measure => simp [intOf]; omega
      · obtain rfl : k = n := by omega
        go_wp2_with fail
        go_ret
        exact ⟨rfl, hbw⟩
  · have hrf := fun W (h : RdL W (.slice a n cap) n x) => refuses_yes r c p hp (.slice a n cap) n x W h hgood
    have HRF := Lib.hid hrf
    have hprE : soundB r c n = true → primeB p = false := fun e => by simpa using fun e2 => hgood ⟨e, e2⟩
    have HPE := Lib.hid hprE
    clear hrf hprE hgood
    generalize soundB r c n = sd at hsd HPE
    generalize primeB p = pr at hpr HPE
    have HSD := Lib.hid hsd
    have HPR := Lib.hid hpr
    clear hsd hpr
    cases sd with
    | false =>
      clear HPE
      go_enter Try.func8, Try.ntmps8
      go_wp2_with (first
        | (go_at_call 11; refine (wakes_any _).mono ?_; rintro e w1 ⟨rfl, hb1⟩; have HB1 := Lib.hid (HB0.out.trans (hb1.mono HB0.out.size)); have x0 := cell_stays hb1 x0; have x1 := cell_stays hb1 x1; have x2 := cell_stays hb1 x2; clear hb1)
        | (go_at_call 15; refine (HSD.out _).mono ?_; rintro e w2 ⟨rfl, hb2⟩; have HB2 := Lib.hid (HB1.out.trans (hb2.mono HB1.out.size)); have x0 := cell_stays hb2 x0; have x1 := cell_stays hb2 x1; have x2 := cell_stays hb2 x2; clear hb2)
        | (go_at_call 34; refine (HRF.out _ (HR.out.below HB2.out)).mono ?_; rintro e w3 ⟨rfl, hb3⟩))
      go_ret
      exact ⟨rfl, HB2.out.trans (hb3.mono HB2.out.size)⟩
    | true =>
      obtain rfl : pr = false := HPE.out rfl
      clear HPE
      go_enter Try.func8, Try.ntmps8
      go_wp2_with (first
        | (go_at_call 11; refine (wakes_any _).mono ?_; rintro e w1 ⟨rfl, hb1⟩; have HB1 := Lib.hid (HB0.out.trans (hb1.mono HB0.out.size)); have x0 := cell_stays hb1 x0; have x1 := cell_stays hb1 x1; have x2 := cell_stays hb1 x2; clear hb1)
        | (go_at_call 15; refine (HSD.out _).mono ?_; rintro e w2 ⟨rfl, hb2⟩; have HB2 := Lib.hid (HB1.out.trans (hb2.mono HB1.out.size)); have x0 := cell_stays hb2 x0; have x1 := cell_stays hb2 x1; have x2 := cell_stays hb2 x2; clear hb2)
        | (go_at_call 14; refine (HPR.out _).mono ?_; rintro e w3 ⟨rfl, rfl⟩)
        | (go_at_call 34; refine (HRF.out _ (HR.out.below HB2.out)).mono ?_; rintro e w3 ⟨rfl, hb3⟩))
      go_ret
      exact ⟨rfl, HB2.out.trans (hb3.mono HB2.out.size)⟩

end Go.Proofs.Ytdlpemmoobbgnaa
