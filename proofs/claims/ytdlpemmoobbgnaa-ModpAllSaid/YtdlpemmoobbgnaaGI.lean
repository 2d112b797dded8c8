/- The walk of ModpRefuses. Plain: equal spans have equal echelon forms; what the kernel's rows are; the rank of a transpose. Matrices that read as integers: the answers of Mul, Echelon, Kernel and Det where nothing is refused, in one form. What the bound on the bulk gives (turned out of the guide's small lemmas), and an argument that is a matrix, opened. The row's last step where 'Below' alone is known of what the call leaves (turned out of the guide's small lemmas). Plain: what stands behind ModpSame: an invertible matrix on the left leaves the echelon form; the kernel's rows times it lie in the other's kernel. -/
import Derived.Deep.RegionHeld3
import Derived.Test.YtdlpemmoobbgnaaGH
import Derived.Test.YtdlpemmoobbgnaaGF
import Derived.Test.YtdlpemmoobbgnaaGG
import Derived.Test.YtdlpemmoobbgnaaRows
import Derived.Test.YtdlpemmoobbgnaaGA
import Derived.ProofKit
import Derived.OpenShut
import Derived.Deep.Slices
import Derived.Lib.SmallJoins
import Derived.Below
import Derived.ChangeSame
set_option linter.unusedVariables false
set_option linter.unusedSimpArgs false
namespace Go.Proofs.Ytdlpemmoobbgnaa
open Go.RowKit

theorem resid_eq (r : Raw) {p : Int} (hp : 0 < p) : resid r p = r.val % p := by
  unfold resid Raw.val
  have h0 := Int.emod_nonneg r.mag (show p ≠ 0 by omega)
  have h1 := Int.emod_lt_of_pos r.mag hp
  cases hn : r.neg with
  | false => simp
  | true =>
    simp only [true_and, if_true]
    have e : -r.mag = -(r.mag % p) + p * (-(r.mag / p)) := by
      have := Int.emod_add_mul_ediv r.mag p
      rw [Int.mul_neg]; omega
    rw [e, Int.add_mul_emod_self_left]
    split
    · rw [show -(r.mag % p) = (p - r.mag % p) + p * (-1) by omega, Int.add_mul_emod_self_left]
      exact (Int.emod_eq_of_lt (by omega) (by omega)).symm
    · rw [show r.mag % p = 0 by omega]; simp

theorem small_val {y : Int} (h : 0 ≤ y) : (small y).val = y := by
  have e : (small y).val = natFrom (fun _ => y) 0 (w1 y) := rfl
  rw [e]; unfold w1
  by_cases hy : y = 0
  · rw [if_pos hy, hy]; rfl
  · rw [if_neg hy]; simp [natFrom]
theorem w1_le (y : Int) : w1 y ≤ 1 := by unfold w1; split <;> omega

theorem rdl_at {w : World} {a : Option Addr} {n cap : Nat} {x : Nat → Raw} (h : RdL w (.slice a n cap) n x) {k : Nat} (hk : k < n) :
    ∃ b o, a = some ⟨b, o, none⟩ ∧ ∃ m, w.cell? ⟨b, o + k * 2, none⟩ = some (.bool (x k).neg) ∧ w.cell? ⟨b, o + k * 2 + 1, none⟩ = some m ∧ RdW w m (x k).n (x k).f := by
  obtain ⟨a', cap', e, -, -, h⟩ := h
  simp only [Value.slice.injEq, true_and] at e
  obtain ⟨rfl, rfl⟩ := e
  obtain ⟨b, o, rfl, hc⟩ := h (by omega)
  exact ⟨b, o, rfl, hc k hk⟩

/-- a list of one integer, just made -/
theorem rdl_one {w : World} {b : Bool} {m : Value} {z : Int} {t : TypeId} (h : RdZ w (.agg #[.bool b, m]) z) :
    ∃ r : Raw, RdL (w.alloc (.cells #[.bool b, m] t)) (.slice (some ⟨w.heap.size, 0, none⟩) 1 1) 1 (fun _ => r) ∧ r.val = z ∧ r.n ≤ 274877906944 := by
  obtain ⟨r, ⟨m', e, hr⟩, h1, h2⟩ := h
  simp only [Value.agg.injEq, Array.mk.injEq, List.cons.injEq, Value.bool.injEq, and_true] at e
  obtain ⟨rfl, rfl⟩ := e
  have k := cells2 w (.bool r.neg) m t
  have hb : Below w.heap.size w (w.alloc (.cells #[.bool r.neg, m] t)) := (Below.refl _ _).alloc (Nat.le_refl _) _
  refine ⟨r, ⟨_, 1, rfl, Nat.le_refl _, by omega, fun _ => ⟨w.heap.size, 0, rfl, fun i hi => ?_⟩⟩, h1, h2⟩
  obtain rfl : i = 0 := by omega
  exact ⟨m, (k 0 _ rfl).1, (k 1 _ rfl).1, hr.below hb⟩

theorem fin_alloc {w8 wr : World} {base : Nat} {bd : Bool} {ad : Option Addr} {nd cd : Nat} {dz : Int} {S : Nat} (t : TypeId) (hz : FrZ w8 base (.agg #[.bool bd, .slice ad nd cd]) dz) (hzb : ZB S dz) (hS : S ≤ 274877906944) (hb : Below wr.heap.size wr w8) :
    (w8.alloc (.cells #[.bool bd, .slice ad nd cd] t)).cell? ⟨w8.heap.size, 0, none⟩ = some (.bool bd) ∧ (w8.alloc (.cells #[.bool bd, .slice ad nd cd] t)).cell? ⟨w8.heap.size, 1, none⟩ = some (.slice ad nd cd) ∧ RdZ (w8.alloc (.cells #[.bool bd, .slice ad nd cd] t)) (.agg #[.bool bd, .slice ad nd cd]) dz ∧ Below wr.heap.size wr (w8.alloc (.cells #[.bool bd, .slice ad nd cd] t)) := by
  have k := cells2 w8 (.bool bd) (.slice ad nd cd) t
  exact ⟨(k 0 _ rfl).1, (k 1 _ rfl).1, (hz.rd hzb hS).below ((Below.refl _ _).alloc (Nat.le_refl _) _), hb.alloc hb.size _⟩
theorem fin_store {w7 wr : World} {t : TypeId} {bd : Bool} {ad : Option Addr} {nd cd : Nat} {dz : Int} {S : Nat} (hz : FrZ w7 (wr.alloc (.cells #[.bool false, .slice none 0 0] t)).drew.heap.size (.agg #[.bool bd, .slice ad nd cd]) dz) (hzb : ZB S dz) (hS : S ≤ 274877906944) (hb : Below wr.heap.size wr w7) (j0 : w7.cell? ⟨wr.heap.size, 0, none⟩ = some (.bool false)) (j1 : w7.cell? ⟨wr.heap.size, 1, none⟩ = some (.slice none 0 0)) :
    ((w7.setCell ⟨wr.heap.size, 0, none⟩ (.bool bd)).setCell ⟨wr.heap.size, 1, none⟩ (.slice ad nd cd)).cell? ⟨wr.heap.size, 0, none⟩ = some (.bool bd) ∧ ((w7.setCell ⟨wr.heap.size, 0, none⟩ (.bool bd)).setCell ⟨wr.heap.size, 1, none⟩ (.slice ad nd cd)).cell? ⟨wr.heap.size, 1, none⟩ = some (.slice ad nd cd) ∧ RdZ ((w7.setCell ⟨wr.heap.size, 0, none⟩ (.bool bd)).setCell ⟨wr.heap.size, 1, none⟩ (.slice ad nd cd)) (.agg #[.bool bd, .slice ad nd cd]) dz ∧ Below wr.heap.size wr ((w7.setCell ⟨wr.heap.size, 0, none⟩ (.bool bd)).setCell ⟨wr.heap.size, 1, none⟩ (.slice ad nd cd)) := by
  obtain ⟨g0, g1⟩ := stored2_own (.bool bd) (.slice ad nd cd) j0 j1
  refine ⟨g0, g1, (hz.stored' (b := wr.heap.size) (by simp) _ _).rd hzb hS, (hb.setCell (by simp) _).setCell (by simp) _⟩
theorem zero_one {wx : World} {bd : Bool} {ad : Option Addr} {nd cd : Nat} {dz p : Int} (h : RdZ wx (.agg #[.bool bd, .slice ad nd cd]) dz) (h0 : 0 < p) (h1 : p ≤ 18446744073709551615) (hz : dz % p = 0) (t : TypeId) (W : World) (hW : Below wx.heap.size wx W) :
    Calls Try.prog 24 #[.slice (some ⟨W.heap.size, 0, none⟩) 1 1, .int .u64 p] (W.alloc (.cells #[.bool bd, .slice ad nd cd] t)) fun e w' => e = .returned (.bool true) ∧ Below wx.heap.size wx w' := by
  obtain ⟨r, h2, h3, h4⟩ := rdl_one (t := t) (h.below hW)
  refine (zero_yes _ 1 _ p h0 h1 _ h2 (fun i _ => ⟨h4, by rw [h3]; exact hz⟩)).mono ?_
  rintro e w' ⟨rfl, hb⟩
  have q := hW.alloc hW.size (.cells #[.bool bd, .slice ad nd cd] t)
  exact ⟨rfl, q.trans (hb.mono q.size)⟩

set_option maxHeartbeats 4000000 in
set_option maxRecDepth 100000 in
theorem refu_any (r c : Int) (p : Int) (hp : 0 ≤ p) (s : Value) (n : Nat) (x : Nat → Raw) (w : World) (hr : RdL w s n x) (hsz : ∀ i, i < n → (x i).n ≤ 1048576) :
    Calls Try.prog 8 #[.agg #[.int .i64 r, .int .i64 c, s], .int .u64 p] w fun e w' => e = .returned (.bool true) ∧ Below w.heap.size w w' := by
  obtain ⟨a, cap, rfl, hn⟩ := hr.slice
  have hsd := fun W => sound_any r c a n cap hn W
  have hpr := fun W => prime_any p hp W
  have HR := Lib.hid hr
  have z := three_cells w (.int .i64 r) (.int .i64 c) (.slice a n cap) 34
  have hb0 : Below w.heap.size w (w.alloc (.cells #[.int .i64 r, .int .i64 c, .slice a n cap] 34)) := (Below.refl _ _).alloc (Nat.le_refl _) _
  have x0 := (z 0 _ rfl).1
  have x1 := (z 1 _ rfl).1
  have x2 := (z 2 _ rfl).1
  have HB0 := Lib.hid hb0
  have HSZ := Lib.hid hsz
  clear hr hb0 z hsz
  by_cases hgood : soundB r c n = true ∧ primeB p = true
  · have ho : openE r c n p true = 0 := by unfold openE; rw [if_pos hgood.1, if_pos rfl, if_pos hgood.2]
    rw [hgood.1] at hsd
    rw [hgood.2] at hpr
    obtain ⟨R, C, rfl, rfl, hR, hC, hN, p0, p1, -, -⟩ := openE_ok ho
    have hred : ∀ W, RdL W (.slice a n cap) n x → Calls Try.prog 35 #[.agg #[.int .i64 R, .int .i64 C, .slice a n cap], .int .u64 p] W fun e w' => ∃ lb M,
        e = .returned (.tuple #[.agg #[.int .i64 R, .int .i64 C, .slice (some ⟨lb, 0, none⟩) n n], .int .i64 0]) ∧ LS 56 22 w' W.heap.size W.heap.size lb n n (fun q => small (resid (x q) p)) M ∧ Below W.heap.size W w' := fun W h => by
      refine (Reduce_any R C p hp (.slice a n cap) n x W h).mono ?_
      rw [ho]
      rintro e w' ⟨v, rfl, hans, hb⟩
      obtain ⟨lb, M, rfl, hls⟩ := hans.1 rfl
      rw [Int.toNat_natCast, Int.toNat_natCast, ← hN] at hls
      refine ⟨lb, M, by rw [Int.toNat_natCast, Int.toNat_natCast, ← hN], hls.congr fun q _ => ?_, hb⟩
      show small (resid (x (q / C * C + q % C)) p) = _
      rw [show q / C * C + q % C = q by rw [Nat.mul_comm]; exact Nat.div_add_mod q C]
    have HRED := Lib.hid hred
    have HSD := Lib.hid hsd
    have HPR := Lib.hid hpr
    have HN := Lib.hid hN
    have hn4 : n ≤ 4096 := by rw [hN]; exact Nat.mul_le_mul hR hC
    clear ho hgood hred hsd hpr hN
    go_enter Try.func8, Try.ntmps8
    go_wp2_with (first
      | (go_at_call 11; refine (wakes_any _).mono ?_; rintro e w1 ⟨rfl, hb1⟩; have HB1 := Lib.hid (HB0.out.trans (hb1.mono HB0.out.size)); have x0 := cell_stays hb1 x0; have x1 := cell_stays hb1 x1; have x2 := cell_stays hb1 x2; clear hb1)
      | (go_at_call 15; refine (HSD.out _).mono ?_; rintro e w2 ⟨rfl, hb2⟩; have HB2 := Lib.hid (HB1.out.trans (hb2.mono HB1.out.size)); have x0 := cell_stays hb2 x0; have x1 := cell_stays hb2 x1; have x2 := cell_stays hb2 x2; clear hb2)
      | (go_at_call 14; refine (HPR.out _).mono ?_; rintro e w3 ⟨rfl, rfl⟩))
    refine (HRED.out _ (HR.out.below HB2.out)).mono ?_
    rintro e w4 ⟨lb, M, rfl, hls, hb4⟩
    have hbox : Below w4.heap.size w4 (w4.alloc (.cells #[.int .i64 R, .int .i64 C, .slice (some ⟨lb, 0, none⟩) n n] 34)) := (Below.refl _ _).alloc (Nat.le_refl _) _
    have hsm : ∀ q, q < n → SmallB p (small (resid (x q) p)) := fun q _ => SmallB.small (resid_bd _ p (by omega)).1 (resid_bd _ p (by omega)).2
    have hrd4 := hls.read (by omega) (fun q hq => by
      intro i _
      have := resid_bd (x q) p (by omega)
      exact ⟨this.1, by show resid _ p ≤ _; omega⟩)
    have hrd5 := hrd4.below hbox
    have hle := least_yes _ n _ p _ hrd5 hsm
    have hz5 := three_cells w4 (.int .i64 R) (.int .i64 C) (.slice (some ⟨lb, 0, none⟩) n n) 34
    have hbw := (HB2.out.trans (hb4.mono HB2.out.size)).trans (hbox.mono (Nat.le_trans HB2.out.size hb4.size))
    have hb45 := hb4.trans (hbox.mono hb4.size)
    have x0 := cell_stays hb45 x0
    have x1 := cell_stays hb45 x1
    have x2 := cell_stays hb45 x2
    have y0 := (hz5 0 _ rfl).1
    have y1 := (hz5 1 _ rfl).1
    have y2 := (hz5 2 _ rfl).1
    have HLE := Lib.hid hle
    have HRD5 := Lib.hid hrd5
    have HBW := Lib.hid hbw
    clear hls hbox hsm hrd4 hrd5 hle hz5 hbw hb45 hb4
    go_wp2_with (go_at_call 22; (with_reducible refine HLE.out.mono ?_); rintro e w6 ⟨rfl, rfl⟩)
    obtain ⟨w5, hw5⟩ : ∃ w5, w5 = w4.alloc (.cells #[.int .i64 R, .int .i64 C, .slice (some ⟨lb, 0, none⟩) n n] 34) := ⟨_, rfl⟩
    have hmb : w4.heap.size < w5.heap.size := by rw [hw5]; simp
    rw [← hw5] at HRD5 HBW x2 y2 ⊢
    clear hw5 HLE x0 x1 y0 y1
    go_loopw [7] (fun kv wr => ∃ k : Nat, k ≤ n ∧ kv = .int .i64 k ∧ Below w5.heap.size w5 wr) (fun kv _ => n - (intOf kv).toNat)
    case atStart => exact ⟨0, by omega, rfl, Below.refl _ _⟩
    case round =>
      obtain ⟨k, k1, rfl, hb⟩ := hrel
      have x2 := cell_stays hb x2
      have y2 := cell_stays hb y2
      have hbw := HBW.out.trans (hb.mono HBW.out.size)
      by_cases hk : k < n
      · obtain ⟨b1, o1, rfl, m1, c1, c2, c3⟩ := rdl_at (HR.out.below hbw) hk
        obtain ⟨b2, o2, e3, m2, d1, d2, d3⟩ := rdl_at (HRD5.out.below hb) hk
        injection e3 with e3
        injection e3 with e5 e6 _
        subst e5; subst e6
        rw [Nat.zero_add] at d1 d2
        change wr.cell? ⟨lb, k * 2, none⟩ = some (.bool false) at d1
        have hr1 : RdZ wr (.agg #[.bool (x k).neg, m1]) (x k).val := ⟨x k, ⟨m1, rfl, c3⟩, rfl, by have := HSZ.out k hk; omega⟩
        have hrs := resid_bd (x k) p (by omega)
        have hr2 : RdZ wr (.agg #[.bool false, m2]) (resid (x k) p) := ⟨small (resid (x k) p), ⟨m2, rfl, d3⟩, small_val hrs.1, Nat.le_trans (w1_le (resid (x k) p)) (by omega)⟩
        have hzb : ZB ((x k).n + 1 + 1) ((x k).val - resid (x k) p) := by
          have h1 : ZB (x k).n (x k).val := RdI.zb ⟨m1, rfl, c3⟩
          have h2 : ZB 1 (-(resid (x k) p)) := by unfold ZB; rw [Int.pow_succ, Int.pow_zero]; omega
          rw [Int.sub_eq_add_neg]; exact h1.add h2
        have hS : (x k).n + 1 + 1 ≤ 274877906944 := by have := HSZ.out k hk; omega
        have hzm : ((x k).val - resid (x k) p) % p = 0 := by
          rw [resid_eq _ (by omega)]
          exact Int.emod_eq_emod_iff_emod_sub_eq_zero.1 (Int.emod_emod_of_dvd _ (Int.dvd_refl p)).symm
        obtain ⟨am, cm, rfl, -⟩ := c3.1
        obtain ⟨al, cl, rfl, -⟩ := d3.1
        have f1 : b1 < wr.heap.size := World.block_lt_of_cell? wr _ c1
        have f2 : lb < wr.heap.size := World.block_lt_of_cell? wr _ d1
        have f3 : w.heap.size < wr.heap.size := World.block_lt_of_cell? wr _ x2
        have f4 : w4.heap.size < wr.heap.size := World.block_lt_of_cell? wr _ y2
        have cm1 : ∀ W, Below wr.heap.size wr W → Calls Try.prog 32 #[.agg #[.bool (x k).neg, .slice am (x k).n cm], .agg #[.bool false, .slice al (small (resid (x k) p)).n cl]] W fun e w' => ∃ bd ad nd cd, e = .returned (.agg #[.bool bd, .slice ad nd cd]) ∧
            FrZ w' W.heap.size (.agg #[.bool bd, .slice ad nd cd]) ((x k).val - resid (x k) p) ∧ Below wr.heap.size wr w' ∧ Below W.heap.size W w' := fun W hW => by
          refine (Sub05_any _ _ _ _ W (hr1.below hW) (hr2.below hW)).mono ?_
          rintro e w' ⟨v, rfl, hz, h3⟩
          obtain ⟨m, n', f, rfl, h1, h2⟩ := hz
          obtain ⟨a', c', rfl⟩ := h1.slice
          exact ⟨_, a', n', c', rfl, ⟨_, n', f, rfl, h1, h2⟩, hW.trans (h3.mono hW.size), h3⟩
        have CM1 := Lib.hid cm1
        have HZB := Lib.hid hzb
        have HZM := Lib.hid hzm
        have HBW2 := Lib.hid hbw
        have HB := Lib.hid hb
        have hws := w1_le (resid (x k) p)
        clear c3 d3 hr1 hr2 hzb hzm cm1 hbw hrs
        generalize (x k).val - resid (x k) p = dz at *
        generalize (x k).neg = ng at *
        generalize (small (resid (x k) p)).n = sn at *
        generalize (x k).n = nn at *
        go_upto_region 11 with fail
        go_cut [8] (fun v8 wx => ∃ (db : Nat) (bd : Bool) (ad : Option Addr) (nd cd : Nat), v8 = .pointer (some ⟨db, 0, none⟩) ∧ wx.cell? ⟨db, 0, none⟩ = some (.bool bd) ∧ wx.cell? ⟨db, 1, none⟩ = some (.slice ad nd cd) ∧ RdZ wx (.agg #[.bool bd, .slice ad nd cd]) dz ∧ Below wr.heap.size wr wx)
        case first =>
          have q0 : (0 : Int) ≤ (k : Int) := by omega
          have q1 : (k : Int) < (n : Int) := by omega
          go_region_held3 (fun w' => w'.cell? ⟨w.heap.size, 2, none⟩ = some (.slice (some ⟨b1, o1, none⟩) n cap) ∧ w'.cell? ⟨w4.heap.size, 2, none⟩ = some (.slice (some ⟨lb, 0, none⟩) n n) ∧ w'.cell? ⟨b1, o1 + k * 2, none⟩ = some (.bool ng) ∧ w'.cell? ⟨b1, o1 + k * 2 + 1, none⟩ = some (.slice am nn cm) ∧
              w'.cell? ⟨lb, k * 2, none⟩ = some (.bool false) ∧ w'.cell? ⟨lb, k * 2 + 1, none⟩ = some (.slice al sn cl))
            (first
              | go_keep
              | (exact ⟨cell_stays hb8 x2, cell_stays hb8 y2, cell_stays hb8 c1, cell_stays hb8 c2, cell_stays hb8 d1, cell_stays hb8 d2⟩)
              | (have hk := hb8.alloc hb8.size (.cells #[.bool bd, .slice ad nd cd] 56); exact ⟨cell_stays hk x2, cell_stays hk y2, cell_stays hk c1, cell_stays hk c2, cell_stays hk d1, cell_stays hk d2⟩)
              | (have hk := (hb8.setCell (p := ⟨_, 0, none⟩) (Nat.le_refl _) (.bool bd)).setCell (p := ⟨_, 1, none⟩) (Nat.le_refl _) (.slice ad nd cd); exact ⟨cell_stays hk x2, cell_stays hk y2, cell_stays hk c1, cell_stays hk c2, cell_stays hk d1, cell_stays hk d2⟩))
            (first
              | (go_at_call 32; (with_reducible refine (CM1.out wr.drew ?_).mono ?_); exact (Below.refl _ _).drew; rintro e w8 ⟨bd, ad, nd, cd, rfl, hz8, hb8, hc8⟩)
              | (go_at_call 32; (with_reducible refine (CM1.out (wr.alloc (.cells #[.bool false, .slice none 0 0] 56)).drew ?_).mono ?_); exact ((Below.refl _ _).alloc (Nat.le_refl _) _).drew; rintro e w7 ⟨bd, ad, nd, cd, rfl, hz8, hb8, hc8⟩; obtain ⟨j0, j1, j2, j3⟩ := box_kept' hc8))
          all_goals
            go_wp2_with fail
            go_meet
            first
              | exact ⟨_, _, _, _, _, rfl, fin_alloc _ hz8 HZB.out hS hb8⟩
              | exact ⟨_, _, _, _, _, rfl, fin_store hz8 HZB.out hS hb8 j0 j1⟩
        case rest =>
          clear CM1 HZB d1 d2 c1 c2 HRED HPR HSD HSZ
          obtain ⟨db, bd, ad, nd, cd, rfl, e0, e1, hrz, hbx⟩ := hcut
          have HZ1 := Lib.hid (zero_one hrz (by omega) (by omega) HZM.out 56)
          have HBX := Lib.hid (HB.out.trans (hbx.mono HB.out.size))
          clear hrz hb
          go_wp2_with (go_at_call 24; (with_reducible first | refine (HZ1.out _ (Below.refl _ _)).mono ?_ | refine (HZ1.out _ (Below.refl _ _).drew).mono ?_); rintro e w9 ⟨rfl, hb9⟩; have HB9 := Lib.hid (HB.out.trans ((hbx.trans (hb9.mono hbx.size)).mono HB.out.size)))
          go_roundw
          case rel => exact ⟨k + 1, by omega, by go_num, HB9.out⟩
          case measure => simp [intOf]; omega
      · obtain rfl : k = n := by omega
        go_wp2_with fail
        go_ret
        exact ⟨rfl, hbw⟩
  · have hrf := fun W (h : RdL W (.slice a n cap) n x) => refuses_yes r c p hp (.slice a n cap) n x W h hgood
    have HRF := Lib.hid hrf
    have hprE : soundB r c n = true → primeB p = false := fun e => by simpa using fun e2 => hgood ⟨e, e2⟩
    have HPE := Lib.hid hprE
    clear hrf hprE hgood
    generalize soundB r c n = sd at hsd HPE
    generalize primeB p = pr at hpr HPE
    have HSD := Lib.hid hsd
    have HPR := Lib.hid hpr
    clear hsd hpr
    cases sd with
    | false =>
      clear HPE
      go_enter Try.func8, Try.ntmps8
      go_wp2_with (first
        | (go_at_call 11; refine (wakes_any _).mono ?_; rintro e w1 ⟨rfl, hb1⟩; have HB1 := Lib.hid (HB0.out.trans (hb1.mono HB0.out.size)); have x0 := cell_stays hb1 x0; have x1 := cell_stays hb1 x1; have x2 := cell_stays hb1 x2; clear hb1)
        | (go_at_call 15; refine (HSD.out _).mono ?_; rintro e w2 ⟨rfl, hb2⟩; have HB2 := Lib.hid (HB1.out.trans (hb2.mono HB1.out.size)); have x0 := cell_stays hb2 x0; have x1 := cell_stays hb2 x1; have x2 := cell_stays hb2 x2; clear hb2)
        | (go_at_call 34; refine (HRF.out _ (HR.out.below HB2.out)).mono ?_; rintro e w3 ⟨rfl, hb3⟩))
      go_ret
      exact ⟨rfl, HB2.out.trans (hb3.mono HB2.out.size)⟩
    | true =>
      obtain rfl : pr = false := HPE.out rfl
      clear HPE
      go_enter Try.func8, Try.ntmps8
      go_wp2_with (first
        | (go_at_call 11; refine (wakes_any _).mono ?_; rintro e w1 ⟨rfl, hb1⟩; have HB1 := Lib.hid (HB0.out.trans (hb1.mono HB0.out.size)); have x0 := cell_stays hb1 x0; have x1 := cell_stays hb1 x1; have x2 := cell_stays hb1 x2; clear hb1)
        | (go_at_call 15; refine (HSD.out _).mono ?_; rintro e w2 ⟨rfl, hb2⟩; have HB2 := Lib.hid (HB1.out.trans (hb2.mono HB1.out.size)); have x0 := cell_stays hb2 x0; have x1 := cell_stays hb2 x1; have x2 := cell_stays hb2 x2; clear hb2)
        | (go_at_call 14; refine (HPR.out _).mono ?_; rintro e w3 ⟨rfl, rfl⟩)
        | (go_at_call 34; refine (HRF.out _ (HR.out.below HB2.out)).mono ?_; rintro e w3 ⟨rfl, hb3⟩))
      go_ret
      exact ⟨rfl, HB2.out.trans (hb3.mono HB2.out.size)⟩

end Go.Proofs.Ytdlpemmoobbgnaa

namespace Go.Proofs.Ytdlpemmoobbgnaa
open laF

section
variable {q : Nat} [NeZero q] {m n : Nat}

theorem phG_resG (hq : 1 ≤ q) (K : Nat) (x : Nat → Raw) (i j : Nat) : phG q (resG q K x) i j = ph (x (i * K + j)).val := by
  show ph (resid _ _) = _
  rw [resid_eq _ (by omega : (0 : Int) < q), ph_mod]

/-- equal spans, equal echelon forms -/
theorem redS_eq (hp : isPB q = true) {G G' : Nat → Nat → Int} (h : Res q m n G) (h' : Res q m n G') (hs : SpanEq m n (phG q G) (phG q G')) :
    (redS q m n G n).P.length = (redS q m n G' n).P.length ∧ ∀ i j, i < m → j < n → (redS q m n G n).G i j = (redS q m n G' n).G i j := by
  have hq := isPB_ge q hp
  obtain ⟨r1, s1⟩ := RS.run_ok hp h (1 % (q : Int)) n (Nat.le_refl n)
  obtain ⟨r2, s2⟩ := RS.run_ok hp h' (1 % (q : Int)) n (Nat.le_refl n)
  have b1 := redS_res (p := q) (by omega) h n
  have b2 := redS_res (p := q) (by omega) h' n
  have hs2 := s1.symm.trans (hs.trans s2)
  obtain ⟨e1, -, e3⟩ := Rref.unique (one_ne hq) r1 r2 (fun i hi => hs2.1 i (by have := r1.le; omega)) (fun i hi => hs2.2 i (by have := r2.le; omega))
  refine ⟨e1, fun i j hi hj => ?_⟩
  have g1 := b1 i j hi hj
  have g2 := b2 i j hi hj
  refine ph_inj g1.1 g1.2 g2.1 g2.2 ?_
  by_cases c : i < (RS.run q m n ⟨G, [], 1 % (q : Int)⟩ n).P.length
  · exact e3 i j c hj
  · exact (r1.rest i j (by omega) hi hj).trans (r2.rest i j (by omega) hi hj).symm

theorem Comb.kills {N : Nat → Nat → Fin q} {v a : Nat → Fin q} (h : Comb m n N v) (hN : ∀ i, i < m → sm n (fun t => N i t * a t) = 0) : sm n (fun t => v t * a t) = 0 := by
  obtain ⟨c, hc⟩ := h
  rw [sm_congr (g := fun t => sm m (fun i => c i * (N i t * a t))) (fun t ht => by rw [hc t ht, ← sm_mul_r]; exact sm_congr fun i _ => by grind), sm_comm]
  exact sm_zero fun i hi => by rw [sm_mul, hN i hi]; grind

/-- the left part of a row of [A | 1] is its right part times A -/
theorem bes_comb {R K : Nat} {A N : Nat → Nat → Fin q} {v : Nat → Fin q} (hN : ∀ i, i < R → (∀ j, j < K → N i j = A i j) ∧ ∀ t, t < R → N i (K + t) = if t = i then 1 else 0) (h : Comb R (K + R) N v) :
    ∀ j, j < K → v j = sm R (fun t => v (K + t) * A t j) := by
  obtain ⟨a, ha⟩ := h
  have hr : ∀ t, t < R → v (K + t) = a t := fun t ht => by
    rw [ha (K + t) (by omega), sm_one (fun i => a i * N i (K + t)) ht (fun i hi hne => by simp only [(hN i hi).2 t ht, if_neg (fun e : t = i => hne e.symm)]; grind), (hN t ht).2 t ht, if_pos rfl]; grind
  intro j hj
  rw [ha j (by omega)]
  exact sm_congr fun t ht => by rw [hr t ht, (hN t ht).1 j hj]

theorem bes_rows {K : Nat} {x : Nat → Raw} {R : Nat} : ∀ i, i < R → (∀ j, j < K → phG q (besG q K x) i j = phG q (resG q K x) i j) ∧ ∀ t, t < R → phG q (besG q K x) i (K + t) = if t = i then 1 else 0 := by
  intro i _
  constructor
  · intro j hj
    show ph (if j < K then _ else _) = _
    rw [if_pos hj]; rfl
  · intro t _
    show ph (if K + t < K then _ else _) = _
    rw [if_neg (by omega)]
    by_cases e : t = i
    · rw [if_pos (by omega), if_pos e]; exact ph_one
    · rw [if_neg (by omega), if_neg e]; exact ph_zero

section
variable {R K : Nat} {x : Nat → Raw}

theorem besS_ok (hp : isPB q = true) (R K : Nat) (x : Nat → Raw) : Rref R K (kerR q R K x) (fun i => (besS q R K x).P.getD i 0) (phG q (besS q R K x).G) ∧ SpanEq R (K + R) (phG q (besG q K x)) (phG q (besS q R K x).G) :=
  RS.run_ok hp (besG_res q (by have := isPB_ge q hp; omega) R K x) (1 % (q : Int)) K (by omega)

theorem kerS_ok (hp : isPB q = true) (R K : Nat) (x : Nat → Raw) : Rref (R - kerR q R K x) R (kerS q R K x).P.length (fun i => (kerS q R K x).P.getD i 0) (phG q (kerS q R K x).G) ∧ SpanEq (R - kerR q R K x) R (phG q (kerG q R K x)) (phG q (kerS q R K x).G) :=
  RS.run_ok hp (kerG_res q (by have := isPB_ge q hp; omega) R K x) (1 % (q : Int)) R (Nat.le_refl R)

theorem kerG_zero (hp : isPB q = true) {l : Nat} (hl : l < R - kerR q R K x) {j : Nat} (hj : j < K) : sm R (fun t => phG q (kerG q R K x) l t * ph (x (t * K + j)).val) = 0 := by
  obtain ⟨h1, h2⟩ := besS_ok hp R K x
  have h3 := bes_comb bes_rows (h2.2 (kerR q R K x + l) (by omega)) j hj
  rw [h1.rest _ j (by omega) (by omega) hj] at h3
  rw [h3]
  exact sm_congr fun t _ => by rw [phG_resG (by have := isPB_ge q hp; omega)]; rfl

/-- the kernel's rows times the matrix are 0 -/
theorem kerS_zero (hp : isPB q = true) {l : Nat} (hl : l < R - kerR q R K x) {j : Nat} (hj : j < K) : sm R (fun t => (ph ((kerS q R K x).G l t) : Fin q) * ph (x (t * K + j)).val) = 0 :=
  Comb.kills ((kerS_ok hp R K x).2.2 l hl) fun _ hi => kerG_zero hp hi hj
end

/-- independent rows are no more than the rows that they are combinations of -/
theorem rank_le (hp : isPB q = true) {r s : Nat} {P : Nat → Nat} {N M : Nat → Nat → Fin q} (h : Rref m n r P N) (hs : ∀ i, i < r → Comb s n M (N i)) : r ≤ s := by
  have hq := isPB_ge q hp
  have hM : ∀ i j, phG q (fun i j => ((M i j).val : Int)) i j = M i j := fun i j => by
    apply fin_ext; rw [show phG q (fun i j => ((M i j).val : Int)) i j = ph ((M i j).val : Int) from rfl, ph_val, Int.emod_eq_of_lt (by omega) (by have := (M i j).isLt; omega)]
  have hres : Res q s n (fun i j => ((M i j).val : Int)) := fun i j _ _ => ⟨by show (0 : Int) ≤ ((M i j).val : Int); omega, by show ((M i j).val : Int) < q; have := (M i j).isLt; omega⟩
  obtain ⟨h1, h2⟩ := RS.run_ok hp hres 0 n (Nat.le_refl n)
  generalize (RS.run q s n ⟨fun i j => ((M i j).val : Int), [], 0⟩ n).P.length = r' at h1
  have key : ∀ i, i < r → ∃ k, i ≤ k ∧ k < r' ∧ (fun i => (RS.run q s n ⟨fun i j => ((M i j).val : Int), [], 0⟩ n).P.getD i 0) k = P i := by
    intro i
    induction i with
    | zero =>
      intro hi
      obtain ⟨k, hk, e⟩ := h1.first ((hs 0 hi).trans fun l hl => ((Comb.row hl).congr fun j _ => (hM l j).symm).trans h2.1) (h.lt 0 hi) (fun j hj => h.lead 0 j hi hj) (by rw [h.one 0 hi]; exact one_ne hq)
      exact ⟨k, by omega, hk, e⟩
    | succ i ih =>
      intro hi
      obtain ⟨k0, a0, b0, c0⟩ := ih (by omega)
      obtain ⟨k, hk, e⟩ := h1.first ((hs (i + 1) hi).trans fun l hl => ((Comb.row hl).congr fun j _ => (hM l j).symm).trans h2.1) (h.lt (i + 1) hi) (fun j hj => h.lead (i + 1) j hi hj) (by rw [h.one (i + 1) hi]; exact one_ne hq)
      refine ⟨k, Nat.le_of_not_lt fun hlt => ?_, hk, e⟩
      have hm := h.mono i (i + 1) (by omega) hi
      rcases Nat.lt_or_ge k k0 with c | c
      · have h5 := h1.mono k k0 c b0
        dsimp only at h5 c0
        rw [e, c0] at h5
        omega
      · have : k = k0 := by omega
        subst this
        dsimp only at c0
        rw [e] at c0
        omega
  have hle := h1.le
  rcases Nat.eq_zero_or_pos r with e | e
  · omega
  · obtain ⟨k, a, b, -⟩ := key (r - 1) (by omega)
    omega

/-- the rank of the transpose is no greater -/
theorem rank_turn (hp : isPB q = true) {r s : Nat} {P Q : Nat → Nat} {A N M : Nat → Nat → Fin q} (h : Rref m n r P N) (hA : SpanEq m n A N) (h' : Rref n m s Q M) (hT : SpanEq n m (fun j i => A i j) M) : s ≤ r := by
  refine rank_le hp h' (M := fun k i => A i (P k)) fun i hi => (hT.2 i (by have := h'.le; omega)).trans fun j hj => ⟨fun k => N k j, fun t ht => ?_⟩
  show A t j = _
  rw [h.exp (hA.1 t ht) hj]
  exact sm_congr fun k _ => by grind

/-- the kernel has as many rows as are missing -/
theorem ker_full (hp : isPB q = true) (R K : Nat) (x : Nat → Raw) : (kerS q R K x).P.length = R - kerR q R K x := by
  obtain ⟨h1, h2⟩ := besS_ok hp R K x
  obtain ⟨h3, h4⟩ := kerS_ok hp R K x
  have hle := h3.le
  have hr := kerR_le q R K x
  obtain ⟨s, hs⟩ : ∃ s, s = (kerS q R K x).P.length := ⟨_, rfl⟩
  have hid : Rref R R R (fun i => i) (fun i j => if j = i then (1 : Fin q) else 0) :=
    ⟨Nat.le_refl _, fun i hi => hi, fun i j h _ => h, fun i j _ hj => if_neg (by omega), fun i _ => if_pos rfl, fun i k _ _ hne => if_neg (fun e => hne e.symm), fun i j h1 h2 => absurd h2 (by omega)⟩
  have key : R ≤ kerR q R K x + s := by
    refine rank_le hp hid (M := fun k j => if k < kerR q R K x then phG q (besS q R K x).G k (K + j) else phG q (kerS q R K x).G (k - kerR q R K x) j) fun i hi => ?_
    have hB : Comb R R (fun l j => phG q (besS q R K x).G l (K + j)) (fun j => if j = i then (1 : Fin q) else 0) := ((h2.1 i hi).right (k := K) (n' := R) (by omega)).congr fun j hj => ((bes_rows i hi).2 j hj).symm
    refine hB.trans fun l hl => ?_
    by_cases c : l < kerR q R K x
    · exact (Comb.row (i := l) (by omega)).congr fun j _ => by simp only [if_pos c]
    · have h5 := h4.1 (l - kerR q R K x) (by omega)
      have e5 : ∀ j, j < R → phG q (besS q R K x).G l (K + j) = phG q (kerG q R K x) (l - kerR q R K x) j := fun j _ => by
        unfold phG kerG; rw [show kerR q R K x + (l - kerR q R K x) = l by omega]
      refine ((h5.congr e5).trans fun t ht => ?_)
      by_cases c' : t < s
      · exact (Comb.row (i := kerR q R K x + t) (by omega)).congr fun j _ => by
          simp only [if_neg (show ¬ kerR q R K x + t < kerR q R K x by omega), show kerR q R K x + t - kerR q R K x = t by omega]
      · exact Comb.zero fun j hj => h3.rest t j (by omega) ht hj
  omega

/-- an invertible matrix on the left keeps the span -/
theorem inv_span {U A : Nat → Nat → Fin q} (hU : ∀ i, i < m → Comb m m U (fun j => if j = i then 1 else 0)) : SpanEq m n A (fun i j => sm m (fun k => U i k * A k j)) := by
  refine ⟨fun i hi => ?_, fun i hi => ⟨U i, fun j _ => rfl⟩⟩
  obtain ⟨a, ha⟩ := hU i hi
  refine ⟨a, fun j hj => ?_⟩
  rw [sm_congr (g := fun l => sm m (fun k => a l * (U l k * A k j))) (fun l _ => (sm_mul _ _ _).symm), sm_comm]
  rw [sm_congr (g := fun k => (if k = i then (1 : Fin q) else 0) * A k j) (fun k hk => by rw [show (if k = i then (1 : Fin q) else 0) = sm m (fun l => a l * U l k) from ha k hk, ← sm_mul_r]; exact sm_congr fun l _ => by grind)]
  rw [sm_one _ hi (fun k _ hne => by simp only [if_neg hne]; grind)]
  simp only [if_true]; grind

/-- full rank: every unit row is a combination -/
theorem full_inv (hp : isPB q = true) {G : Nat → Nat → Int} (h : Res q m m G) (hr : ¬ (redS q m m G m).P.length < m) : ∀ i, i < m → Comb m m (phG q G) (fun j => if j = i then 1 else 0) := by
  obtain ⟨r1, s1⟩ := RS.run_ok hp h (1 % (q : Int)) m (Nat.le_refl m)
  have hle := r1.le
  have e : (RS.run q m m ⟨G, [], 1 % (q : Int)⟩ m).P.length = m := by unfold redS at hr; omega
  rw [e] at r1
  generalize (fun i => (RS.run q m m ⟨G, [], 1 % (q : Int)⟩ m).P.getD i 0) = P at r1
  have hP : ∀ i, i < m → P i = i := by
    have hge : ∀ i, i < m → i ≤ P i := by
      intro i
      induction i with
      | zero => intro _; omega
      | succ i ih => intro hi; have := ih (by omega); have := r1.mono i (i + 1) (by omega) hi; omega
    have hup : ∀ d i, i + d + 1 = m → P i + d + 1 ≤ m := by
      intro d
      induction d with
      | zero => intro i hi; have := r1.lt i (by omega); omega
      | succ d ih => intro i hi; have := ih (i + 1) (by omega); have := r1.mono i (i + 1) (by omega) (by omega); omega
    intro i hi
    have := hge i hi
    have := hup (m - i - 1) i (by omega)
    omega
  intro i hi
  refine (s1.2 i hi).congr fun j hj => ?_
  by_cases c : j = i
  · subst c
    have := r1.one j hi
    rw [hP j hi] at this
    rw [if_pos rfl, this]
  · have := r1.col i j hi hj (fun e => c e.symm)
    rw [hP j hj] at this
    rw [if_neg c, this]
end

end Go.Proofs.Ytdlpemmoobbgnaa

namespace Go.Proofs.Ytdlpemmoobbgnaa
open Go.RowKit

theorem RdL.rdn {w : World} {v : Value} {n : Nat} {x : Nat → Raw} (h : RdL w v n x) {S : Nat} (hS : ∀ q, q < n → (x q).n ≤ S) : RdN w v n (fun q => (x q).val) S := ⟨x, h, fun q hq => ⟨hS q hq, rfl⟩⟩
theorem RdN.congr {w : World} {v : Value} {n : Nat} {z z' : Nat → Int} {S : Nat} (h : RdN w v n z S) (e : ∀ q, q < n → z q = z' q) : RdN w v n z' S := by
  obtain ⟨x, h1, h2⟩ := h
  exact ⟨x, h1, fun q hq => ⟨(h2 q hq).1, by rw [(h2 q hq).2, e q hq]⟩⟩
theorem RdN.zb {w : World} {v : Value} {n : Nat} {z : Nat → Int} {S : Nat} (h : RdN w v n z S) {q : Nat} (hq : q < n) : ZB S (z q) := by
  obtain ⟨x, ⟨a, cap, -, -, -, h1⟩, h2⟩ := h
  obtain ⟨b, o, -, hc⟩ := h1 (by omega)
  obtain ⟨m, -, -, c2⟩ := hc q hq
  obtain ⟨g1, g2⟩ := h2 q hq
  rw [← g2]
  exact (RdI.zb ⟨_, rfl, c2⟩).mono g1

theorem mul_idx {q R K C : Nat} (hq : q < R * C) : q / C < R ∧ q % C < C := by
  have hC : 0 < C := by
    rcases Nat.eq_zero_or_pos C with e | e
    · subst e; omega
    · exact e
  exact ⟨Nat.div_lt_of_lt_mul (by rw [Nat.mul_comm]; exact hq), Nat.mod_lt _ hC⟩

theorem Mul_rd (R K C : Nat) (hR : R ≤ 64) (hK : K ≤ 64) (hC : C ≤ 64) (s1 s2 : Value) (z1 z2 : Nat → Int) (S1 S2 : Nat) (hS : S1 + S2 + 1 ≤ 274877906944) (w : World) (h1 : RdN w s1 (R * K) z1 S1) (h2 : RdN w s2 (K * C) z2 S2) :
    Calls Try.prog 16 #[.agg #[.int .i64 R, .int .i64 K, s1], .agg #[.int .i64 K, .int .i64 C, s2]] w fun e w' => ∃ lb, e = .returned (.tuple #[.agg #[.int .i64 R, .int .i64 C, .slice (some ⟨lb, 0, none⟩) (R * C) (R * C)], .int .i64 0]) ∧
      RdN w' (.slice (some ⟨lb, 0, none⟩) (R * C) (R * C)) (R * C) (mulF z1 z2 K C) (S1 + S2 + 1) ∧ Below w.heap.size w w' := by
  refine (Mul_any R K C hR hK hC s1 s2 z1 z2 S1 S2 hS w h1 h2).mono ?_
  rintro e w' ⟨lb, bm, rfl, hz, hb⟩
  refine ⟨lb, rfl, hz.read (Nat.le_trans (Nat.mul_le_mul hR hC) (by decide)) hS fun q hq => ?_, hb⟩
  obtain ⟨g1, g2⟩ := mul_idx (K := K) hq
  exact dotZ_zb hK (fun k hk => h1.zb (prod_lt g1 hk)) (fun k hk => h2.zb (prod_lt hk g2))

theorem small_read {w : World} {lb n : Nat} {y : Nat → Int} {M : Nat → Value} {base : Nat} (h : LS 56 22 w base base lb n n (fun q => small (y q)) M) (hn : n ≤ 4096) (hy : ∀ q, q < n → 0 ≤ y q ∧ y q < 2147483648) :
    RdL w (.slice (some ⟨lb, 0, none⟩) n n) n (fun q => small (y q)) := h.read (by omega) fun q hq i _ => by
  have := hy q hq
  exact ⟨this.1, by show y q ≤ _; omega⟩
theorem RdL.smalls {w : World} {v : Value} {n : Nat} {y : Nat → Int} (h : RdL w v n (fun q => small (y q))) (hy : ∀ q, q < n → 0 ≤ y q ∧ y q < 2147483648) : RdN w v n y 1 :=
  ⟨_, h, fun q hq => ⟨w1_le _, small_val (hy q hq).1⟩⟩

theorem openE_good {R C : Nat} {n : Nat} {p : Int} (hR : R ≤ 64) (hC : C ≤ 64) (hN : n = R * C) (hp : primeB p = true) : openE R C n p true = 0 := by
  have hs : soundB R C n = true := by
    unfold soundB sideB; rw [hN]; simp; omega
  unfold openE
  rw [if_pos hs, if_pos rfl, if_pos hp]

section
variable (R C : Nat) (p : Int)
theorem Echelon_rd (hR : R ≤ 64) (hC : C ≤ 64) (hp : primeB p = true) (s : Value) (x : Nat → Raw) (w : World) (hr : RdL w s (R * C) x) :
    Calls Try.prog 25 #[.agg #[.int .i64 R, .int .i64 C, s], .int .u64 p] w fun e w' => ∃ lb, e = .returned (.tuple #[.agg #[.int .i64 R, .int .i64 C, .slice (some ⟨lb, 0, none⟩) (R * C) (R * C)], .int .i64 0]) ∧
      RdL w' (.slice (some ⟨lb, 0, none⟩) (R * C) (R * C)) (R * C) (fun q => small ((redS p R C (resG p C x) C).G (q / C) (q % C))) ∧ Below w.heap.size w w' := by
  obtain ⟨p0, p1⟩ := primeB_bd hp
  refine (Echelon_any R C p (by omega) s (R * C) x w hr).mono ?_
  rw [openE_good hR hC rfl hp, Int.toNat_natCast, Int.toNat_natCast]
  rintro e w' ⟨v, rfl, hans, hb⟩
  obtain ⟨lb, M, rfl, hls⟩ := hans.1 rfl
  exact ⟨lb, rfl, small_read hls (Nat.mul_le_mul hR hC) (fun q hq => by
    obtain ⟨g1, g2⟩ := mul_idx (K := C) hq
    have := redS_res (p := p) (by omega) (resG_res p (by omega) R C C x) C _ _ g1 g2
    omega), hb⟩

theorem Kernel_rd (hR : R ≤ 64) (hC : C ≤ 64) (hp : primeB p = true) (s : Value) (x : Nat → Raw) (w : World) (hr : RdL w s (R * C) x) :
    Calls Try.prog 26 #[.agg #[.int .i64 R, .int .i64 C, s], .int .u64 p] w fun e w' => ∃ lb, e = .returned (.tuple #[.agg #[.int .i64 (R - kerR p R C x : Nat), .int .i64 R, .slice (some ⟨lb, 0, none⟩) ((R - kerR p R C x) * R) ((R - kerR p R C x) * R)], .int .i64 0]) ∧
      RdL w' (.slice (some ⟨lb, 0, none⟩) ((R - kerR p R C x) * R) ((R - kerR p R C x) * R)) ((R - kerR p R C x) * R) (fun q => small ((kerS p R C x).G (q / R) (q % R))) ∧ Below w.heap.size w w' := by
  obtain ⟨p0, p1⟩ := primeB_bd hp
  refine (Kernel_any R C p (by omega) s (R * C) x w hr).mono ?_
  rw [openE_good hR hC rfl hp, Int.toNat_natCast, Int.toNat_natCast]
  rintro e w' ⟨v, rfl, hans, hb⟩
  obtain ⟨lb, M, rfl, hls⟩ := hans.1 rfl
  exact ⟨lb, rfl, small_read hls (Nat.le_trans (Nat.mul_le_mul (Nat.le_trans (Nat.sub_le _ _) hR) hR) (by decide)) (fun q hq => by
    obtain ⟨g1, g2⟩ := mul_idx (K := C) hq
    have := kerS_res p (by omega) R C x _ _ g1 g2
    omega), hb⟩

theorem Det_rd (hR : R ≤ 64) (hp : primeB p = true) (s : Value) (x : Nat → Raw) (w : World) (hr : RdL w s (R * R) x) :
    Calls Try.prog 18 #[.agg #[.int .i64 R, .int .i64 R, s], .int .u64 p] w fun e w' => e = .returned (.tuple #[.int .u64 (detM p R x), .int .i64 0]) ∧ Below w.heap.size w w' := by
  obtain ⟨p0, p1⟩ := primeB_bd hp
  have he : detE R R (R * R) p = 0 := by unfold detE; rw [show ((R : Int) == R) = true by simp]; exact openE_good hR hR rfl hp
  have hv : detV R R (R * R) x p = detM p R x := by unfold detV; rw [if_pos he, Int.toNat_natCast]
  refine (Det_any R R p (by omega) s (R * R) x w hr).mono ?_
  rw [he, hv]
  rintro e w' ⟨rfl, hb⟩
  exact ⟨rfl, hb⟩
end

theorem six_stay {w w' : World} {a b c d e f : Addr} {u v x y z t : Value} (hb : Below w.heap.size w w') (h : w.cell? a = some u ∧ w.cell? b = some v ∧ w.cell? c = some x ∧ w.cell? d = some y ∧ w.cell? e = some z ∧ w.cell? f = some t) :
    w'.cell? a = some u ∧ w'.cell? b = some v ∧ w'.cell? c = some x ∧ w'.cell? d = some y ∧ w'.cell? e = some z ∧ w'.cell? f = some t :=
  ⟨cell_stays hb h.1, cell_stays hb h.2.1, cell_stays hb h.2.2.1, cell_stays hb h.2.2.2.1, cell_stays hb h.2.2.2.2.1, cell_stays hb h.2.2.2.2.2⟩
theorem three_stay {w w' : World} {a b c : Addr} {u v x : Value} (hb : Below w.heap.size w w') (h : w.cell? a = some u ∧ w.cell? b = some v ∧ w.cell? c = some x) : w'.cell? a = some u ∧ w'.cell? b = some v ∧ w'.cell? c = some x :=
  ⟨cell_stays hb h.1, cell_stays hb h.2.1, cell_stays hb h.2.2⟩
/-- the boxes of two matrices handed in -/
theorem pair_boxes (w : World) (v0 v1 v2 v3 v4 v5 : Value) (t : TypeId) : ∃ W, W = ((w.alloc (.cells #[v0, v1, v2] t)).alloc (.cells #[v3, v4, v5] t)) ∧
    (W.cell? ⟨w.heap.size, 0, none⟩ = some v0 ∧ W.cell? ⟨w.heap.size, 1, none⟩ = some v1 ∧ W.cell? ⟨w.heap.size, 2, none⟩ = some v2 ∧
    W.cell? ⟨w.heap.size + 1, 0, none⟩ = some v3 ∧ W.cell? ⟨w.heap.size + 1, 1, none⟩ = some v4 ∧ W.cell? ⟨w.heap.size + 1, 2, none⟩ = some v5) ∧ Below w.heap.size w W ∧ W.heap.size = w.heap.size + 2 := by
  refine ⟨_, rfl, ?_⟩
  have k := three_cells w v0 v1 v2 t
  have l := three_cells (w.alloc (.cells #[v0, v1, v2] t)) v3 v4 v5 t
  have h1 : (w.alloc (.cells #[v0, v1, v2] t)).heap.size = w.heap.size + 1 := by simp
  have b2 := (Below.refl (w.alloc (.cells #[v0, v1, v2] t)).heap.size (w.alloc (.cells #[v0, v1, v2] t))).alloc (Nat.le_refl _) (.cells #[v3, v4, v5] t)
  rw [h1] at l
  exact ⟨⟨cell_stays b2 (k 0 _ rfl).1, cell_stays b2 (k 1 _ rfl).1, cell_stays b2 (k 2 _ rfl).1, (l 0 _ rfl).1, (l 1 _ rfl).1, (l 2 _ rfl).1⟩, ((Below.refl _ _).alloc (Nat.le_refl _) _).alloc (by simp) _, by simp⟩
/-- a matrix put into a box -/
theorem box_mat (w : World) (v0 v1 v2 : Value) (t : TypeId) : Below w.heap.size w (w.alloc (.cells #[v0, v1, v2] t)) ∧ ((w.alloc (.cells #[v0, v1, v2] t)).cell? ⟨w.heap.size, 0, none⟩ = some v0 ∧ (w.alloc (.cells #[v0, v1, v2] t)).cell? ⟨w.heap.size, 1, none⟩ = some v1 ∧ (w.alloc (.cells #[v0, v1, v2] t)).cell? ⟨w.heap.size, 2, none⟩ = some v2) := by
  have k := three_cells w v0 v1 v2 t
  exact ⟨(Below.refl _ _).alloc (Nat.le_refl _) _, (k 0 _ rfl).1, (k 1 _ rfl).1, (k 2 _ rfl).1⟩

/-- cells that are known -/
def Has (w : World) : List (Addr × Value) → Prop
  | [] => True
  | p :: L => w.cell? p.1 = some p.2 ∧ Has w L
theorem Has.below {w w' : World} : ∀ {L : List (Addr × Value)}, Has w L → Below w.heap.size w w' → Has w' L
  | [], _, _ => trivial
  | _ :: _, h, hb => ⟨cell_stays hb h.1, Has.below h.2 hb⟩
theorem Has.box {w : World} {L : List (Addr × Value)} (h : Has w L) (v0 v1 v2 : Value) (t : TypeId) : Has (w.alloc (.cells #[v0, v1, v2] t)) ((⟨w.heap.size, 0, none⟩, v0) :: (⟨w.heap.size, 1, none⟩, v1) :: (⟨w.heap.size, 2, none⟩, v2) :: L) := by
  obtain ⟨h0, h1, h2, h3⟩ := box_mat w v0 v1 v2 t
  exact ⟨h1, h2, h3, h.below h0⟩
theorem Has.box2 {w : World} {L : List (Addr × Value)} (h : Has w L) (v0 v1 : Value) (t : TypeId) : Has (w.alloc (.cells #[v0, v1] t)) ((⟨w.heap.size, 0, none⟩, v0) :: (⟨w.heap.size, 1, none⟩, v1) :: L) := by
  have k := cells2 w v0 v1 t
  exact ⟨(k 0 _ rfl).1, (k 1 _ rfl).1, h.below ((Below.refl _ _).alloc (Nat.le_refl _) _)⟩
theorem stage {B : Nat} {w w1 w2 : World} (h : Below B w w1) (hs : B ≤ w1.heap.size) (hb : Below w1.heap.size w1 w2) : Below B w w2 ∧ B ≤ w2.heap.size := ⟨h.trans (hb.mono hs), Nat.le_trans hs hb.size⟩
/-- a call, and its answer put into a box -/
theorem stage3 {B : Nat} {w w1 w2 : World} (h : Below B w w1 ∧ B ≤ w1.heap.size) (hb : Below w1.heap.size w1 w2) (v0 v1 v2 : Value) (t : TypeId) : Below B w (w2.alloc (.cells #[v0, v1, v2] t)) ∧ B ≤ (w2.alloc (.cells #[v0, v1, v2] t)).heap.size := by
  obtain ⟨h1, h2⟩ := stage h.1 h.2 hb
  exact stage h1 h2 ((Below.refl _ _).alloc (Nat.le_refl _) _)
end Go.Proofs.Ytdlpemmoobbgnaa

namespace Go.Proofs.Ytdlpemmoobbgnaa
open Go.RowKit Go.ChangeShapes Go.WideShapes Go.Deep Go.Joins

theorem bulk_part {H : Type} {d : DataW H} {l : List (DataW H)} (h : d ∈ l) : Rows.uptoBulk d ≤ Rows.uptoBulkAll l := by
  induction l with
  | nil => cases h
  | cons x r ih =>
    simp only [Rows.uptoBulkAll]
    cases List.mem_cons.1 h with
    | inl e => subst e; omega
    | inr e => have := ih e; omega
theorem bulk_one {H : Type} (d : DataW H) : 1 ≤ Rows.uptoBulk d := by
  cases d with
  | lit l => cases l <;> simp [Rows.uptoBulk]
  | nil => simp [Rows.uptoBulk]
  | ptr d => simp [Rows.uptoBulk]
  | slice elems spare => simp [Rows.uptoBulk]
  | agg parts => simp [Rows.uptoBulk]
  | iface t d => simp [Rows.uptoBulk]
  | map entries => simp [Rows.uptoBulk]
  | held h => simp [Rows.uptoBulk]
theorem bulk_length {H : Type} (l : List (DataW H)) : l.length ≤ Rows.uptoBulkAll l := by
  induction l with
  | nil => simp
  | cons x r ih => have := bulk_one x; simp only [Rows.uptoBulkAll, List.length_cons]; omega
/-- a slice of so many elements, each of so much -/
theorem bulk_row {H : Type} (n : Nat) (D : Nat → DataW H) (s : List (DataW H)) {B : Nat} (h : Rows.uptoBulk (.slice ((List.range n).map D) s) ≤ B) : n ≤ B ∧ ∀ i, i < n → Rows.uptoBulk (D i) ≤ B := by
  simp only [Rows.uptoBulk] at h
  have h1 := bulk_length ((List.range n).map D)
  rw [List.length_map, List.length_range] at h1
  refine ⟨by omega, fun i hi => ?_⟩
  have := bulk_part (List.mem_map.2 ⟨i, List.mem_range.2 hi, rfl⟩ : D i ∈ (List.range n).map D)
  omega

section
variable {H : Type} {enc : TypeId × Value → H} {w : World} {base : Nat} {spare : Nat → Bool} {held : Bool}

theorem add_none (b o i : Nat) : (⟨b, o, none⟩ : Addr).add i = ⟨b, o + i, none⟩ := by
  unfold Addr.add; split <;> simp_all

theorem open_words {n : Nat} {v : Value} {y : DataW H × List MemPlace} {B : Nat} (h : DataW.trod enc Try.prog w base spare held n 54 [v] = some y) (hB : Rows.uptoBulk y.1 ≤ B) (hB4 : B ≤ 4398046511104) :
    ∃ m f, RdW w v m f ∧ m ≤ B := by
  rcases open_slice1 Try.underlying54 (by kernel_rfl) h with ⟨e, -⟩ | ⟨a, len, cap, m, n', V, D, Pl, e, hb, hl, hm, hmm, hx, hc⟩
  · obtain rfl : v = .slice none 0 0 := by simpa using e
    exact ⟨0, fun _ => 0, ⟨⟨none, 0, rfl, Nat.le_refl _, Nat.zero_le _, fun h => absurd h (by omega)⟩, fun i hi => absurd hi (by omega)⟩, Nat.zero_le _⟩
  · obtain rfl : v = .slice (some a) len cap := by simpa using e
    subst hx
    have hlb := (bulk_row len D _ hB).1
    have hlm : len ≤ m := by rw [hmm]; split <;> omega
    have hv : ∀ i, i < len → ∃ z : Int, w.cell? (a.add i) = some (.int .u64 z) ∧ 0 ≤ z ∧ z ≤ 18446744073709551615 := fun i hi => by
      obtain ⟨h1, h2⟩ := hc i (by omega)
      obtain ⟨z, e1, -, hw⟩ := DataW.trod_int Try.underlying22 h2
      have e2 : V i = .int .u64 z := by simpa using e1
      rw [e2] at h1
      exact ⟨z, h1, bounds_u64 hw⟩
    obtain ⟨f, hf⟩ := choose_lt (α := Int) (p := fun i z => w.cell? (a.add i) = some (.int .u64 z) ∧ 0 ≤ z ∧ z ≤ 18446744073709551615) hv
    refine ⟨len, f, ⟨⟨some a, cap, rfl, hl, by omega, fun h0 => ?_⟩, fun i hi => (hf i hi).2⟩, hlb⟩
    obtain ⟨b, o, sp⟩ := a
    obtain rfl : sp = none := World.cell?_spot (hf 0 h0).1
    exact ⟨b, o, rfl, fun i hi => by have := (hf i hi).1; rw [add_none] at this; exact this⟩

instance rawB : Inhabited Raw := ⟨⟨false, 0, fun _ => 0⟩⟩

set_option maxRecDepth 100000 in
theorem open_list {n : Nat} {v : Value} {y : DataW H × List MemPlace} {B : Nat} (h : DataW.trod enc Try.prog w base spare held n 32 [v] = some y) (hB : Rows.uptoBulk y.1 ≤ B) (hB4 : B ≤ 4398046511104) :
    ∃ m x, RdL w v m x ∧ m ≤ B ∧ ∀ i, i < m → (x i).n ≤ B := by
  have hC : Try.prog.cellsOf 56 = 2 := by kernel_rfl
  rcases open_slice Try.underlying32 h with ⟨e, -⟩ | ⟨a, len, cap, m, n', D, Pl, e, hb, hl, hm, hmm, hx, hc⟩
  · obtain rfl : v = .slice none 0 0 := by simpa using e
    exact ⟨0, fun _ => ⟨false, 0, fun _ => 0⟩, ⟨none, 0, rfl, Nat.le_refl _, Nat.zero_le _, fun h => absurd h (by omega)⟩, Nat.zero_le _, fun i hi => absurd hi (by omega)⟩
  · obtain rfl : v = .slice (some a) len cap := by simpa using e
    subst hx
    rw [hC] at hc
    obtain ⟨hlb, hpb⟩ := bulk_row len D _ hB
    have hlm : len ≤ m := by rw [hmm]; split <;> omega
    have hv : ∀ i, i < len → ∃ r : Raw, (∃ mv, w.cell? (a.add (i * 2)) = some (.bool r.neg) ∧ w.cell? ((a.add (i * 2)).add 1) = some mv ∧ RdW w mv r.n r.f) ∧ r.n ≤ B := fun i hi => by
      obtain ⟨cs', h1, h2⟩ := hc i (by omega)
      obtain ⟨-, hcl, hat⟩ := World.cells?_some h1
      obtain ⟨y0, y1, n2, hx, -, g0, g1⟩ := trod_struct2 Try.underlying56 h2
      match cs', hcl with
      | [c0, c1], _ =>
        have q0 := hat 0 (by omega)
        have q1 := hat 1 (by omega)
        have hcb : Try.prog.cellsOf 4 = 1 := by kernel_rfl
        have hcw : Try.prog.cellsOf 54 = 1 := by kernel_rfl
        have g0 : DataW.trod enc Try.prog w base spare held n2 4 (List.take (Try.prog.cellsOf 4) [c0, c1]) = some y0 := g0
        have g1 : DataW.trod enc Try.prog w base spare held n2 54 (List.take (Try.prog.cellsOf 54) [c1]) = some y1 := g1
        rw [hcb] at g0
        rw [hcw] at g1
        have g0 : DataW.trod enc Try.prog w base spare held n2 4 [c0] = some y0 := g0
        have g1 : DataW.trod enc Try.prog w base spare held n2 54 [c1] = some y1 := g1
        obtain ⟨b, e1, -⟩ := DataW.trod_bool Try.underlying4 g0
        have e2 : c0 = .bool b := by simpa using e1
        have hpi := hpb i hi
        have e3 : D i = .agg [y0.1, y1.1] := congrArg Prod.fst hx
        rw [e3] at hpi
        simp only [Rows.uptoBulk, Rows.uptoBulkAll] at hpi
        obtain ⟨mm, f, hw, hmb⟩ := open_words (B := B) g1 (by omega) hB4
        refine ⟨⟨b, mm, f⟩, ⟨c1, ?_, q1, hw⟩, hmb⟩
        rw [← e2]; exact q0
    obtain ⟨x, hx⟩ := choose_lt (α := Raw) (h := hv)
    refine ⟨len, x, ⟨some a, cap, rfl, hl, by omega, fun h0 => ?_⟩, hlb, fun i hi => (hx i hi).2⟩
    obtain ⟨b, o, sp⟩ := a
    obtain ⟨⟨m0, c0, -⟩, -⟩ := hx 0 h0
    obtain rfl : sp = none := by simpa [Addr.add] using World.cell?_spot c0
    refine ⟨b, o, rfl, fun i hi => ?_⟩
    obtain ⟨⟨mi, k0, k1, k2⟩, -⟩ := hx i hi
    refine ⟨mi, ?_, ?_, k2⟩
    · rw [add_none] at k0; exact k0
    · rw [Go.Deep.add_add, add_none] at k1; exact k1

set_option maxRecDepth 100000 in
/-- an argument that is a matrix -/
theorem open_mat {r : Reach} {b0 : Nat} {v : Value} {d : DataW H} {p : List MemPlace} {B : Nat} (hv : Value.okWide Try.prog w r b0 34 v) (h : DataW.Trod enc Try.prog w base spare held 34 v d p) (hB : Rows.uptoBulk d ≤ B) (hB4 : B ≤ 4398046511104) :
    ∃ (R C : Int) (s : Value) (n : Nat) (x : Nat → Raw), v = .agg #[.int .i64 R, .int .i64 C, s] ∧ RdL w s n x ∧ n ≤ B ∧ (∀ i, i < n → (x i).n ≤ B) ∧ (-9223372036854775808 ≤ R ∧ R ≤ 9223372036854775807) ∧ (-9223372036854775808 ≤ C ∧ C ≤ 9223372036854775807) := by
  obtain ⟨v0, v1, v2, y0, y1, y2, n, rfl, rfl, -, g0, g1, g2⟩ := open_agg3 Try.underlying34 (by kernel_rfl) (by kernel_rfl) hv h
  obtain ⟨R, e0, -, w0⟩ := DataW.trod_int Try.underlying3 g0
  obtain ⟨C, e1, -, w1⟩ := DataW.trod_int Try.underlying3 g1
  obtain rfl : v0 = .int .i64 R := by simpa using e0
  obtain rfl : v1 = .int .i64 C := by simpa using e1
  simp only [Rows.uptoBulk, Rows.uptoBulkAll] at hB
  obtain ⟨m, x, hr, h1, h2⟩ := open_list (B := B) g2 (by omega) hB4
  refine ⟨R, C, v2, m, x, rfl, hr, h1, h2, ?_, ?_⟩
  · simp [Lit.wf, IntKind.min, IntKind.max, IntKind.signed, IntKind.bits] at w0; omega
  · simp [Lit.wf, IntKind.min, IntKind.max, IntKind.signed, IntKind.bits] at w1; omega
end
end Go.Proofs.Ytdlpemmoobbgnaa

namespace Go.Proofs.Ytdlpemmoobbgnaa
open Go.RowKit Go.WideShapes Go.ChangeShapes
section
variable {H : Type} {enc : TypeId × Value → H} {P : Program}
theorem post_of_below {f : Func} {s : ChangeSpec} {apart fresh handsOn again : Bool} {W W' : World} {args : Array Value} {v : Value} {ds gs : List (DataW H)} {before pa pv : List MemPlace}
    (hW : DataW.Whole enc P f.params.toList s.vars apart W args.toList ds gs before)
    (hres : ∀ (b : Nat) (sp : Nat → Bool) (hd : Bool), DataW.TrodAll enc P W' b sp hd f.resultTypes.toList (v.resultList f.resultTypes.size) (s.fn H (ds ++ gs)).results [])
    (hargs : ∀ sp : Nat → Bool, (∀ p ∈ before, sp p.block = true) → DataW.TrodAll enc P W' 0 sp true f.params.toList args.toList (s.fn H (ds ++ gs)).args pa)
    (hvars : ∀ sp : Nat → Bool, (∀ p ∈ before, sp p.block = true) → DataW.TrodVars enc P W' sp s.vars (s.fn H (ds ++ gs)).vars pv)
    (hps : before = pa ++ pv) (hb : Below W.heap.size W W')
    (hok : ∀ (j : Nat) (t : TypeId) (r : Value), f.resultTypes[j]? = some t → (v.resultList f.resultTypes.size)[j]? = some r → Value.okWide P W' .any 0 t r) :
    s.post enc P f apart fresh handsOn again W args v W' := by
  have hlt : ∀ p ∈ before, p.block < W.heap.size := fun p hp => hW.lt p hp
  have hold : ∀ p ∈ before, (fun b => decide (b < W.heap.size)) p.block = true := fun p hp => by simpa using hlt p hp
  refine ⟨ds, gs, before, [], pa, pv, hW, hres _ _ _, hargs _ hold, hvars _ hold, World.keptBut_mono (fun p hp => ⟨hp, ?_⟩) (hb.frame (· ∈ before)), fun _ => ?_⟩
  · rw [hps, List.mem_append] at hp
    exact Or.inr hp
  · obtain ⟨_, _, _, _, _, hz, hn⟩ := hW
    refine ⟨hok, _, _, ([] ++ pa) ++ pv, ⟨[] ++ pa, pv, trodAll_append (hargs _ (fun _ _ => rfl)) (hres _ _ _), hvars _ (fun _ _ => rfl), rfl, ?_, ?_⟩, ?_⟩
    · intro b off hp
      have hin : MemPlace.cell b off ∈ before := by rw [hps]; simpa using hp
      rw [hb.frozen (hlt _ hin)]
      exact hz b off hin
    · intro ha
      have := hn ha
      rw [hps] at this
      simpa using this
    · intro p hp _
      rw [hps]
      simpa using hp
end
end Go.Proofs.Ytdlpemmoobbgnaa

namespace Go.Proofs.Ytdlpemmoobbgnaa
open laF

theorem ph_dotZ {q : Nat} [NeZero q] (f g : Nat → Int) : ∀ n, (ph (dotZ f g n) : Fin q) = sm n (fun k => ph (f k) * ph (g k))
  | 0 => ph_zero
  | n + 1 => by
    show ph (f n * g n + dotZ f g n) = sm n _ + _
    rw [ph_add, ph_mul, ph_dotZ f g n]; grind

theorem sm_assoc {q : Nat} [NeZero q] {m n : Nat} (a b : Nat → Fin q) (U : Nat → Nat → Fin q) : sm m (fun i => sm n (fun t => a t * U t i) * b i) = sm n (fun t => a t * sm m (fun i => U t i * b i)) := by
  rw [sm_congr (g := fun i => sm n (fun t => a t * (U t i * b i))) (fun i _ => by rw [← sm_mul_r]; exact sm_congr fun t _ => by grind), sm_comm]
  exact sm_congr fun t _ => sm_mul _ _ _

theorem prime_nat {p : Int} (hp : primeB p = true) : ∃ q : Nat, p = q ∧ isPB q = true ∧ NeZero q := by
  obtain ⟨h0, h1⟩ := primeB_bd hp
  obtain ⟨q, rfl⟩ := Int.eq_ofNat_of_zero_le (show 0 ≤ p by omega)
  refine ⟨q, rfl, ?_, ⟨by omega⟩⟩
  unfold primeB at hp
  simp only [Bool.and_eq_true, decide_eq_true_eq] at hp
  have := hp.2
  rwa [Int.toNat_natCast] at this

section
variable {R C : Nat} {xa xu xua : Nat → Raw}

theorem ph_ua {q : Nat} [NeZero q] (hq : 1 ≤ q) (hua : ∀ t, t < R * C → (xua t).val = mulF (fun t => (xu t).val) (fun t => (xa t).val) R C t) {i j : Nat} (hi : i < R) (hj : j < C) :
    (ph (xua (i * C + j)).val : Fin q) = sm R (fun k => phG q (resG q R xu) i k * phG q (resG q C xa) k j) := by
  rw [hua _ (prod_lt hi hj), ← mulF_at hj, ph_dotZ]
  exact sm_congr fun k _ => by rw [phG_resG hq, phG_resG hq]

theorem same_ech {p : Int} (hp : primeB p = true) (hua : ∀ t, t < R * C → (xua t).val = mulF (fun t => (xu t).val) (fun t => (xa t).val) R C t) (hd : detM p R xu ≠ 0) :
    ∀ t, t < R * C → (redS p R C (resG p C xa) C).G (t / C) (t % C) = (redS p R C (resG p C xua) C).G (t / C) (t % C) := by
  obtain ⟨q, rfl, hq, hz⟩ := prime_nat hp
  have h2 := isPB_ge q hq
  have hr : ¬ (redS q R R (resG q R xu) R).P.length < R := fun h => hd (by unfold detM; rw [if_pos h])
  have hs : SpanEq R C (phG q (resG q C xa)) (phG q (resG q C xua)) :=
    (inv_span (full_inv hq (resG_res q (by omega) R R R xu) hr)).trans (SpanEq.rows fun i j hi hj => by
      rw [phG_resG (by omega) C xua, ph_ua (by omega) hua hi hj])
  intro t ht
  obtain ⟨g1, g2⟩ := mul_idx (K := C) ht
  exact (redS_eq hq (resG_res q (by omega) R C C xa) (resG_res q (by omega) R C C xua) hs).2 _ _ g1 g2

theorem same_ker {p : Int} (hp : primeB p = true) (hua : ∀ t, t < R * C → (xua t).val = mulF (fun t => (xu t).val) (fun t => (xa t).val) R C t) :
    ∀ t, t < (R - kerR p R C xua) * C → mulF (mulF (fun t => (kerS p R C xua).G (t / R) (t % R)) (fun t => (xu t).val) R R) (fun t => (xa t).val) R C t % p = 0 := by
  obtain ⟨q, rfl, hq, hz⟩ := prime_nat hp
  have h2 := isPB_ge q hq
  intro t ht
  obtain ⟨g1, g2⟩ := mul_idx (K := C) ht
  refine ph_zero_iff.1 ?_
  show (ph (dotZ _ _ R) : Fin q) = 0
  rw [ph_dotZ]
  have h3 := kerS_zero hq (x := xua) g1 g2
  rw [sm_congr (g := fun t' => ph ((kerS q R C xua).G (t / C) t') * sm R (fun k => phG q (resG q R xu) t' k * phG q (resG q C xa) k (t % C))) (fun t' ht' => by rw [ph_ua (by omega) hua ht' g2]), ← sm_assoc] at h3
  refine Eq.trans (sm_congr fun i hi => ?_) h3
  rw [← mulF_at hi, ph_dotZ, phG_resG (by omega)]
  refine congrArg (fun z => z * (ph (xa (i * C + t % C)).val : Fin q)) (sm_congr fun k hk => ?_)
  obtain ⟨e1, e2⟩ := div_mod_lt (j := t / C) hk
  rw [e1, e2, phG_resG (by omega)]
end
end Go.Proofs.Ytdlpemmoobbgnaa
