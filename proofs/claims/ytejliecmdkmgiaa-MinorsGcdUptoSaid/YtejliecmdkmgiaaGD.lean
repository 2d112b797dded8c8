import Derived.Test.YtejliecmdkmgiaaGC
import Derived.Test.YtejliecmdkmgiaaGA
import Derived.Deep.RegionWith
import Derived.Deep.RegionLaw
set_option linter.unusedVariables false
set_option linter.unusedSimpArgs false
set_option maxHeartbeats 8000000
set_option maxRecDepth 100000
namespace Go.Proofs.Ytejliecmdkmgiaa
open Go.RowKit
theorem boxes2 (w : World) (a0 a1 b0 b1 : Value) (t : TypeId) :
    let W := (w.alloc (.cells #[a0, a1] t)).alloc (.cells #[b0, b1] t)
    (W.cell? ⟨w.heap.size, 0, none⟩ = some a0 ∧ W.cell? ⟨w.heap.size, 1, none⟩ = some a1 ∧ W.cell? ⟨w.heap.size + 1, 0, none⟩ = some b0 ∧ W.cell? ⟨w.heap.size + 1, 1, none⟩ = some b1 ∧ W.frozen? ⟨w.heap.size + 1, 0, none⟩ = false ∧ W.frozen? ⟨w.heap.size + 1, 1, none⟩ = false) ∧
    Below w.heap.size w W ∧ W.heap.size = w.heap.size + 2 := by
  intro W
  obtain ⟨w1, h1⟩ : ∃ w1, w1 = w.alloc (.cells #[a0, a1] t) := ⟨_, rfl⟩
  have hW : W = w1.alloc (.cells #[b0, b1] t) := by rw [h1]
  have s1 : w1.heap.size = w.heap.size + 1 := by rw [h1]; simp
  have b1' : Below w.heap.size w w1 := by rw [h1]; exact (Below.refl _ _).alloc (Nat.le_refl _) _
  have b2 : Below w1.heap.size w1 W := by rw [hW]; exact (Below.refl _ _).alloc (Nat.le_refl _) _
  have k1 := cells2 w a0 a1 t
  have k2 := cells2 w1 b0 b1 t
  rw [← h1] at k1
  rw [← hW, s1] at k2
  have sW : W.heap.size = w.heap.size + 2 := by rw [hW]; simp [s1]
  clear_value W
  exact ⟨⟨cell_stays b2 (k1 0 _ rfl).1, cell_stays b2 (k1 1 _ rfl).1, (k2 0 _ rfl).1, (k2 1 _ rfl).1, (k2 0 _ rfl).2, (k2 1 _ rfl).2⟩, b1'.trans (b2.mono (by omega)), sW⟩
theorem frz_of {w : World} {base : Nat} {a : Option Addr} {n c : Nat} {f : Nat → Int} {N : Int} (h1 : FrA .u64 62 w base (.slice a n c) n f) (h2 : Dig 18446744073709551616 n f N) (s : Bool) :
    FrZ w base (.agg #[.bool (s && decide (0 < n)), .slice a n c]) (if s then -N else N) := by
  have hN := h2.nonneg (by omega)
  have hz := h2.zero_iff (by omega)
  refine ⟨_, n, f, ?_, h1, ?_⟩
  · cases s with
    | false => simp; omega
    | true =>
      have : decide (0 < n) = decide (-N < 0) := by rw [decide_eq_decide]; omega
      simp [this]
  · cases s with
    | false => simp; rw [Int.natAbs_of_nonneg hN]; exact h2
    | true => simp; rw [Int.natAbs_of_nonneg hN]; exact h2
theorem zfin {w W w4 : World} {b : Nat} {a : Option Addr} {n c : Nat} {f : Nat → Int} {N z : Int} {s : Bool} (HB : Below w.heap.size w W) (h0 : w.heap.size ≤ b) (hb1 : b + 1 ≤ W.heap.size) (hbW : Below W.heap.size W w4)
    (h1 : FrA .u64 62 w4 W.heap.size (.slice a n c) n f) (h2 : Dig 18446744073709551616 n f N) (hz : z = if s then -N else N) :
    FrZ ((w4.setCell ⟨b, 0, none⟩ (.bool (s && decide (0 < n)))).setCell ⟨b, 1, none⟩ (.slice a n c)) w.heap.size (.agg #[.bool (s && decide (0 < n)), .slice a n c]) z ∧
      Below w.heap.size w ((w4.setCell ⟨b, 0, none⟩ (.bool (s && decide (0 < n)))).setCell ⟨b, 1, none⟩ (.slice a n c)) := by
  have hf := frz_of (stored2_fr (h1.mono hb1) (.bool (s && decide (0 < n))) (.slice a n c)) h2 s
  rw [← hz] at hf
  exact ⟨hf.mono h0, (HB.trans (hbW.mono HB.size)).grown (stored2_gb w4 b _ _) (by have := HB.size; have := hbW.size; omega) (fun k hk => by injection hk with hk; omega)⟩
theorem zLeast_any (x : Value) (a : Int) (w : World) (hx : RdZ w x a) :
    Calls Try.prog 96 #[x] w fun e w' => ∃ v, e = .returned v ∧ FrZ w' w.heap.size v a ∧ Below w.heap.size w w' := by
  obtain ⟨r, ⟨m, rfl, hr⟩, rfl, hrn⟩ := hx
  obtain ⟨am, cm, rfl, -⟩ := hr.1
  obtain ⟨⟨x0, x1, z0, z1, z2, z3⟩, hb, hsz⟩ := boxes2 w (.bool r.neg) (.slice am r.n cm) (.bool false) (.slice none 0 0) 49
  have hl := fun (u : World) (hu : Below ((w.alloc (.cells #[.bool r.neg, .slice am r.n cm] 49)).alloc (.cells #[.bool false, .slice none 0 0] 49)).heap.size ((w.alloc (.cells #[.bool r.neg, .slice am r.n cm] 49)).alloc (.cells #[.bool false, .slice none 0 0] 49)) u) => natLeast_fr _ r.n r.f u ((hr.below hb).below hu)
  have HL := Lib.hid hl
  have HB := Lib.hid hb
  have HSZ := Lib.hid hsz
  have hval : r.val = if r.neg then - natFrom r.f 0 r.n else natFrom r.f 0 r.n := rfl
  have HV := Lib.hid hval
  clear hl hb hsz hval hr
  go_enter Try.func96, Try.ntmps96
  go_wp2_with fail
  generalize (w.alloc (.cells #[.bool r.neg, .slice am r.n cm] 49)).alloc (.cells #[.bool false, .slice none 0 0] 49) = W at *
  go_region_held3 (fun w' => w'.cell? ⟨w.heap.size, 0, none⟩ = some (.bool r.neg) ∧ w'.cell? ⟨w.heap.size, 1, none⟩ = some (.slice am r.n cm))
    (first
      | go_keep
      | exact ⟨cell_stays hb3 x0, cell_stays hb3 x1⟩
      | exact ⟨cell_stays hb4 (cell_stays hb3 x0), cell_stays hb4 (cell_stays hb3 x1)⟩)
    (first
      | (go_at_call 107; (first | (with_reducible refine (HL.out W (Below.refl _ _)).mono ?_) | (with_reducible refine (HL.out W.drew (Below.refl _ _).drew).mono ?_)); rintro e w3 ⟨v3, rfl, hfn, hb3⟩
         obtain ⟨a3, n3, c3, f3, rfl, h1, h2⟩ := hfn.nat
         have hb3 : Below W.heap.size W w3 := by first | exact hb3 | exact below_drew hb3
         have H1 := Lib.hid h1
         have H2 := Lib.hid h2
         clear hfn h1 h2)
      | (go_at_call 106; (with_reducible refine (zof_any r.neg a3 n3 c3 _).mono ?_); rintro e w4 ⟨rfl, hb4⟩
         have y0 := cell_stays hb4 (cell_stays hb3 z0)
         have y1 := cell_stays hb4 (cell_stays hb3 z1)
         have y2 := froz_stays hb4 (cell_stays hb3 z0) (froz_stays hb3 z0 z2)
         have y3 := froz_stays hb4 (cell_stays hb3 z1) (froz_stays hb3 z1 z3)))
  all_goals
    go_wp2_with fail
    obtain ⟨f1, f2⟩ := zfin (b := w.heap.size + 1) HB.out (by omega) (by have := HSZ.out; omega) (hb3.trans (hb4.mono hb3.size)) (H1.out.below hb4) H2.out HV.out
    refine bodyPost_ret (v := .agg #[.bool (r.neg && decide (0 < n3)), .slice a3 n3 c3]) ?_ rfl ⟨_, rfl, f1, f2⟩
    simp [results, Try.results96, go_sem, y0, y1]
theorem zNeg_any (x : Value) (a : Int) (w : World) (hx : RdZ w x a) :
    Calls Try.prog 90 #[x] w fun e w' => ∃ v, e = .returned v ∧ FrZ w' w.heap.size v (-a) ∧ Below w.heap.size w w' := by
  obtain ⟨r, ⟨m, rfl, hr⟩, rfl, hrn⟩ := hx
  obtain ⟨am, cm, rfl, -⟩ := hr.1
  obtain ⟨⟨x0, x1, z0, z1, z2, z3⟩, hb, hsz⟩ := boxes2 w (.bool r.neg) (.slice am r.n cm) (.bool false) (.slice none 0 0) 49
  have hl := fun (u : World) (hu : Below ((w.alloc (.cells #[.bool r.neg, .slice am r.n cm] 49)).alloc (.cells #[.bool false, .slice none 0 0] 49)).heap.size ((w.alloc (.cells #[.bool r.neg, .slice am r.n cm] 49)).alloc (.cells #[.bool false, .slice none 0 0] 49)) u) => natLeast_fr _ r.n r.f u ((hr.below hb).below hu)
  have HL := Lib.hid hl
  have HB := Lib.hid hb
  have HSZ := Lib.hid hsz
  have hval : -r.val = if (!r.neg) then - natFrom r.f 0 r.n else natFrom r.f 0 r.n := by
    show -(if r.neg then - natFrom r.f 0 r.n else natFrom r.f 0 r.n) = _
    cases r.neg <;> simp
  have HV := Lib.hid hval
  clear hl hb hsz hval hr
  go_enter Try.func90, Try.ntmps90
  go_wp2_with fail
  generalize (w.alloc (.cells #[.bool r.neg, .slice am r.n cm] 49)).alloc (.cells #[.bool false, .slice none 0 0] 49) = W at *
  go_region_held3 (fun w' => w'.cell? ⟨w.heap.size, 0, none⟩ = some (.bool r.neg) ∧ w'.cell? ⟨w.heap.size, 1, none⟩ = some (.slice am r.n cm))
    (first
      | go_keep
      | exact ⟨cell_stays hb3 x0, cell_stays hb3 x1⟩
      | exact ⟨cell_stays hb4 (cell_stays hb3 x0), cell_stays hb4 (cell_stays hb3 x1)⟩)
    (first
      | (go_at_call 107; (first | (with_reducible refine (HL.out W (Below.refl _ _)).mono ?_) | (with_reducible refine (HL.out W.drew (Below.refl _ _).drew).mono ?_)); rintro e w3 ⟨v3, rfl, hfn, hb3⟩
         obtain ⟨a3, n3, c3, f3, rfl, h1, h2⟩ := hfn.nat
         have hb3 : Below W.heap.size W w3 := by first | exact hb3 | exact below_drew hb3
         have H1 := Lib.hid h1
         have H2 := Lib.hid h2
         clear hfn h1 h2)
      | (go_at_call 106; (with_reducible refine (zof_any (!r.neg) a3 n3 c3 _).mono ?_); rintro e w4 ⟨rfl, hb4⟩
         have y0 := cell_stays hb4 (cell_stays hb3 z0)
         have y1 := cell_stays hb4 (cell_stays hb3 z1)
         have y2 := froz_stays hb4 (cell_stays hb3 z0) (froz_stays hb3 z0 z2)
         have y3 := froz_stays hb4 (cell_stays hb3 z1) (froz_stays hb3 z1 z3)))
  all_goals
    go_wp2_with fail
    obtain ⟨f1, f2⟩ := zfin (b := w.heap.size + 1) HB.out (by omega) (by have := HSZ.out; omega) (hb3.trans (hb4.mono hb3.size)) (H1.out.below hb4) H2.out HV.out
    refine bodyPost_ret (v := .agg #[.bool (!r.neg && decide (0 < n3)), .slice a3 n3 c3]) ?_ rfl ⟨_, rfl, f1, f2⟩
    simp [results, Try.results90, go_sem, y0, y1]
def sgZ (a : Int) : Int := if a = 0 then 0 else if a < 0 then -1 else 1
theorem zSign_any (x : Value) (a : Int) (w : World) (hx : RdZ w x a) :
    Calls Try.prog 39 #[x] w fun e w' => e = .returned (.int .i64 (sgZ a)) ∧ Below w.heap.size w w' := by
  obtain ⟨r, ⟨m, rfl, hr⟩, rfl, hrn⟩ := hx
  obtain ⟨am, cm, rfl, -⟩ := hr.1
  obtain ⟨x0, x1, -, -⟩ := two_cells w (.bool r.neg) (.slice am r.n cm) 49
  have hb : Below w.heap.size w (w.alloc (.cells #[.bool r.neg, .slice am r.n cm] 49)) := (Below.refl _ _).alloc (Nat.le_refl _) _
  have hl := natBitLen_any _ r.n r.f _ (hr.below hb)
  have hN := (natFrom_bd hr.2).1
  have hval : r.val = if r.neg then - natFrom r.f 0 r.n else natFrom r.f 0 r.n := rfl
  generalize natFrom r.f 0 r.n = N at *
  have HL := Lib.hid hl
  have HB := Lib.hid hb
  have HV := Lib.hid hval
  clear hl hb hval hr
  go_enter Try.func39, Try.ntmps39
  go_wp2_with fail
  generalize w.alloc (.cells #[.bool r.neg, .slice am r.n cm] 49) = W at *
  (refine HL.out.mono ?_)
  rintro e w1 ⟨L, rfl, l0, l1, rfl⟩
  clear HL
  by_cases hz : L = 0
  · have hzb : (L == 0) = true := beq_iff_eq.2 hz
    have hs : Hid (sgZ r.val = 0) := by
      have h0 := l1.1 hz
      show _ = _
      rw [HV.out, h0]; cases r.neg <;> rfl
    clear hz l1
    go_wp2_with fail
    go_ret
    exact ⟨ret_i64 hs.out.symm, HB.out⟩
  · have hzb : (L == 0) = false := beq_eq_false_iff_ne.2 hz
    have hNp : 0 < N := by have := fun e => hz (l1.2 e); omega
    cases hn : r.neg with
    | true =>
      rw [hn] at x0
      have hs : Hid (sgZ r.val = -1) := by
        show _ = _
        rw [HV.out, hn]; show sgZ (-N) = -1; unfold sgZ; rw [if_neg (by omega), if_pos (by omega)]
      clear hz l1 hNp hn
      go_wp2_with fail
      go_ret
      exact ⟨ret_i64 hs.out.symm, HB.out⟩
    | false =>
      rw [hn] at x0
      have hs : Hid (sgZ r.val = 1) := by
        show _ = _
        rw [HV.out, hn]; show sgZ N = 1; unfold sgZ; rw [if_neg (by omega), if_neg (by omega)]
      clear hz l1 hNp hn
      go_wp2_with fail
      go_ret
      exact ⟨ret_i64 hs.out.symm, HB.out⟩
theorem cmp_signs {a b : Int} : (sgZ a < sgZ b → cmpZ a b = -1) ∧ (sgZ b < sgZ a → cmpZ a b = 1) ∧ (sgZ a = sgZ b → sgZ a * cmpZ a.natAbs b.natAbs = cmpZ a b) := by
  unfold sgZ cmpZ
  refine ⟨fun h => ?_, fun h => ?_, fun h => ?_⟩ <;> (repeat' split at *) <;> omega
theorem zCmp_any (x y : Value) (a b : Int) (w : World) (hx : RdZ w x a) (hy : RdZ w y b) :
    Calls Try.prog 35 #[x, y] w fun e w' => e = .returned (.int .i64 (cmpZ a b)) ∧ Below w.heap.size w w' := by
  have hx0 := hx
  have hy0 := hy
  obtain ⟨r, ⟨m, rfl, hr⟩, rfl, hrn⟩ := hx
  obtain ⟨s, ⟨l, rfl, hs⟩, rfl, hsn⟩ := hy
  obtain ⟨am, cm, rfl, -⟩ := hr.1
  obtain ⟨al, cl, rfl, -⟩ := hs.1
  obtain ⟨⟨x0, x1, y0, y1, -, -⟩, hb, hsz⟩ := boxes2 w (.bool r.neg) (.slice am r.n cm) (.bool s.neg) (.slice al s.n cl) 49
  have h1 := fun (u : World) (hu : Below w.heap.size w u) => zSign_any _ _ u (hx0.below hu)
  have h2 := fun (u : World) (hu : Below w.heap.size w u) => zSign_any _ _ u (hy0.below hu)
  have h3 := fun (u : World) (hu : Below w.heap.size w u) => natCmp_any _ _ r.n s.n r.f s.f u (hr.below hu) (hs.below hu)
  have e1 : natFrom r.f 0 r.n = (r.val.natAbs : Int) := by
    have := (natFrom_bd hr.2).1
    show _ = ((if r.neg then - natFrom r.f 0 r.n else natFrom r.f 0 r.n).natAbs : Int)
    split <;> omega
  have e2 : natFrom s.f 0 s.n = (s.val.natAbs : Int) := by
    have := (natFrom_bd hs.2).1
    show _ = ((if s.neg then - natFrom s.f 0 s.n else natFrom s.f 0 s.n).natAbs : Int)
    split <;> omega
  rw [e1, e2] at h3
  obtain ⟨q1, q2, q3⟩ := cmp_signs (a := r.val) (b := s.val)
  have hsa : -1 ≤ sgZ r.val ∧ sgZ r.val ≤ 1 := by unfold sgZ; (repeat' split) <;> omega
  have hcc : -1 ≤ cmpZ r.val.natAbs s.val.natAbs ∧ cmpZ r.val.natAbs s.val.natAbs ≤ 1 := by unfold cmpZ; (repeat' split) <;> omega
  generalize r.val = A at *
  generalize s.val = B at *
  generalize cmpZ A.natAbs B.natAbs = cc at *
  generalize cmpZ A B = CC at *
  generalize sgZ A = sa at *
  generalize sgZ B = sb at *
  have H1 := Lib.hid h1
  have H2 := Lib.hid h2
  have H3 := Lib.hid h3
  have HB := Lib.hid hb
  clear h1 h2 h3 e1 e2 hb hx0 hy0 hr hs
  go_enter Try.func35, Try.ntmps35
  go_upto_region 1 with fail
  generalize (w.alloc (.cells #[.bool r.neg, .slice am r.n cm] 49)).alloc (.cells #[.bool s.neg, .slice al s.n cl] 49) = W at *
  go_cut [5, 6] (fun va vb wx => va = .int .i64 sa ∧ vb = .int .i64 sb ∧ Below W.heap.size W wx)
  case first =>
    go_region_held3 (fun w' => w'.cell? ⟨w.heap.size, 0, none⟩ = some (.bool r.neg) ∧ w'.cell? ⟨w.heap.size, 1, none⟩ = some (.slice am r.n cm) ∧ w'.cell? ⟨w.heap.size + 1, 0, none⟩ = some (.bool s.neg) ∧ w'.cell? ⟨w.heap.size + 1, 1, none⟩ = some (.slice al s.n cl))
      (first
        | go_keep
        | exact ⟨cell_stays hb3 x0, cell_stays hb3 x1, cell_stays hb3 y0, cell_stays hb3 y1⟩
        | exact ⟨cell_stays hb4 x0, cell_stays hb4 x1, cell_stays hb4 y0, cell_stays hb4 y1⟩)
      (first
        | (go_at_call 39; (with_reducible refine (H1.out W HB.out).mono ?_); rintro e w3 ⟨rfl, hb3a⟩; have hb3 : Below W.heap.size W w3 := hb3a)
        | (go_at_call 39; (with_reducible refine (H1.out W.drew HB.out.drew).mono ?_); rintro e w3 ⟨rfl, hb3a⟩; have hb3 : Below W.heap.size W w3 := below_drew hb3a)
        | (go_at_call 39; (with_reducible refine (H2.out _ (HB.out.trans (hb3.mono HB.out.size))).mono ?_); rintro e w4 ⟨rfl, hb4a⟩; have hb4 : Below W.heap.size W w4 := hb3.trans (hb4a.mono hb3.size)))
    all_goals
      go_wp2_with fail
      go_meet
      first
        | exact ⟨rfl, rfl, hb4⟩
        | exact ⟨rfl, rfl, hb4.drew⟩
  case rest =>
    obtain ⟨rfl, rfl, hbx⟩ := hcut
    have HBX := Lib.hid (HB.out.trans (hbx.mono HB.out.size))
    have k0 := cell_stays hbx x1
    have k1 := cell_stays hbx y1
    clear x0 x1 y0 y1 hbx
    by_cases hne : sa = sb
    · have hnb : (sa != sb) = false := by simp [hne]
      have hv : Hid (sa * cc = CC) := q3 hne
      have HC := Lib.hid (H3.out wc HBX.out)
      have hm : -1 ≤ sa * cc ∧ sa * cc ≤ 1 := by
        rcases (by omega : sa = -1 ∨ sa = 0 ∨ sa = 1) with h | h | h <;> rw [h] <;> omega
      clear hne q1 q2 q3 H1 H2 H3
      go_wp2_with fail
      (refine HC.out.mono ?_)
      rintro e w5 ⟨rfl, hb5⟩
      have HB5 := Lib.hid (HBX.out.trans (hb5.mono HBX.out.size))
      clear hb5 HC k0 k1
      go_wp2_with fail
      go_ret
      exact ⟨ret_i64 hv.out, HB5.out⟩
    · have hnb : (sa != sb) = true := by rw [bne_iff_ne]; exact hne
      by_cases hlt : sa < sb
      · have hv : Hid (CC = -1) := q1 hlt
        clear hne q1 q2 q3 H1 H2 H3
        go_wp2_with fail
        go_ret
        exact ⟨ret_i64 hv.out.symm, HBX.out⟩
      · have hv : Hid (CC = 1) := q2 (by omega)
        clear hne q1 q2 q3 H1 H2 H3
        go_wp2_with fail
        go_ret
        exact ⟨ret_i64 hv.out.symm, HBX.out⟩
end Go.Proofs.Ytejliecmdkmgiaa
namespace Go.Proofs.Ytejliecmdkmgiaa
open Go.RowKit
theorem boxes3' (w : World) (a0 a1 b0 b1 c0 c1 : Value) (t : TypeId) :
    let W := ((w.alloc (.cells #[a0, a1] t)).alloc (.cells #[b0, b1] t)).alloc (.cells #[c0, c1] t)
    ((W.cell? ⟨w.heap.size, 0, none⟩ = some a0 ∧ W.cell? ⟨w.heap.size, 1, none⟩ = some a1 ∧ W.cell? ⟨w.heap.size + 1, 0, none⟩ = some b0 ∧ W.cell? ⟨w.heap.size + 1, 1, none⟩ = some b1) ∧
      (W.frozen? ⟨w.heap.size, 0, none⟩ = false ∧ W.frozen? ⟨w.heap.size, 1, none⟩ = false ∧ W.frozen? ⟨w.heap.size + 1, 0, none⟩ = false ∧ W.frozen? ⟨w.heap.size + 1, 1, none⟩ = false) ∧
      W.cell? ⟨w.heap.size + 1 + 1, 0, none⟩ = some c0 ∧ W.cell? ⟨w.heap.size + 1 + 1, 1, none⟩ = some c1 ∧ W.frozen? ⟨w.heap.size + 1 + 1, 0, none⟩ = false ∧ W.frozen? ⟨w.heap.size + 1 + 1, 1, none⟩ = false) ∧
    Below w.heap.size w W ∧ W.heap.size = w.heap.size + 3 := by
  intro W
  obtain ⟨⟨x0, x1, y0, y1, y2, y3⟩, hb, hs⟩ := boxes2 w a0 a1 b0 b1 t
  obtain ⟨w2, h2⟩ : ∃ w2, w2 = (w.alloc (.cells #[a0, a1] t)).alloc (.cells #[b0, b1] t) := ⟨_, rfl⟩
  have hW : W = w2.alloc (.cells #[c0, c1] t) := by rw [h2]
  rw [← h2] at x0 x1 y0 y1 y2 y3 hb hs
  have k0 := cells2 w a0 a1 t
  have bq : Below (w.alloc (.cells #[a0, a1] t)).heap.size (w.alloc (.cells #[a0, a1] t)) w2 := by rw [h2]; exact (Below.refl _ _).alloc (Nat.le_refl _) _
  have x2 := froz_stays bq (k0 0 _ rfl).1 (k0 0 _ rfl).2
  have x3 := froz_stays bq (k0 1 _ rfl).1 (k0 1 _ rfl).2
  have b3 : Below w2.heap.size w2 W := by rw [hW]; exact (Below.refl _ _).alloc (Nat.le_refl _) _
  have k3 := cells2 w2 c0 c1 t
  rw [← hW, hs] at k3
  have sW : W.heap.size = w.heap.size + 3 := by rw [hW]; simp [hs]
  clear_value W
  exact ⟨⟨⟨cell_stays b3 x0, cell_stays b3 x1, cell_stays b3 y0, cell_stays b3 y1⟩, ⟨froz_stays b3 x0 x2, froz_stays b3 x1 x3, froz_stays b3 y0 y2, froz_stays b3 y1 y3⟩, (k3 0 _ rfl).1, (k3 1 _ rfl).1, (k3 0 _ rfl).2, (k3 1 _ rfl).2⟩, hb.trans (b3.mono (by omega)), sW⟩
theorem two_far {W : World} {q b o : Nat} {v x0 x1 : Value} (h : W.cell? ⟨b, o, none⟩ = some v) (hne : b ≠ q) : ((W.setCell ⟨q, 0, none⟩ x0).setCell ⟨q, 1, none⟩ x1).cell? ⟨b, o, none⟩ = some v :=
  (stored2_gb W q x0 x1).cell h (fun e => hne (Option.some.inj e))
theorem two_own {W : World} {q : Nat} {v0 v1 x0 x1 : Value} (h0 : W.cell? ⟨q, 0, none⟩ = some v0) (h1 : W.cell? ⟨q, 1, none⟩ = some v1) :
    (stored2 W q x0 x1).cell? ⟨q, 0, none⟩ = some x0 ∧ (stored2 W q x0 x1).cell? ⟨q, 1, none⟩ = some x1 := by
  have ne : (⟨q, 1, none⟩ : Addr) ≠ ⟨q, 0, none⟩ := fun e => by injection e with _ e _; omega
  have ne' : (⟨q, 0, none⟩ : Addr) ≠ ⟨q, 1, none⟩ := fun e => by injection e with _ e _; omega
  refine ⟨?_, ?_⟩
  · show ((W.setCell _ _).setCell _ _).cell? _ = _
    rw [World.cell?_setCell_other _ _ _ _ ne]; exact World.cell?_setCell_same _ _ _ h0
  · refine World.cell?_setCell_same _ _ _ (u := v1) ?_
    rw [World.cell?_setCell_other _ _ _ _ ne']; exact h1
theorem RdZ.parts {w : World} {x : Value} {a : Int} (h : RdZ w x a) : ∃ (s : Bool) (am : Option Addr) (n c : Nat) (f : Nat → Int), x = .agg #[.bool s, .slice am n c] ∧ RdW w (.slice am n c) n f ∧ a = (if s then - natFrom f 0 n else natFrom f 0 n) ∧ n ≤ 274877906944 := by
  obtain ⟨r, ⟨m, rfl, hr⟩, rfl, hrn⟩ := h
  obtain ⟨am, cm, rfl, -⟩ := hr.1
  exact ⟨r.neg, am, r.n, cm, r.f, rfl, hr, rfl, hrn⟩
theorem zMul_any (x y : Value) (a b : Int) (w : World) (hx : RdZ w x a) (hy : RdZ w y b) :
    Calls Try.prog 37 #[x, y] w fun e w' => ∃ v, e = .returned v ∧ FrZ w' w.heap.size v (a * b) ∧ Below w.heap.size w w' := by
  obtain ⟨s, am, n, ca, f, rfl, hr, ha, hn⟩ := hx.parts
  obtain ⟨t, bm, m, cb, g, rfl, hs, hb, hm⟩ := hy.parts
  obtain ⟨⟨⟨x0, x1, y0, y1⟩, -, z0, z1, z2, z3⟩, hB, hsz⟩ := boxes3' w (.bool s) (.slice am n ca) (.bool t) (.slice bm m cb) (.bool false) (.slice none 0 0) 49
  have hl := fun (u : World) (hu : Below w.heap.size w u) => natMul_any _ _ n m f g u hn hm (hr.below hu) (hs.below hu)
  have hval : a * b = if (s != t) then -(natFrom f 0 n * natFrom g 0 m) else natFrom f 0 n * natFrom g 0 m := by
    rw [ha, hb]
    cases s <;> cases t <;> simp <;> grind
  generalize natFrom f 0 n * natFrom g 0 m = P at *
  have HL := Lib.hid hl
  have HB := Lib.hid hB
  have HSZ := Lib.hid hsz
  have HV := Lib.hid hval
  clear hl hB hsz hval hr hs ha hb hx hy
  go_enter Try.func37, Try.ntmps37
  go_wp2_with fail
  generalize ((w.alloc (.cells #[.bool s, .slice am n ca] 49)).alloc (.cells #[.bool t, .slice bm m cb] 49)).alloc (.cells #[.bool false, .slice none 0 0] 49) = W at *
  go_region_held3 (fun w' => w'.cell? ⟨w.heap.size, 0, none⟩ = some (.bool s) ∧ w'.cell? ⟨w.heap.size, 1, none⟩ = some (.slice am n ca) ∧ w'.cell? ⟨w.heap.size + 1, 0, none⟩ = some (.bool t) ∧ w'.cell? ⟨w.heap.size + 1, 1, none⟩ = some (.slice bm m cb))
    (first
      | exact ⟨cell_stays hb3 x0, cell_stays hb3 x1, cell_stays hb3 y0, cell_stays hb3 y1⟩
      | exact ⟨cell_stays hb4 (cell_stays hb3 x0), cell_stays hb4 (cell_stays hb3 x1), cell_stays hb4 (cell_stays hb3 y0), cell_stays hb4 (cell_stays hb3 y1)⟩
      | exact ⟨two_far (cell_stays hb4 (cell_stays hb3 x0)) (by omega), two_far (cell_stays hb4 (cell_stays hb3 x1)) (by omega), two_far (cell_stays hb4 (cell_stays hb3 y0)) (by omega), two_far (cell_stays hb4 (cell_stays hb3 y1)) (by omega)⟩
      | go_keep)
    (first
      | (go_at_call 108; (first | (with_reducible refine (HL.out W HB.out).mono ?_) | (with_reducible refine (HL.out W.drew HB.out.drew).mono ?_)); rintro e w3 ⟨v3, rfl, hfn, hb3⟩
         obtain ⟨a3, n3, c3, f3, rfl, h1, h2⟩ := hfn.nat
         have hb3 : Below W.heap.size W w3 := by first | exact hb3 | exact below_drew hb3
         have H1 := Lib.hid h1
         have H2 := Lib.hid h2
         clear hfn h1 h2)
      | (go_at_call 106; (with_reducible refine (zof_any _ a3 n3 c3 _).mono ?_); rintro e w4 ⟨rfl, hb4⟩
         have u0 := cell_stays hb4 (cell_stays hb3 z0)
         have u1 := cell_stays hb4 (cell_stays hb3 z1)
         have u2 := froz_stays hb4 (cell_stays hb3 z0) (froz_stays hb3 z0 z2)
         have u3 := froz_stays hb4 (cell_stays hb3 z1) (froz_stays hb3 z1 z3)))
  all_goals
    go_wp2_with fail
    obtain ⟨f1, f2⟩ := zfin (b := w.heap.size + 1 + 1) HB.out (by omega) (by have := HSZ.out; omega) (hb3.trans (hb4.mono hb3.size)) (H1.out.below hb4) H2.out HV.out
    refine bodyPost_ret (v := .agg #[.bool ((s != t) && decide (0 < n3)), .slice a3 n3 c3]) ?_ rfl ⟨_, rfl, f1, f2⟩
    simp [results, Try.results37, go_sem, u0, u1]
    cases s <;> cases t <;> rfl
theorem zAdd_any (x y : Value) (a b : Int) (w : World) (hx : RdZ w x a) (hy : RdZ w y b) :
    Calls Try.prog 104 #[x, y] w fun e w' => ∃ v, e = .returned v ∧ FrZ w' w.heap.size v (a + b) ∧ Below w.heap.size w w' := by
  obtain ⟨s, am, n, ca, f, rfl, hr, ha, hn⟩ := hx.parts
  obtain ⟨t, bm, m, cb, g, rfl, hs, hb, hm⟩ := hy.parts
  obtain ⟨⟨⟨x0, x1, y0, y1⟩, ⟨x2, x3, y2, y3⟩, z0, z1, z2, z3⟩, hB, hsz⟩ := boxes3' w (.bool s) (.slice am n ca) (.bool t) (.slice bm m cb) (.bool false) (.slice none 0 0) 49
  have HB := Lib.hid hB
  have HSZ := Lib.hid hsz
  by_cases hst : s = t
  · have hl := fun (u : World) (hu : Below w.heap.size w u) => natAdd_any _ _ n m f g u (by omega) (by omega) (hr.below hu) (hs.below hu)
    have hval : a + b = if s then -(natFrom f 0 n + natFrom g 0 m) else natFrom f 0 n + natFrom g 0 m := by
      rw [ha, hb, ← hst]; cases s <;> simp <;> omega
    have hbt : (s == t) = true := by simp [hst]
    generalize natFrom f 0 n + natFrom g 0 m = P at *
    have HL := Lib.hid hl
    have HV := Lib.hid hval
    clear hl hval hr hs ha hb hx hy hB hsz hst x2 x3 y2 y3
    go_enter Try.func104, Try.ntmps104
    go_wp2_with fail
    generalize ((w.alloc (.cells #[.bool s, .slice am n ca] 49)).alloc (.cells #[.bool t, .slice bm m cb] 49)).alloc (.cells #[.bool false, .slice none 0 0] 49) = W at *
    go_region_held3 (fun w' => w'.cell? ⟨w.heap.size, 0, none⟩ = some (.bool s) ∧ w'.cell? ⟨w.heap.size, 1, none⟩ = some (.slice am n ca) ∧ w'.cell? ⟨w.heap.size + 1, 1, none⟩ = some (.slice bm m cb))
      (first
        | exact ⟨cell_stays hb3 x0, cell_stays hb3 x1, cell_stays hb3 y1⟩
        | exact ⟨cell_stays hb4 (cell_stays hb3 x0), cell_stays hb4 (cell_stays hb3 x1), cell_stays hb4 (cell_stays hb3 y1)⟩
        | exact ⟨two_far (cell_stays hb4 (cell_stays hb3 x0)) (by omega), two_far (cell_stays hb4 (cell_stays hb3 x1)) (by omega), two_far (cell_stays hb4 (cell_stays hb3 y1)) (by omega)⟩
        | go_keep)
      (first
        | (go_at_call 158; (first | (with_reducible refine (HL.out W HB.out).mono ?_) | (with_reducible refine (HL.out W.drew HB.out.drew).mono ?_)); rintro e w3 ⟨v3, rfl, hfn, hb3⟩
           obtain ⟨a3, n3, c3, f3, rfl, h1, h2⟩ := hfn.nat
           have hb3 : Below W.heap.size W w3 := by first | exact hb3 | exact below_drew hb3
           have H1 := Lib.hid h1
           have H2 := Lib.hid h2
           clear hfn h1 h2)
        | (go_at_call 106; (with_reducible refine (zof_any s a3 n3 c3 _).mono ?_); rintro e w4 ⟨rfl, hb4⟩
           have u0 := cell_stays hb4 (cell_stays hb3 z0)
           have u1 := cell_stays hb4 (cell_stays hb3 z1)
           have u2 := froz_stays hb4 (cell_stays hb3 z0) (froz_stays hb3 z0 z2)
           have u3 := froz_stays hb4 (cell_stays hb3 z1) (froz_stays hb3 z1 z3)))
    all_goals
      go_wp2_with fail
      obtain ⟨f1, f2⟩ := zfin (b := w.heap.size + 1 + 1) HB.out (by omega) (by have := HSZ.out; omega) (hb3.trans (hb4.mono hb3.size)) (H1.out.below hb4) H2.out HV.out
      refine bodyPost_ret (v := .agg #[.bool (s && decide (0 < n3)), .slice a3 n3 c3]) ?_ rfl ⟨_, rfl, f1, f2⟩
      simp [results, Try.results104, go_sem, u0, u1]
  · have hbt : (s == t) = false := by simp [hst]
    have hc := fun (u : World) (hu : Below w.heap.size w u) => natCmp_any _ _ n m f g u (hr.below hu) (hs.below hu)
    have HC := Lib.hid hc
    have HR := Lib.hid hr
    have HS := Lib.hid hs
    have HAB := Lib.hid (And.intro ha hb)
    have HST := Lib.hid hst
    clear hc hr hs ha hb hx hy hB hsz hst
    go_enter Try.func104, Try.ntmps104
    go_wp2_with fail
    generalize ((w.alloc (.cells #[.bool s, .slice am n ca] 49)).alloc (.cells #[.bool t, .slice bm m cb] 49)).alloc (.cells #[.bool false, .slice none 0 0] 49) = W at *
    have hcm := HC.out W HB.out
    obtain ⟨cc, hcc⟩ : ∃ cc, cc = cmpZ (natFrom f 0 n) (natFrom g 0 m) := ⟨_, rfl⟩
    rw [← hcc] at hcm
    (refine hcm.mono ?_)
    rintro e w3 ⟨rfl, hb3⟩
    have HCC := Lib.hid hcc
    have hb3z := hb3.size
    have X2 := froz_stays hb3 x0 x2
    have X3 := froz_stays hb3 x1 x3
    have Y2 := froz_stays hb3 y0 y2
    have Y3 := froz_stays hb3 y1 y3
    have Z2 := froz_stays hb3 z0 z2
    have Z3 := froz_stays hb3 z1 z3
    replace x0 := cell_stays hb3 x0
    replace x1 := cell_stays hb3 x1
    replace y0 := cell_stays hb3 y0
    replace y1 := cell_stays hb3 y1
    replace z0 := cell_stays hb3 z0
    replace z1 := cell_stays hb3 z1
    have HB3 := Lib.hid (HB.out.trans (hb3.mono HB.out.size))
    have HSZ3 := Lib.hid (show w.heap.size + 3 ≤ w3.heap.size by have := HSZ.out; omega)
    clear hcm hcc hb3 hb3z HC x2 x3 y2 y3 z2 z3 HB HSZ
    go_upto_if 25 with fail
    go_cut [] (fun wx => ∃ (s' : Bool) (am' bm' : Option Addr) (n' m' ca' cb' : Nat) (f' g' : Nat → Int), wx.cell? ⟨w.heap.size, 0, none⟩ = some (.bool s') ∧ wx.cell? ⟨w.heap.size, 1, none⟩ = some (.slice am' n' ca') ∧ wx.cell? ⟨w.heap.size + 1, 1, none⟩ = some (.slice bm' m' cb') ∧
      (wx.cell? ⟨w.heap.size + 1 + 1, 0, none⟩ = some (.bool false) ∧ wx.cell? ⟨w.heap.size + 1 + 1, 1, none⟩ = some (.slice none 0 0) ∧ wx.frozen? ⟨w.heap.size + 1 + 1, 0, none⟩ = false ∧ wx.frozen? ⟨w.heap.size + 1 + 1, 1, none⟩ = false) ∧
      n' ≤ 274877906944 ∧ m' ≤ 274877906944 ∧ RdW w (.slice am' n' ca') n' f' ∧ RdW w (.slice bm' m' cb') m' g' ∧ natFrom g' 0 m' ≤ natFrom f' 0 n' ∧ a + b = (if s' then -(natFrom f' 0 n' - natFrom g' 0 m') else natFrom f' 0 n' - natFrom g' 0 m') ∧ Below w.heap.size w wx ∧ w.heap.size + 3 ≤ wx.heap.size)
    case first =>
      by_cases hlt : natFrom f 0 n < natFrom g 0 m
      · have hcv : Hid (cc = -1) := by show _ = _; rw [HCC.out]; exact if_pos hlt
        have hcl : cc < 0 := by rw [hcv.out]; decide
        have HLT := Lib.hid hlt
        clear hlt
        go_wp2_with fail
        go_meet
        have k := (w3.setCell ⟨w.heap.size, 0, none⟩ (.bool t)).setCell ⟨w.heap.size, 1, none⟩ (.slice bm m cb)
        have g1 := stored2_gb w3 w.heap.size (.bool t) (.slice bm m cb)
        have g2 := stored2_gb (stored2 w3 w.heap.size (.bool t) (.slice bm m cb)) (w.heap.size + 1) (.bool s) (.slice am n ca)
        have c1 := two_own (W := w3) (q := w.heap.size) (x0 := .bool t) (x1 := .slice bm m cb) x0 x1
        have c2 := two_own (W := stored2 w3 w.heap.size (.bool t) (.slice bm m cb)) (q := w.heap.size + 1) (x0 := .bool s) (x1 := .slice am n ca) (two_far y0 (by omega)) (two_far y1 (by omega))
        refine ⟨t, bm, am, m, n, cb, ca, g, f, two_far c1.1 (by omega), two_far c1.2 (by omega), c2.2, ⟨two_far (two_far z0 (by omega)) (by omega), two_far (two_far z1 (by omega)) (by omega), ?_, ?_⟩, hm, hn, HS.out, HR.out, Int.le_of_lt HLT.out, ?_, ?_, ?_⟩
        · simp only [World.frozen?_setCell]; exact Z2
        · simp only [World.frozen?_setCell]; exact Z3
        · rw [HAB.out.1, HAB.out.2]
          have := HST.out
          cases s <;> cases t <;> simp_all <;> omega
        · have h1 := HB3.out.grown g1 HB3.out.size (fun k hk => by injection hk with hk; omega)
          exact h1.grown g2 h1.size (fun k hk => by injection hk with hk; omega)
        · have := HSZ3.out
          have := g1.size
          have := g2.size
          exact Nat.le_trans (Nat.le_trans HSZ3.out g1.size) g2.size
      · have hcv : 0 ≤ cc := by rw [HCC.out]; unfold cmpZ; rw [if_neg hlt]; split <;> omega
        have HLT := Lib.hid (show natFrom g 0 m ≤ natFrom f 0 n by omega)
        clear hlt
        go_wp2_with fail
        go_meet
        refine ⟨s, am, bm, n, m, ca, cb, f, g, x0, x1, y1, ⟨z0, z1, Z2, Z3⟩, hn, hm, HR.out, HS.out, HLT.out, ?_, HB3.out, HSZ3.out⟩
        rw [HAB.out.1, HAB.out.2]
        have := HST.out
        cases s <;> cases t <;> simp_all <;> omega
    case rest =>
      clear x0 x1 y0 y1 z0 z1 X2 X3 Y2 Y3 Z2 Z3 HR HS HAB HST HCC HB3 HSZ3
      obtain ⟨s', am', bm', n', m', ca', cb', f', g', x0, x1, y1, ⟨z0, z1, z2, z3⟩, hn', hm', hr, hs, hle, hval, hB, hsz⟩ := hcut
      have hsb := natSub_any _ _ n' m' f' g' wc (by omega) (by omega) hle (hr.below hB) (hs.below hB)
      generalize natFrom f' 0 n' - natFrom g' 0 m' = P at *
      have HSB := Lib.hid hsb
      have HV := Lib.hid hval
      have HB := Lib.hid hB
      have HSZ := Lib.hid hsz
      clear hsb hval hB hsz hr hs hle
      go_wp2_with fail
      (refine HSB.out.mono ?_)
      rintro e w5 ⟨v, rfl, hf, hb5⟩
      obtain ⟨a3, n3, c3, f3, rfl, h1, h2⟩ := hf.nat
      have H1 := Lib.hid h1
      have H2 := Lib.hid h2
      have HB5 := Lib.hid hb5
      have u2 := froz_stays hb5 z0 z2
      have u3 := froz_stays hb5 z1 z3
      replace x0 := cell_stays hb5 x0
      replace z0 := cell_stays hb5 z0
      replace z1 := cell_stays hb5 z1
      clear hf hb5 h1 h2 HSB x1 y1 z2 z3
      go_wp2_with fail
      (refine (zof_any s' a3 n3 c3 _).mono ?_)
      rintro e w4 ⟨rfl, hb4⟩
      have v2 := froz_stays hb4 z0 u2
      have v3 := froz_stays hb4 z1 u3
      replace z0 := cell_stays hb4 z0
      replace z1 := cell_stays hb4 z1
      have HB4 := Lib.hid hb4
      clear hb4 u2 u3 x0
      go_wp2_with fail
      obtain ⟨f1, f2⟩ := zfin (b := w.heap.size + 1 + 1) HB.out (by omega) (by have := HSZ.out; omega) (HB5.out.trans (HB4.out.mono HB5.out.size)) (H1.out.below HB4.out) H2.out HV.out
      refine bodyPost_ret (v := .agg #[.bool (s' && decide (0 < n3)), .slice a3 n3 c3]) ?_ rfl ⟨_, rfl, f1, f2⟩
      simp [results, Try.results104, go_sem, z0, z1]
theorem zSub_any (x y : Value) (a b : Int) (w : World) (hx : RdZ w x a) (hy : RdZ w y b) :
    Calls Try.prog 64 #[x, y] w fun e w' => ∃ v, e = .returned v ∧ FrZ w' w.heap.size v (a - b) ∧ Below w.heap.size w w' := by
  have hx0 := hx
  have hy0 := hy
  obtain ⟨s, am, n, ca, f, rfl, hr, ha, hn⟩ := hx.parts
  obtain ⟨t, bm, m, cb, g, rfl, hs, hb, hm⟩ := hy.parts
  obtain ⟨⟨⟨x0, x1, y0, y1⟩, -, z0, z1, z2, z3⟩, hB, hsz⟩ := boxes3' w (.bool s) (.slice am n ca) (.bool t) (.slice bm m cb) (.bool false) (.slice none 0 0) 49
  have hny : RdZ w (.agg #[.bool (!t), .slice bm m cb]) (-b) := ⟨⟨!t, m, g⟩, ⟨_, rfl, hs⟩, by rw [hb]; show (if (!t) then _ else _) = _; unfold Raw.mag; cases t <;> simp, hm⟩
  have hl := fun (u : World) (hu : Below w.heap.size w u) => zAdd_any _ _ a (-b) u (hx0.below hu) (hny.below hu)
  have HL := Lib.hid hl
  have HB := Lib.hid hB
  have HSZ := Lib.hid hsz
  clear hl hB hsz hr hs ha hb hx hy hx0 hy0 hny
  go_enter Try.func64, Try.ntmps64
  go_wp2_with fail
  generalize ((w.alloc (.cells #[.bool s, .slice am n ca] 49)).alloc (.cells #[.bool t, .slice bm m cb] 49)).alloc (.cells #[.bool false, .slice none 0 0] 49) = W at *
  (refine (HL.out W HB.out).mono ?_)
  rintro e w4 ⟨v, rfl, hf, hb4⟩
  obtain ⟨aq, nq, cq, rfl, hst⟩ := FrZ.stored (b := w.heap.size + 1 + 1) (hf.mono (show w.heap.size + 1 + 1 + 1 ≤ W.heap.size by have := HSZ.out; omega))
  have u2 := froz_stays hb4 z0 z2
  have u3 := froz_stays hb4 z1 z3
  replace z0 := cell_stays hb4 z0
  replace z1 := cell_stays hb4 z1
  have hbl := (HB.out.trans (hb4.mono HB.out.size)).grown (stored2_gb w4 (w.heap.size + 1 + 1) (.bool (decide (a + -b < 0))) (.slice aq nq cq)) (by have := HB.out.size; have := hb4.size; omega) (fun k hk => by injection hk with hk; omega)
  have HST := Lib.hid (hst.mono (show w.heap.size ≤ w.heap.size + 1 + 1 by omega))
  have HBL := Lib.hid hbl
  clear hf hb4 hst hbl x0 x1 y0 y1 z2 z3 HL
  go_wp2_with fail
  refine bodyPost_ret (v := .agg #[.bool (decide (a + -b < 0)), .slice aq nq cq]) ?_ rfl ⟨_, rfl, HST.out, HBL.out⟩
  simp [results, Try.results64, go_sem, z0, z1]
theorem zExact_any (x y : Value) (a b : Int) (w : World) (hb0 : b ≠ 0) (hd : b ∣ a) (hx : RdZ w x a) (hy : RdZ w y b) :
    Calls Try.prog 89 #[x, y] w fun e w' => ∃ v, e = .returned (.tuple #[v, .int .i64 0]) ∧ FrZ w' w.heap.size v (a / b) ∧ Below w.heap.size w w' := by
  obtain ⟨s, am, n, ca, f, rfl, hr, ha, hn⟩ := hx.parts
  obtain ⟨t, bm, m, cb, g, rfl, hs, hb, hm⟩ := hy.parts
  obtain ⟨⟨⟨x0, x1, y0, y1⟩, -, z0, z1, z2, z3⟩, hB, hsz⟩ := boxes3' w (.bool s) (.slice am n ca) (.bool t) (.slice bm m cb) (.bool false) (.slice none 0 0) 49
  have hM : natFrom g 0 m ≠ 0 := fun e => hb0 (by rw [hb, e]; cases t <;> rfl)
  have hdv : natFrom g 0 m ∣ natFrom f 0 n := by
    rw [ha, hb] at hd
    cases s <;> cases t <;> simp at hd <;> simpa using hd
  have hmod : natFrom f 0 n % natFrom g 0 m = 0 := Int.emod_eq_zero_of_dvd hdv
  have hl := fun (u : World) (hu : Below w.heap.size w u) => natExact_any _ _ n m f g u (by omega) hM hmod (hr.below hu) (hs.below hu)
  have hval : a / b = if (!(s == t)) then -(natFrom f 0 n / natFrom g 0 m) else natFrom f 0 n / natFrom g 0 m := by
    obtain ⟨q, hq⟩ := hdv
    rw [ha, hb, hq, Int.mul_ediv_cancel_left _ hM]
    cases s <;> cases t <;> simp
    · exact Int.mul_ediv_cancel_left _ hM
    · rw [Int.mul_ediv_cancel_left _ hM]
    · rw [← Int.mul_neg, Int.mul_ediv_cancel_left _ hM]
    · rw [← Int.mul_neg, Int.mul_ediv_cancel_left _ hM, Int.neg_neg]
  generalize natFrom f 0 n / natFrom g 0 m = P at *
  have HL := Lib.hid hl
  have HB := Lib.hid hB
  have HSZ := Lib.hid hsz
  have HV := Lib.hid hval
  clear hl hB hsz hval hr hs ha hb hx hy hd hdv hmod hM hb0
  go_enter Try.func89, Try.ntmps89
  go_wp2_with fail
  generalize ((w.alloc (.cells #[.bool s, .slice am n ca] 49)).alloc (.cells #[.bool t, .slice bm m cb] 49)).alloc (.cells #[.bool false, .slice none 0 0] 49) = W at *
  (refine (HL.out W HB.out).mono ?_)
  rintro e w3 ⟨v3, rfl, hfn, hb3⟩
  obtain ⟨a3, n3, c3, f3, rfl, h1, h2⟩ := hfn.nat
  have H1 := Lib.hid h1
  have H2 := Lib.hid h2
  have HB3 := Lib.hid hb3
  have u2 := froz_stays hb3 z0 z2
  have u3 := froz_stays hb3 z1 z3
  replace x0 := cell_stays hb3 x0
  replace y0 := cell_stays hb3 y0
  replace z0 := cell_stays hb3 z0
  replace z1 := cell_stays hb3 z1
  clear hfn h1 h2 hb3 z2 z3 HL x1 y1
  go_wp2_with fail
  (refine (zof_any _ a3 n3 c3 _).mono ?_)
  rintro e w4 ⟨rfl, hb4⟩
  have v2 := froz_stays hb4 z0 u2
  have v3 := froz_stays hb4 z1 u3
  replace z0 := cell_stays hb4 z0
  replace z1 := cell_stays hb4 z1
  have HB4 := Lib.hid hb4
  clear hb4 u2 u3 x0 y0
  go_wp2_with fail
  obtain ⟨f1, f2⟩ := zfin (b := w.heap.size + 1 + 1) HB.out (by omega) (by have := HSZ.out; omega) (HB3.out.trans (HB4.out.mono HB3.out.size)) (H1.out.below HB4.out) H2.out HV.out
  refine bodyPost_ret (v := .tuple #[.agg #[.bool (!(s == t) && decide (0 < n3)), .slice a3 n3 c3], .int .i64 0]) ?_ rfl ⟨_, rfl, f1, f2⟩
  simp [results, Try.results89, go_sem, z0, z1]
end Go.Proofs.Ytejliecmdkmgiaa
namespace Go.Proofs.Ytejliecmdkmgiaa
open Go.RowKit
theorem ret_bool {a b : Bool} (h : a = b) : Ending.returned (.bool a) = .returned (.bool b) := by rw [h]
def sideB (n : Int) : Bool := decide (0 ≤ n ∧ n ≤ 64)
def soundB (r c : Int) (n : Nat) : Bool := sideB r && sideB c && decide ((n : Int) = r * c)
def checkE (r c : Int) (n : Nat) : Int := if soundB r c n = true then 0 else 1
theorem sideB_yes {n : Int} (h : sideB n = true) : 0 ≤ n ∧ n ≤ 64 := by simpa [sideB] using h
theorem soundB_yes {r c : Int} {n : Nat} (h : soundB r c n = true) : (0 ≤ r ∧ r ≤ 64) ∧ (0 ≤ c ∧ c ≤ 64) ∧ (n : Int) = r * c := by
  unfold soundB at h
  simp only [Bool.and_eq_true, decide_eq_true_eq] at h
  exact ⟨sideB_yes h.1.1, sideB_yes h.1.2, h.2⟩
theorem side_any (n : Int) (w : World) :
    Calls Try.prog 102 #[.int .i64 n] w fun e w' => e = .returned (.bool (sideB n)) ∧ w = w' := by
  by_cases h0 : 0 ≤ n
  · by_cases h1 : n ≤ 64
    · go_enter Try.func102, Try.ntmps102
      go_wp2
      go_ret
      exact ⟨ret_bool (by unfold sideB; symm; simp; omega), rfl⟩
    · go_enter Try.func102, Try.ntmps102
      go_wp2
      go_ret
      exact ⟨ret_bool (by unfold sideB; symm; simp; omega), rfl⟩
  · go_enter Try.func102, Try.ntmps102
    go_wp2
    go_ret
    exact ⟨ret_bool (by unfold sideB; symm; simp; omega), rfl⟩
theorem prod64 {r c : Int} (h : 0 ≤ r ∧ r ≤ 64) (g : 0 ≤ c ∧ c ≤ 64) : 0 ≤ r * c ∧ r * c ≤ 4096 :=
  ⟨Int.mul_nonneg h.1 g.1, by have := Int.mul_le_mul h.2 g.2 g.1 (by omega); omega⟩
theorem Check_any (r c : Int) (a : Option Addr) (n cap : Nat) (hn : n ≤ 17592186044416) (w : World) :
    Calls Try.prog 93 #[.agg #[.int .i64 r, .int .i64 c, .slice a n cap]] w fun e w' => e = .returned (.int .i64 (checkE r c n)) ∧ Below w.heap.size w w' := by
  by_cases hr : sideB r = true
  · by_cases hc : sideB c = true
    · obtain ⟨m0, m1⟩ := prod64 (sideB_yes hr) (sideB_yes hc)
      by_cases he : (n : Int) = r * c
      · have hs : Hid (checkE r c n = 0) := by show _ = _; unfold checkE soundB; simp [hr, hc, he]
        have hne : ((n : Int) != r * c) = false := by rw [bne_eq_false_iff_eq]; exact he
        clear he
        go_enter Try.func93, Try.ntmps93
        go_wp2_with (first | (go_at_call_of 102 (Value.int .i64 r); refine (side_any r _).mono ?_; rintro e w' ⟨rfl, rfl⟩) | (go_at_call_of 102 (Value.int .i64 c); refine (side_any c _).mono ?_; rintro e w' ⟨rfl, rfl⟩))
        go_ret
        exact ⟨ret_i64 hs.out.symm, (Below.refl _ _).alloc (Nat.le_refl _) _⟩
      · have hs : Hid (checkE r c n = 1) := by show _ = _; unfold checkE soundB; simp [hr, hc, he]
        have hne : ((n : Int) != r * c) = true := by rw [bne_iff_ne]; exact he
        clear he
        go_enter Try.func93, Try.ntmps93
        go_wp2_with (first | (go_at_call_of 102 (Value.int .i64 r); refine (side_any r _).mono ?_; rintro e w' ⟨rfl, rfl⟩) | (go_at_call_of 102 (Value.int .i64 c); refine (side_any c _).mono ?_; rintro e w' ⟨rfl, rfl⟩))
        go_ret
        exact ⟨ret_i64 hs.out.symm, (Below.refl _ _).alloc (Nat.le_refl _) _⟩
    · have hc : sideB c = false := by simpa using hc
      have hs : Hid (checkE r c n = 1) := by show _ = _; unfold checkE soundB; simp [hr, hc]
      go_enter Try.func93, Try.ntmps93
      go_wp2_with (first | (go_at_call_of 102 (Value.int .i64 r); refine (side_any r _).mono ?_; rintro e w' ⟨rfl, rfl⟩) | (go_at_call_of 102 (Value.int .i64 c); refine (side_any c _).mono ?_; rintro e w' ⟨rfl, rfl⟩))
      go_ret
      exact ⟨ret_i64 hs.out.symm, (Below.refl _ _).alloc (Nat.le_refl _) _⟩
  · have hr : sideB r = false := by simpa using hr
    have hs : Hid (checkE r c n = 1) := by show _ = _; unfold checkE soundB; simp [hr]
    go_enter Try.func93, Try.ntmps93
    go_wp2_with (first | (go_at_call_of 102 (Value.int .i64 r); refine (side_any r _).mono ?_; rintro e w' ⟨rfl, rfl⟩) | (go_at_call_of 102 (Value.int .i64 c); refine (side_any c _).mono ?_; rintro e w' ⟨rfl, rfl⟩))
    go_ret
    exact ⟨ret_i64 hs.out.symm, (Below.refl _ _).alloc (Nat.le_refl _) _⟩
end Go.Proofs.Ytejliecmdkmgiaa
namespace Go.Proofs.Ytejliecmdkmgiaa
open Go.RowKit
theorem zOf_fr (x : Int) (h0 : 0 ≤ x) (h1 : x ≤ 9223372036854775807) (w : World) : Calls Try.prog 36 #[.int .i64 x] w fun e w' => ∃ v, e = .returned v ∧ FrZ w' w.heap.size v x ∧ Below w.heap.size w w' := by
  refine (Of_any x h0 h1 w).mono ?_
  rintro e w' ⟨b, rfl, k1, k2, k3, k4⟩
  refine ⟨_, rfl, ⟨_, w1 x, fun _ => x, by rw [decide_eq_false (by omega)], Or.inr ⟨b, w1 x, rfl, Nat.le_refl _, by unfold w1; split <;> omega, k1, k2, k3⟩, ?_⟩, k4⟩
  rw [Int.natAbs_of_nonneg h0]
  have hd := dig_sz (B := 18446744073709551616) (f := fun _ => x) (n := 1) (fun i _ => ⟨h0, by omega⟩)
  rw [sz_one] at hd
  have e : dv 18446744073709551616 (fun _ => x) 1 = x := by simp only [dv, Int.pow_zero, Int.mul_one, Int.zero_add]
  rw [e] at hd
  exact hd
theorem RdZ.gb {w w' : World} {s : Bool} {m : Value} {z : Int} {d : Nat} (h : RdZ w (.agg #[.bool s, m]) z) (hg : w.grownBy w' (some d)) (hm : m.ownBlock ≠ some d) : RdZ w' (.agg #[.bool s, m]) z := by
  obtain ⟨r, ⟨m', e, ⟨a, cap, e2, h1, h2, h3⟩, hw⟩, h4, h5⟩ := h
  refine ⟨r, ⟨m', e, ⟨a, cap, e2, h1, h2, fun hn => ?_⟩, hw⟩, h4, h5⟩
  obtain ⟨b, o, e3, hc⟩ := h3 hn
  refine ⟨b, o, e3, fun i hi => hg.cell (hc i hi) (fun e' => hm ?_)⟩
  simp at e
  rw [e.2, e2, e3]
  show some b = some d
  exact e'
def LeZ (w : World) (v : Value) (z : Int) : Prop := RdZ w v z ∧ ∃ m n f, v = .agg #[.bool (decide (z < 0)), m] ∧ RdA .u64 w m n f ∧ Dig 18446744073709551616 n f (z.natAbs : Int)
theorem LeZ.below {w w' : World} {v : Value} {z : Int} (h : LeZ w v z) (hb : Below w.heap.size w w') : LeZ w' v z := by
  obtain ⟨h1, m, n, f, e, h2, h3⟩ := h
  exact ⟨h1.below hb, m, n, f, e, h2.below hb, h3⟩
theorem LeZ.gb {w w' : World} {s : Bool} {m : Value} {z : Int} {d : Nat} (h : LeZ w (.agg #[.bool s, m]) z) (hg : w.grownBy w' (some d)) (hm : m.ownBlock ≠ some d) : LeZ w' (.agg #[.bool s, m]) z := by
  obtain ⟨h1, m', n, f, e, ⟨a, cap, e2, k1, k2, k3⟩, h3⟩ := h
  refine ⟨h1.gb hg hm, m', n, f, e, ⟨a, cap, e2, k1, k2, fun hn => ?_⟩, h3⟩
  obtain ⟨b, o, e3, hc⟩ := k3 hn
  refine ⟨b, o, e3, fun i hi => hg.cell (hc i hi) (fun e' => hm ?_)⟩
  simp at e
  rw [e.2, e2, e3]
  show some b = some d
  exact e'
theorem FrZ.le {w : World} {base : Nat} {v : Value} {z : Int} (h : FrZ w base v z) {S : Nat} (hz : ZB S z) (hS : S ≤ 274877906944) : LeZ w v z := by
  refine ⟨h.rd hz hS, ?_⟩
  obtain ⟨m, n, f, e, h1, h2⟩ := h
  exact ⟨m, n, f, e, h1.read, h2⟩
theorem LeZ.agg {w : World} {s : Bool} {m : Value} {z : Int} (h : LeZ w (.agg #[.bool s, m]) z) : ∃ a n c, m = .slice a n c := by
  obtain ⟨-, m', n, f, e, ⟨a, cap, e2, -⟩, -⟩ := h
  simp at e
  exact ⟨a, n, cap, by rw [e.2, e2]⟩
def RdE (w : World) (v : Value) (n : Nat) (E : Nat → Int) : Prop :=
  ∃ a cap, v = .slice a n cap ∧ n ≤ cap ∧ n ≤ 1048576 ∧ (0 < n → ∃ b o, a = some ⟨b, o, none⟩ ∧ ∀ i, i < n → ∃ s m, w.cell? ⟨b, o + i * 2, none⟩ = some (.bool s) ∧ w.cell? ⟨b, o + i * 2 + 1, none⟩ = some m ∧ RdZ w (.agg #[.bool s, m]) (E i))
theorem RdE.below {w w' : World} {v : Value} {n : Nat} {E : Nat → Int} (h : RdE w v n E) (hb : Below w.heap.size w w') : RdE w' v n E := by
  obtain ⟨a, cap, e, h1, h2, h3⟩ := h
  refine ⟨a, cap, e, h1, h2, fun hn => ?_⟩
  obtain ⟨b, o, e, h4⟩ := h3 hn
  refine ⟨b, o, e, fun i hi => ?_⟩
  obtain ⟨s, m, c1, c2, c3⟩ := h4 i hi
  exact ⟨s, m, cell_stays hb c1, cell_stays hb c2, c3.below hb⟩
theorem RdE.congr {w : World} {v : Value} {n : Nat} {E F : Nat → Int} (h : RdE w v n E) (e : ∀ i, i < n → E i = F i) : RdE w v n F := by
  obtain ⟨a, cap, e1, h1, h2, h3⟩ := h
  refine ⟨a, cap, e1, h1, h2, fun hn => ?_⟩
  obtain ⟨b, o, e2, h4⟩ := h3 hn
  exact ⟨b, o, e2, fun i hi => by rw [← e i hi]; exact h4 i hi⟩
theorem RdE.get {w : World} {a : Option Addr} {n cap : Nat} {E : Nat → Int} (h : RdE w (.slice a n cap) n E) {i : Nat} (hi : i < n) : ∃ b o s m, a = some ⟨b, o, none⟩ ∧ w.cell? ⟨b, o + i * 2, none⟩ = some (.bool s) ∧ w.cell? ⟨b, o + i * 2 + 1, none⟩ = some m ∧ RdZ w (.agg #[.bool s, m]) (E i) := by
  obtain ⟨a', cap', e, -, -, h3⟩ := h
  simp only [Value.slice.injEq, true_and] at e
  obtain ⟨rfl, rfl⟩ := e
  obtain ⟨b, o, rfl, h4⟩ := h3 (by omega)
  obtain ⟨s, m, c1, c2, c3⟩ := h4 i hi
  exact ⟨b, o, s, m, rfl, c1, c2, c3⟩
structure PaE (w : World) (base : Nat) (D : Nat → Prop) (lb n k : Nat) (E : Nat → Int) : Prop where
  own : base ≤ lb
  blk : Blk w lb (n * 2) 49
  cells : ∀ i, i < k → ∃ s m, w.cell? ⟨lb, i * 2, none⟩ = some (.bool s) ∧ w.cell? ⟨lb, i * 2 + 1, none⟩ = some m ∧ LeZ w (.agg #[.bool s, m]) (E i) ∧ ∀ b, m.ownBlock = some b → b < w.heap.size ∧ ¬ D b
abbrev FrE (w : World) (base : Nat) (D : Nat → Prop) (lb n : Nat) (E : Nat → Int) : Prop := PaE w base D lb n n E
section
variable {w w' : World} {base lb n k : Nat} {D : Nat → Prop} {E : Nat → Int}
theorem PaE.lt (h : PaE w base D lb n k E) : lb < w.heap.size := h.blk.lt
theorem PaE.grown (h : PaE w base D lb n k E) {d : Nat} (hg : w.grownBy w' (some d)) (hd : lb ≠ d) (hD : D d) : PaE w' base D lb n k E :=
  ⟨h.own, h.blk.grown hg (fun e => hd (Option.some.inj e)), fun i hi => by
    obtain ⟨s, m, c1, c2, c3, c4⟩ := h.cells i hi
    exact ⟨s, m, hg.cell c1 (fun e => hd (Option.some.inj e)), hg.cell c2 (fun e => hd (Option.some.inj e)), c3.gb hg (fun e => (c4 d e).2 hD), fun b hb => ⟨Nat.lt_of_lt_of_le (c4 b hb).1 hg.size, (c4 b hb).2⟩⟩⟩
theorem PaE.below (h : PaE w base D lb n k E) (hb : Below w.heap.size w w') : PaE w' base D lb n k E :=
  ⟨h.own, h.blk.grown (gb_below hb none) (by simp), fun i hi => by
    obtain ⟨s, m, c1, c2, c3, c4⟩ := h.cells i hi
    exact ⟨s, m, cell_stays hb c1, cell_stays hb c2, c3.below hb, fun b h1 => ⟨Nat.lt_of_lt_of_le (c4 b h1).1 hb.size, (c4 b h1).2⟩⟩⟩
theorem PaE.rd (h : PaE w base D lb n k E) (hk : k ≤ n) (hn : k ≤ 1048576) : RdE w (.slice (some ⟨lb, 0, none⟩) k n) k E :=
  ⟨_, n, rfl, hk, hn, fun _ => ⟨lb, 0, rfl, fun i hi => by
    obtain ⟨s, m, c1, c2, c3, -⟩ := h.cells i hi
    rw [Nat.zero_add]
    exact ⟨s, m, c1, c2, c3.1⟩⟩⟩
theorem PaE.mono (h : PaE w base D lb n k E) {base' : Nat} (hb : base' ≤ base) : PaE w base' D lb n k E := { h with own := Nat.le_trans hb h.own }
theorem PaE.congr (h : PaE w base D lb n k E) {F : Nat → Int} (e : ∀ i, i < k → E i = F i) : PaE w base D lb n k F :=
  { h with cells := fun i hi => by rw [← e i hi]; exact h.cells i hi }
theorem PaE.turnD (h : PaE w base D lb n k E) {D' : Nat → Prop} (hD : ∀ b, b < w.heap.size → ¬ D b → ¬ D' b) : PaE w base D' lb n k E :=
  ⟨h.own, h.blk, fun i hi => by
    obtain ⟨s, m, c1, c2, c3, c4⟩ := h.cells i hi
    exact ⟨s, m, c1, c2, c3, fun b hb => ⟨(c4 b hb).1, hD b (c4 b hb).1 (c4 b hb).2⟩⟩⟩
theorem PaE.start (w : World) (base n : Nat) (D : Nat → Prop) (cur : Array Value) (hc : cur.size = n * 2) (hb : base ≤ w.heap.size) (E : Nat → Int) : PaE (w.alloc (.cells cur 49)) base D w.heap.size n 0 E :=
  ⟨hb, ⟨cur, heap_alloc_new w _, hc⟩, fun i hi => absurd hi (by omega)⟩
theorem PaE.put (h : PaE w base D lb n k E) {j : Nat} (hj : j < n) (hjk : j ≤ k) (hl : D lb) {s : Bool} {m : Value} {z : Int} (hz : LeZ w (.agg #[.bool s, m]) z) (hm : ∀ b, m.ownBlock = some b → b < w.heap.size ∧ ¬ D b) :
    PaE ((w.setCell ⟨lb, j * 2, none⟩ (.bool s)).setCell ⟨lb, j * 2 + 1, none⟩ m) base D lb n (max k (j + 1)) (fun i => if i = j then z else E i) := by
  have hg : w.grownBy ((w.setCell ⟨lb, j * 2, none⟩ (.bool s)).setCell ⟨lb, j * 2 + 1, none⟩ m) (some lb) := gb_trans (gb_set _ _ _) (gb_set _ _ _)
  obtain ⟨a1, _⟩ := h.blk.cell (i := j * 2) (by omega)
  obtain ⟨a2, _⟩ := h.blk.cell (i := j * 2 + 1) (by omega)
  obtain ⟨u1, e1⟩ := Option.isSome_iff_exists.1 a1
  obtain ⟨u2, e2⟩ := Option.isSome_iff_exists.1 a2
  refine ⟨h.own, (h.blk.set _ _).set _ _, fun i hi => ?_⟩
  by_cases e : i = j
  · subst e
    refine ⟨s, m, ?_, ?_, by rw [if_pos rfl]; exact hz.gb hg (fun e => (hm lb e).2 hl), fun b hb => ⟨Nat.lt_of_lt_of_le (hm b hb).1 hg.size, (hm b hb).2⟩⟩
    · rw [World.cell?_setCell_other _ _ _ _ (by intro e'; injection e' with _ e3 _; omega)]
      exact World.cell?_setCell_same _ _ _ e1
    · refine World.cell?_setCell_same _ _ _ (u := u2) ?_
      rw [World.cell?_setCell_other _ _ _ _ (by intro e'; injection e' with _ e3 _; omega)]
      exact e2
  · obtain ⟨s', m', c1, c2, c3, c4⟩ := h.cells i (by omega)
    refine ⟨s', m', ?_, ?_, by rw [if_neg e]; exact c3.gb hg (fun e => (c4 lb e).2 hl), fun b hb => ⟨Nat.lt_of_lt_of_le (c4 b hb).1 hg.size, (c4 b hb).2⟩⟩
    · rw [World.cell?_setCell_other _ _ _ _ (by intro e'; injection e' with _ e3 _; omega), World.cell?_setCell_other _ _ _ _ (by intro e'; injection e' with _ e3 _; omega)]
      exact c1
    · rw [World.cell?_setCell_other _ _ _ _ (by intro e'; injection e' with _ e3 _; omega), World.cell?_setCell_other _ _ _ _ (by intro e'; injection e' with _ e3 _; omega)]
      exact c2
end
theorem RdZ.zb {w : World} {v : Value} {z : Int} (h : RdZ w v z) : ZB 274877906944 z := by
  obtain ⟨r, h1, rfl, h2⟩ := h
  exact h1.zb.mono h2
theorem FrZ.agg {w : World} {base : Nat} {v : Value} {z : Int} (h : FrZ w base v z) : ∃ a n c, v = .agg #[.bool (decide (z < 0)), .slice a n c] ∧ ∀ b, (Value.slice a n c).ownBlock = some b → base ≤ b ∧ b < w.heap.size := by
  obtain ⟨m, n, f, rfl, h1, h2⟩ := h
  obtain ⟨a, c, rfl⟩ := h1.slice
  exact ⟨a, n, c, rfl, fun b hb => h1.lt hb⟩
end Go.Proofs.Ytejliecmdkmgiaa
namespace Go.Proofs.Ytejliecmdkmgiaa
open Go.RowKit
theorem mk_intsN (l n : Nat) (hl : l ≤ n) (hn : n ≤ 1048576) (u : World) : (Instr.makeSlice 22 (.int .i64 l) (.int .i64 n)).run Try.prog u =
    .ok (.slice (some ⟨u.heap.size, 0, none⟩) l n) (u.alloc (.cells (madeCells #[.bool false, .slice none 0 0] (n * 2)) 49)) := by
  obtain ⟨i0, hi, hz0, hz1, hz2⟩ := info_parts infoI
  have h := run_make (P := Try.prog) u 22 49 i0 (.agg #[.bool false, .slice none 0 0]) Try.underlying22 hi hz0 .i64 .i64 (l : Int) (n : Int) (by omega) (by omega) (by rw [hz2]; omega) (by omega)
  simpa [hz1, Value.cells] using h
theorem each_any (a : Option Addr) (n cap : Nat) (E : Nat → Int) (w : World) (hx : RdE w (.slice a n cap) n E) :
    Calls Try.prog 110 #[.slice a n cap, .func (.func 96) #[] #[]] w fun e w' => ∃ lb, e = .returned (.slice (some ⟨lb, 0, none⟩) n n) ∧ FrE w' w.heap.size (fun b => b ≤ lb) lb n E ∧ Below w.heap.size w w' := by
  have hnb : n ≤ 1048576 := by obtain ⟨_, _, e, -, h, -⟩ := hx; exact h
  have mk := mk_intsN n n (Nat.le_refl _) hnb
  have HX := Lib.hid hx
  clear hx
  go_enter Try.func110, Try.ntmps110
  go_wp2_with fail
  have hp0 := PaE.start w w.heap.size n (fun b => b ≤ w.heap.size) (madeCells #[.bool false, .slice none 0 0] (n * 2)) (by simp [madeCells]) (Nat.le_refl _) E
  have hb0 : Below w.heap.size w (w.alloc (.cells (madeCells #[.bool false, .slice none 0 0] (n * 2)) 49)) := (Below.refl _ _).alloc (Nat.le_refl _) _
  have HP := Lib.hid hp0
  have HB := Lib.hid hb0
  clear hp0 hb0 mk
  generalize w.alloc (.cells (madeCells #[.bool false, .slice none 0 0] (n * 2)) 49) = w1 at HP HB ⊢
  go_loopw [13] (fun iv wr => ∃ i : Nat, i ≤ n ∧ iv = .int .i64 i ∧ PaE wr w.heap.size (fun b => b ≤ w.heap.size) w.heap.size n i E ∧ Below w.heap.size w wr) (fun iv _ => n - (intOf iv).toNat)
  case atStart => exact ⟨0, Nat.zero_le _, rfl, HP.out, HB.out⟩
  case round =>
    clear HP HB
    obtain ⟨i, i1, rfl, hpa, hbe⟩ := hrel
    by_cases hi : i < n
    · obtain ⟨b, o, s, m, rfl, c1, c2, hz⟩ := (HX.out.below hbe).get hi
      have hlb := hpa.lt
      obtain ⟨am, ac, an, rfl⟩ : ∃ am ac an, m = .slice am an ac := by
        obtain ⟨s', am, n', c, f, e, -⟩ := hz.parts
        simp at e
        exact ⟨am, c, n', e.2⟩
      obtain ⟨x0, x1, -, -⟩ := two_cells wr (.bool s) (.slice am an ac) 49
      have hb1 : Below wr.heap.size wr (wr.alloc (.cells #[.bool s, .slice am an ac] 49)) := (Below.refl _ _).alloc (Nat.le_refl _) _
      have hl := zLeast_any _ (E i) _ (hz.below hb1)
      obtain ⟨f1, f2⟩ := hpa.blk.cell (i := i * 2) (by omega)
      obtain ⟨f3, f4⟩ := hpa.blk.cell (i := i * 2 + 1) (by omega)
      obtain ⟨u1, g1⟩ := Option.isSome_iff_exists.1 f1
      obtain ⟨u2, g2⟩ := Option.isSome_iff_exists.1 f3
      have HPA := Lib.hid hpa
      have HBE := Lib.hid hbe
      have HL := Lib.hid hl
      have HB1 := Lib.hid hb1
      have HZB := Lib.hid hz.zb
      have k1 := cell_stays hb1 g1
      have k2 := cell_stays hb1 g2
      have k3 := froz_stays hb1 g1 f2
      have k4 := froz_stays hb1 g2 f4
      clear hpa hbe hl hb1 hz f1 f3
      go_upto_region 5 with fail
      generalize wr.alloc (.cells #[.bool s, .slice am an ac] 49) = w2 at *
      go_wp2_with fail
      (refine HL.out.mono ?_)
      rintro e w3 ⟨v, rfl, hf, hb3⟩
      have hrd := hf.le HZB.out (Nat.le_refl _)
      obtain ⟨a3, n3, c3, rfl, ho⟩ := hf.agg
      have hs1 := HB1.out.size
      have hpb := (HPA.out.below HB1.out).below hb3
      have q1 := cell_stays hb3 k1
      have q2 := cell_stays hb3 k2
      have q3 := froz_stays hb3 k1 k3
      have q4 := froz_stays hb3 k2 k4
      have hput := hpb.put (j := i) hi (Nat.le_refl _) (Nat.le_refl _) hrd (fun b hb => ⟨(ho b hb).2, by have := (ho b hb).1; omega⟩)
      rw [show max i (i + 1) = i + 1 by omega] at hput
      have HPUT := Lib.hid (hput.congr (F := E) fun t _ => by
        by_cases e : t = i
        · rw [if_pos e, e]
        · rw [if_neg e])
      have hg : w3.grownBy ((w3.setCell ⟨w.heap.size, i * 2, none⟩ (.bool (decide (E i < 0)))).setCell ⟨w.heap.size, i * 2 + 1, none⟩ (.slice a3 n3 c3)) (some w.heap.size) := gb_trans (gb_set _ _ _) (gb_set _ _ _)
      have hbw := (HBE.out.trans ((HB1.out.trans (hb3.mono HB1.out.size)).mono HBE.out.size))
      have HBN := Lib.hid (hbw.grown hg hbw.size (fun k hk => by injection hk with hk; omega))
      clear hf hrd ho hb3 hpb hput hg hbw HPA HL HZB HBE HB1 x0 x1 k1 k2 k3 k4 g1 g2 f2 f4 c1 c2
      go_wp2_with fail
      go_roundw
      case rel => exact ⟨i + 1, by omega, by go_num, HPUT.out, HBN.out⟩
      case measure => simp [intOf]; omega
    · obtain rfl : i = n := by omega
      have HPA := Lib.hid hpa
      have HBE := Lib.hid hbe
      clear hpa hbe
      go_wp2_with fail
      go_ret
      exact ⟨_, rfl, HPA.out, HBE.out⟩
end Go.Proofs.Ytejliecmdkmgiaa
namespace Go.Proofs.Ytejliecmdkmgiaa
open Go.RowKit
structure BRel (w wr : World) (m n K q : Nat) (E : Nat → Int) : Prop where
  ls : PaE wr w.heap.size (fun b => b < w.heap.size + 3) (w.heap.size + 1) K q E
  below : Below w.heap.size w wr
  size : w.heap.size + 3 ≤ wr.heap.size
  m0 : wr.cell? ⟨w.heap.size + 1 + 1, 0, none⟩ = some (.int .i64 m)
  m1 : wr.cell? ⟨w.heap.size + 1 + 1, 1, none⟩ = some (.int .i64 n)
  m2 : wr.cell? ⟨w.heap.size + 1 + 1, 2, none⟩ = some (.slice (some ⟨w.heap.size + 1, 0, none⟩) q K)
  mf : wr.frozen? ⟨w.heap.size + 1 + 1, 2, none⟩ = false
  r0 : wr.cell? ⟨w.heap.size, 0, none⟩ = some (.int .i64 0) ∧ wr.frozen? ⟨w.heap.size, 0, none⟩ = false
  r1 : wr.cell? ⟨w.heap.size, 1, none⟩ = some (.int .i64 0) ∧ wr.frozen? ⟨w.heap.size, 1, none⟩ = false
  r2 : wr.cell? ⟨w.heap.size, 2, none⟩ = some (.slice none 0 0) ∧ wr.frozen? ⟨w.heap.size, 2, none⟩ = false
theorem BRel.start (w : World) (m n K : Nat) (E : Nat → Int) :
    BRel w (((w.alloc (.cells #[.int .i64 0, .int .i64 0, .slice none 0 0] 24)).alloc (.cells (madeCells #[.bool false, .slice none 0 0] (K * 2)) 49)).alloc
      (.cells #[.int .i64 m, .int .i64 n, .slice (some ⟨w.heap.size + 1, 0, none⟩) 0 K] 24)) m n K 0 E := by
  obtain ⟨w1, h1⟩ : ∃ w1, w1 = w.alloc (.cells #[.int .i64 0, .int .i64 0, .slice none 0 0] 24) := ⟨_, rfl⟩
  obtain ⟨w2, h2⟩ : ∃ w2, w2 = w1.alloc (.cells (madeCells #[.bool false, .slice none 0 0] (K * 2)) 49) := ⟨_, rfl⟩
  have s1 : w1.heap.size = w.heap.size + 1 := by rw [h1]; simp
  have s2 : w2.heap.size = w.heap.size + 1 + 1 := by rw [h2]; simp [s1]
  have b1 : Below w.heap.size w w1 := by rw [h1]; exact (Below.refl _ _).alloc (Nat.le_refl _) _
  have b2 : Below w1.heap.size w1 w2 := by rw [h2]; exact (Below.refl _ _).alloc (Nat.le_refl _) _
  have c1 := three_cells w (.int .i64 0) (.int .i64 0) (.slice none 0 0) 24
  rw [← h1] at c1
  have c3 := three_cells w2 (.int .i64 m) (.int .i64 n) (.slice (some ⟨w.heap.size + 1, 0, none⟩) 0 K) 24
  have ls := PaE.start w1 w.heap.size K (fun b => b < w.heap.size + 3) (madeCells #[.bool false, .slice none 0 0] (K * 2)) (by simp [madeCells]) (by omega) E
  rw [← h2, s1] at ls
  rw [← h1, ← h2]
  have b3 : Below w2.heap.size w2 (w2.alloc (.cells #[.int .i64 m, .int .i64 n, .slice (some ⟨w.heap.size + 1, 0, none⟩) 0 K] 24)) := (Below.refl _ _).alloc (Nat.le_refl _) _
  have s3 : (w2.alloc (.cells #[.int .i64 m, .int .i64 n, .slice (some ⟨w.heap.size + 1, 0, none⟩) 0 K] 24)).heap.size = w.heap.size + 3 := by simp [s2]
  rw [s2] at c3
  generalize w2.alloc (.cells #[.int .i64 m, .int .i64 n, .slice (some ⟨w.heap.size + 1, 0, none⟩) 0 K] 24) = w3 at *
  have b13 : Below w1.heap.size w1 w3 := b2.trans (b3.mono (by omega))
  have r (i : Nat) (y : Value) (hy : [Value.int .i64 0, .int .i64 0, .slice none 0 0][i]? = some y) : w3.cell? ⟨w.heap.size, i, none⟩ = some y ∧ w3.frozen? ⟨w.heap.size, i, none⟩ = false :=
    ⟨cell_stays b13 (c1 i y hy).1, froz_stays b13 (c1 i y hy).1 (c1 i y hy).2⟩
  exact ⟨ls.below b3, b1.trans (b13.mono (by omega)), by omega, (c3 0 _ rfl).1, (c3 1 _ rfl).1, (c3 2 _ rfl).1, (c3 2 (.slice (some ⟨w.heap.size + 1, 0, none⟩) 0 K) rfl).2, r 0 _ rfl, r 1 _ rfl, r 2 _ rfl⟩
theorem BRel.push {w wr w6 : World} {m n K q : Nat} {E : Nat → Int} (h : BRel w wr m n K q E) (hq : q < K) (hb : Below wr.heap.size wr w6) {s : Bool} {mv : Value} (hz : LeZ w6 (.agg #[.bool s, mv]) (E q)) (ho : ∀ b, mv.ownBlock = some b → wr.heap.size ≤ b ∧ b < w6.heap.size) :
    BRel w ((((w6.alloc (.cells #[.bool s, mv] 49)).setCell ⟨w.heap.size + 1, q * 2, none⟩ (.bool s)).setCell ⟨w.heap.size + 1, q * 2 + 1, none⟩ mv).setCell
      ⟨w.heap.size + 1 + 1, 2, none⟩ (.slice (some ⟨w.heap.size + 1, 0, none⟩) (q + 1) K)) m n K (q + 1) E := by
  have hz' := h.size
  obtain ⟨w7, h7⟩ : ∃ w7, w7 = w6.alloc (.cells #[.bool s, mv] 49) := ⟨_, rfl⟩
  have b67 : Below w6.heap.size w6 w7 := by rw [h7]; exact (Below.refl _ _).alloc (Nat.le_refl _) _
  have b7 : Below wr.heap.size wr w7 := hb.trans (b67.mono hb.size)
  rw [← h7]
  have ls7 := h.ls.below b7
  have ls8 := ls7.put hq (Nat.le_refl _) (by omega) (hz.below b67) (fun b hb' => ⟨Nat.lt_of_lt_of_le (ho b hb').2 b67.size, by have := (ho b hb').1; omega⟩)
  rw [show max q (q + 1) = q + 1 by omega] at ls8
  have ls8 := ls8.congr (F := E) fun t _ => by
    by_cases e : t = q
    · rw [if_pos e, e]
    · rw [if_neg e]
  have g8 : w7.grownBy ((w7.setCell ⟨w.heap.size + 1, q * 2, none⟩ (.bool s)).setCell ⟨w.heap.size + 1, q * 2 + 1, none⟩ mv) (some (w.heap.size + 1)) := gb_trans (gb_set _ _ _) (gb_set _ _ _)
  generalize (w7.setCell ⟨w.heap.size + 1, q * 2, none⟩ (.bool s)).setCell ⟨w.heap.size + 1, q * 2 + 1, none⟩ mv = w8 at *
  have s7 := b7.size
  have s8 := g8.size
  have g17 : wr.grownBy w8 (some (w.heap.size + 1)) := gb_trans (gb_below b7 _) g8
  have fz (a : Addr) (u : Value) (hu : wr.cell? a = some u) (hf : wr.frozen? a = false) (ha : a.block ≠ w.heap.size + 1) : w8.frozen? a = false := by
    have hl := World.block_lt_of_cell? wr a hu
    exact (World.frozen?_of_block (g17.block a.block hl (fun e => ha (Option.some.inj e)))).trans hf
  have g89 := gb_set w8 ⟨w.heap.size + 1 + 1, 2, none⟩ (.slice (some ⟨w.heap.size + 1, 0, none⟩) (q + 1) K)
  have c (i : Nat) (u : Value) (hu : wr.cell? ⟨w.heap.size, i, none⟩ = some u ∧ wr.frozen? ⟨w.heap.size, i, none⟩ = false) :
      (w8.setCell ⟨w.heap.size + 1 + 1, 2, none⟩ (.slice (some ⟨w.heap.size + 1, 0, none⟩) (q + 1) K)).cell? ⟨w.heap.size, i, none⟩ = some u ∧
      (w8.setCell ⟨w.heap.size + 1 + 1, 2, none⟩ (.slice (some ⟨w.heap.size + 1, 0, none⟩) (q + 1) K)).frozen? ⟨w.heap.size, i, none⟩ = false :=
    ⟨g89.cell (g17.cell hu.1 (by simp)) (by simp; omega), by rw [World.frozen?_setCell]; exact fz _ u hu.1 hu.2 (by simp)⟩
  have hm (i : Nat) (u : Value) (hi : i ≠ 2) (hu : wr.cell? ⟨w.heap.size + 1 + 1, i, none⟩ = some u) :
      (w8.setCell ⟨w.heap.size + 1 + 1, 2, none⟩ (.slice (some ⟨w.heap.size + 1, 0, none⟩) (q + 1) K)).cell? ⟨w.heap.size + 1 + 1, i, none⟩ = some u := by
    rw [World.cell?_setCell_other _ _ _ _ (by intro e'; injection e' with _ e3 _; omega)]
    exact g17.cell hu (by simp)
  refine ⟨ls8.grown g89 (by simp) (by simp), ?_, by have := g89.size; omega, hm 0 _ (by omega) h.m0, hm 1 _ (by omega) h.m1,
    World.cell?_setCell_same _ _ _ (g17.cell h.m2 (by simp)), by rw [World.frozen?_setCell]; exact fz _ _ h.m2 h.mf (by simp), c 0 _ h.r0, c 1 _ h.r1, c 2 _ h.r2⟩
  exact (h.below.grown g17 h.below.size (fun k hk => by injection hk with hk; omega)).grown g89 (by have := h.below.size; omega) (fun k hk => by injection hk with hk; simp at hk; omega)
theorem BRel.app {w wr w6 : World} {m n K q : Nat} {E : Nat → Int} (h : BRel w wr m n K q E) (hq : q < K) (hb : Below wr.heap.size wr w6) (u0 u1 : Value) :
    (∀ j u, [u0, u1][j]? = some u → (w6.alloc (.cells #[u0, u1] 49)).cell? (Addr.add ⟨w6.heap.size, 0, none⟩ j) = some u) ∧
    (∀ j, j < [u0, u1].length → ((w6.alloc (.cells #[u0, u1] 49)).cell? ⟨w.heap.size + 1, 0 + q * 2 + j, none⟩).isSome = true ∧ (w6.alloc (.cells #[u0, u1] 49)).frozen? ⟨w.heap.size + 1, 0 + q * 2 + j, none⟩ = false) ∧
    ((w6.alloc (.cells #[u0, u1] 49)).setCells (w.heap.size + 1) (q * 2) [u0, u1]).cell? ⟨w.heap.size + 1 + 1, 2, none⟩ = some (.slice (some ⟨w.heap.size + 1, 0, none⟩) q K) ∧
    ((w6.alloc (.cells #[u0, u1] 49)).setCells (w.heap.size + 1) (q * 2) [u0, u1]).frozen? ⟨w.heap.size + 1 + 1, 2, none⟩ = false ∧
    (w6.alloc (.cells #[u0, u1] 49)).cell? ⟨w.heap.size + 1 + 1, 2, none⟩ = some (.slice (some ⟨w.heap.size + 1, 0, none⟩) q K) := by
  have hg : wr.grownBy (w6.alloc (.cells #[u0, u1] 49)) none := gb_trans (gb_below hb none) (World.grownBy_alloc _ _ _)
  have hg2 : wr.grownBy ((w6.alloc (.cells #[u0, u1] 49)).setCells (w.heap.size + 1) (q * 2) [u0, u1]) (some (w.heap.size + 1)) :=
    gb_trans (gb_trans (gb_below hb _) (World.grownBy_alloc _ _ _)) (gb_trans (gb_set _ _ _) (gb_set _ _ _))
  refine ⟨fun j u hj => ?_, fun j hj => ?_, hg2.cell h.m2 (by simp), ?_, hg.cell h.m2 (by simp)⟩
  · rw [Addr.add_lit, cell_of_row _ _ _ _ _ _ (heap_alloc_new w6 _)]
    simpa using hj
  · exact (h.ls.blk.grown hg (by simp)).cell (by simp at hj; omega)
  · have hl := World.block_lt_of_cell? wr _ h.m2
    exact (World.frozen?_of_block (hg2.block (w.heap.size + 1 + 1) hl (by simp))).trans h.mf
theorem build_pick (m n : Nat) (p1 p2 p3 : Value) (E : Nat → Nat → Int) (hm : m ≤ 64) (hn : n ≤ 64) (w : World) (hz : ∀ i j, i < m → j < n → ZB 274877906944 (E i j))
    (hf : ∀ (W : World) (i j : Nat), Below w.heap.size w W → i < m → j < n → Calls Try.prog 169 #[.int .i64 i, .int .i64 j, p1, p2, p3] W fun e w' => ∃ v, e = .returned v ∧ FrZ w' W.heap.size v (E i j) ∧ Below W.heap.size W w') :
    Calls Try.prog 94 #[.int .i64 m, .int .i64 n, .func (.func 169) #[] #[p1, p2, p3]] w fun e w' => ∃ lb, e = .returned (.agg #[.int .i64 m, .int .i64 n, .slice (some ⟨lb, 0, none⟩) (m * n) (m * n)]) ∧
      FrE w' w.heap.size (fun b => b ≤ lb) lb (m * n) (fun q => E (q / n) (q % n)) ∧ Below w.heap.size w w' := by
  obtain ⟨K, hK⟩ : ∃ K, K = m * n := ⟨_, rfl⟩
  rw [← hK]
  have hK4 : K ≤ 4096 := by rw [hK]; exact Nat.mul_le_mul hm hn
  have mk : ∀ u : World, (Instr.makeSlice 22 (.int .i64 0) (.int .i64 K)).run Try.prog u = .ok (.slice (some ⟨u.heap.size, 0, none⟩) 0 K) (u.alloc (.cells (madeCells #[.bool false, .slice none 0 0] (K * 2)) 49)) := mk_intsN 0 K (Nat.zero_le _) (by omega)
  have e1 : 0 ≤ (m : Int) * n ∧ (m : Int) * n ≤ 4096 := ⟨Int.mul_nonneg (by omega) (by omega), by have := Int.mul_le_mul (show (m : Int) ≤ 64 by omega) (show (n : Int) ≤ 64 by omega) (by omega) (by omega); omega⟩
  obtain ⟨e2, e3⟩ := e1
  have e4 : (m : Int) * n = (K : Int) := by rw [hK]; simp
  have HK := Lib.hid hK
  have HZB := Lib.hid hz
  have HFN := Lib.hid hf
  clear hK hz hf
  go_enter Try.func94, Try.ntmps94
  go_wp2_with fail
  have ws := BRel.start w m n K (fun q => E (q / n) (q % n))
  have WS := Lib.hid ws
  clear ws
  obtain ⟨i0, hi, hz0, hz1, hz2⟩ := info_parts infoI
  have HI := Lib.hid (And.intro hi hz1)
  clear hi hz0 hz1 hz2 mk
  generalize ((w.alloc (.cells #[.int .i64 0, .int .i64 0, .slice none 0 0] 24)).alloc (.cells (madeCells #[.bool false, .slice none 0 0] (K * 2)) 49)).alloc
      (.cells #[.int .i64 m, .int .i64 n, .slice (some ⟨w.heap.size + 1, 0, none⟩) 0 K] 24) = W0 at WS ⊢
  go_loopw [18] (fun iv wr => ∃ i : Nat, i ≤ m ∧ iv = .int .i64 i ∧ BRel w wr m n K (i * n) (fun q => E (q / n) (q % n))) (fun iv _ => m - (intOf iv).toNat)
  case atStart => exact ⟨0, by omega, rfl, by rw [Nat.zero_mul]; exact WS.out⟩
  case round =>
    obtain ⟨i, i1, rfl, hrel⟩ := hrel
    by_cases hi : i < m
    · have HR := Lib.hid hrel
      clear hrel
      go_wp2_with fail
      go_loopw [22] (fun jv wr => ∃ j : Nat, j ≤ n ∧ jv = .int .i64 j ∧ BRel w wr m n K (i * n + j) (fun q => E (q / n) (q % n))) (fun jv _ => n - (intOf jv).toNat)
      case atStart => exact ⟨0, by omega, rfl, HR.out⟩
      case round =>
        clear HR
        obtain ⟨j, j1, rfl, hrel⟩ := hrel
        by_cases hj : j < n
        · obtain ⟨q, hq⟩ : ∃ q, q = i * n + j := ⟨_, rfl⟩
          have hqK : q < K := by
            rw [hq, HK.out]
            have := Nat.mul_le_mul_right n (show i + 1 ≤ m by omega)
            rw [Nat.add_mul, Nat.one_mul] at this; omega
          have hx : E (q / n) (q % n) = E i j := by
            rw [hq, Nat.mul_comm i n, Nat.mul_add_div (by omega), Nat.mul_add_mod, Nat.div_eq_of_lt hj, Nat.mod_eq_of_lt hj, Nat.add_zero]
          rw [← hq] at hrel
          have hcl := HFN.out wr.drew i j hrel.below.drew hi hj
          have m2 := hrel.m2
          have mf := hrel.mf
          have HR := Lib.hid hrel
          have HX := Lib.hid hx
          have HQ := Lib.hid hq
          have HZ := Lib.hid (HZB.out i j hi hj)
          have HCL := Lib.hid hcl
          clear hrel hq hx hcl
          go_wp2_with fail
          go_region_law (first
            | (go_simp; go_at_call 169; refine HCL.out.mono ?_; rintro e w6 ⟨v6, rfl, o1, o4⟩; have HRD := Lib.hid (o1.le HZ.out (Nat.le_refl _)); obtain ⟨a6, n6, c6, rfl, o2⟩ := o1.agg; have HO2 := Lib.hid o2; have k0 := cell_stays (w := wr.drew) o4 m2; have k1 := froz_stays (w := wr.drew) o4 m2 mf; have AP := Lib.hid (HR.out.app hqK (below_drew o4) (.bool (decide (E i j < 0))) (.slice a6 n6 c6)); have k4 := AP.out.2.2.2.2; clear o1 o2)
            | (refine step_append_room rfl (.tmp 26) (.tmp 31) 22 rfl 49 i0 2 Try.underlying22 HI.out.1 HI.out.2 (w.heap.size + 1) 0 q K (by simp [Act.eval, Act.put]) ⟨w6.heap.size, 0, none⟩ 1 1 [.bool (decide (E i j < 0)), .slice a6 n6 c6] (by simp [Act.eval, Act.put]) rfl AP.out.1 (by intro u hu; simp at hu; rcases hu with rfl | rfl <;> rfl) (by omega) AP.out.2.1 ?_; have k2 := AP.out.2.2.1; have k3 := AP.out.2.2.2.1))
          all_goals
            have hN := HR.out.push hqK (below_drew o4) (s := decide (E i j < 0)) (mv := .slice a6 n6 c6) (by show LeZ _ _ (E (q / n) (q % n)); rw [HX.out]; exact HRD.out) HO2.out
            have HNX := Lib.hid hN
            clear hN AP k0 k1 k2 k3 k4 o4 HO2 HRD
            try clear Q
            go_wp2_with fail
            go_roundw
            case rel => exact ⟨j + 1, by omega, by go_num, by rw [← Nat.add_assoc, ← HQ.out]; exact HNX.out⟩
            case measure => simp [intOf]; omega
        · obtain rfl : j = n := by omega
          go_wp2_with fail
          go_roundw
          case rel => exact ⟨i + 1, by omega, by go_num, by rw [Nat.add_mul, Nat.one_mul]; exact hrel⟩
          case measure => simp [intOf]; omega
    · obtain rfl : i = m := by omega
      rw [← HK.out] at hrel
      have m0 := hrel.m0
      have m1 := hrel.m1
      have m2 := hrel.m2
      obtain ⟨r0, s0⟩ := hrel.r0
      obtain ⟨r1, s1⟩ := hrel.r1
      obtain ⟨r2, s2⟩ := hrel.r2
      have HR := Lib.hid hrel
      clear hrel
      go_wp2_with fail
      have hg : wr.grownBy (((wr.setCell ⟨w.heap.size, 0, none⟩ (.int .i64 i)).setCell ⟨w.heap.size, 1, none⟩ (.int .i64 n)).setCell ⟨w.heap.size, 2, none⟩ (.slice (some ⟨w.heap.size + 1, 0, none⟩) K K)) (some w.heap.size) :=
        gb_trans (gb_trans (gb_set _ _ _) (gb_set _ _ _)) (gb_set _ _ _)
      refine bodyPost_ret (v := .agg #[.int .i64 i, .int .i64 n, .slice (some ⟨w.heap.size + 1, 0, none⟩) K K]) ?_ rfl ⟨w.heap.size + 1, rfl, ?_, ?_⟩
      · simp [results, Try.results94, go_sem, r0, r1, r2]
      · exact (HR.out.ls.grown hg (by simp) (by show w.heap.size < _; omega)).turnD (fun b _ hb => by omega)
      · exact HR.out.below.grown hg HR.out.below.size (fun k hk => by injection hk with hk; omega)
end Go.Proofs.Ytejliecmdkmgiaa
