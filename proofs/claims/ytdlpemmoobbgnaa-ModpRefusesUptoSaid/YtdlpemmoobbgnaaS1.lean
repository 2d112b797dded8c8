/- The walks of the law's sound, alike, alikeRows, alikeMats, same (where they answer yes), least, and trellisref01.Same. -/
import Derived.Test.YtdlpemmoobbgnaaR18
import Derived.Test.YtdlpemmoobbgnaaModp3
import Derived.StillTailTactics
set_option linter.unusedVariables false
set_option linter.unusedSimpArgs false
namespace Go.Proofs.Ytdlpemmoobbgnaa
open Go.RowKit

set_option maxHeartbeats 1000000 in
theorem sound_any (r c : Int) (a : Option Addr) (n cap : Nat) (hn : n ≤ 17592186044416) (w : World) :
    Calls Try.prog 15 #[.agg #[.int .i64 r, .int .i64 c, .slice a n cap]] w fun e w' => e = .returned (.bool (soundB r c n)) ∧ Below w.heap.size w w' := by
  by_cases h0 : 0 ≤ r
  · by_cases h1 : r ≤ 64
    · by_cases h2 : 0 ≤ c
      · by_cases h3 : c ≤ 64
        · obtain ⟨m0, m1⟩ := prod64 ⟨h0, h1⟩ ⟨h2, h3⟩
          by_cases he : (n : Int) = r * c
          · have hs : Hid (soundB r c n = true) := by show _ = _; unfold soundB sideB; simp [h0, h1, h2, h3, he]
            have heb : ((n : Int) == r * c) = true := beq_iff_eq.2 he
            clear he
            go_enter Try.func15, Try.ntmps15
            go_wp2_with fail
            go_ret
            exact ⟨ret_bool hs.out.symm, (Below.refl _ _).alloc (Nat.le_refl _) _⟩
          · have hs : Hid (soundB r c n = false) := by show _ = _; unfold soundB sideB; simp [h0, h1, h2, h3, he]
            have heb : ((n : Int) == r * c) = false := beq_eq_false_iff_ne.2 he
            clear he
            go_enter Try.func15, Try.ntmps15
            go_wp2_with fail
            go_ret
            exact ⟨ret_bool hs.out.symm, (Below.refl _ _).alloc (Nat.le_refl _) _⟩
        · have hs : Hid (soundB r c n = false) := by show _ = _; unfold soundB sideB; simp [h3]
          go_enter Try.func15, Try.ntmps15
          go_wp2_with fail
          go_ret
          exact ⟨ret_bool hs.out.symm, (Below.refl _ _).alloc (Nat.le_refl _) _⟩
      · have hs : Hid (soundB r c n = false) := by show _ = _; unfold soundB sideB; simp [h2]
        go_enter Try.func15, Try.ntmps15
        go_wp2_with fail
        go_ret
        exact ⟨ret_bool hs.out.symm, (Below.refl _ _).alloc (Nat.le_refl _) _⟩
    · have hs : Hid (soundB r c n = false) := by show _ = _; unfold soundB sideB; simp [h1]
      go_enter Try.func15, Try.ntmps15
      go_wp2_with fail
      go_ret
      exact ⟨ret_bool hs.out.symm, (Below.refl _ _).alloc (Nat.le_refl _) _⟩
  · have hs : Hid (soundB r c n = false) := by show _ = _; unfold soundB sideB; simp [h0]
    go_enter Try.func15, Try.ntmps15
    go_wp2_with fail
    go_ret
    exact ⟨ret_bool hs.out.symm, (Below.refl _ _).alloc (Nat.le_refl _) _⟩

set_option maxHeartbeats 1000000 in
set_option maxRecDepth 100000 in
theorem Same_yes (x y : Value) (n : Nat) (f g : Nat → Int) (w : World) (hx : RdA .u64 w x n f) (hy : RdA .u64 w y n g) (hfg : ∀ i, i < n → f i = g i) :
    Calls Try.prog 77 #[x, y] w fun e w' => e = .returned (.bool true) ∧ Below w.heap.size w w' := by
  obtain ⟨a, cap, rfl, h1, h2, h3⟩ := wd_get hx
  obtain ⟨b, cap', rfl, g1, g2, g3⟩ := wd_get hy
  have H3 := Lib.hid h3
  have G3 : Hid (∀ i, i < n → ∃ b' o, b = some ⟨b', o, none⟩ ∧ w.cell? ⟨b', o + i, none⟩ = some (.int .u64 (f i))) := fun i hi => by rw [hfg i hi]; exact g3 i hi
  clear h3 g3 hx hy hfg
  go_enter Try.func77, Try.ntmps77
  go_wp2_with fail
  go_loopw [5] (fun kv wr => ∃ k : Nat, k ≤ n ∧ kv = .int .i64 k ∧ Below w.heap.size w wr) (fun kv _ => n - (intOf kv).toNat)
  case atStart => exact ⟨0, Nat.zero_le _, rfl, Below.refl _ _⟩
  case round =>
    obtain ⟨k, k1, rfl, hb⟩ := hrel
    by_cases hk : k < n
    · obtain ⟨b1, o1, rfl, hc⟩ := H3.out k hk
      obtain ⟨b2, o2, rfl, hd⟩ := G3.out k hk
      have hc := cell_stays hb hc
      have hd := cell_stays hb hd
      generalize f k = u at hc hd
      go_wp2_with fail
      go_region
      all_goals
        go_wp2_with fail
        go_roundw
        case rel => exact ⟨k + 1, by omega, by go_num, hb.drew⟩
        case measure => simp [intOf]; omega
    · go_wp2_with fail
      go_ret
      exact ⟨rfl, hb⟩

/-- the same sign and the same words -/
def RawEq (r s : Raw) : Prop := r.neg = s.neg ∧ r.n = s.n ∧ ∀ i, i < r.n → r.f i = s.f i
theorem RawEq.refl (r : Raw) : RawEq r r := ⟨rfl, rfl, fun _ _ => rfl⟩

set_option maxHeartbeats 1000000 in
theorem alike_yes (x y : Value) (r s : Raw) (w : World) (hx : RdI w x r) (hy : RdI w y s) (h : RawEq r s) :
    Calls Try.prog 54 #[x, y] w fun e w' => e = .returned (.bool true) ∧ Below w.heap.size w w' := by
  obtain ⟨m, rfl, hr, -⟩ := hx
  obtain ⟨l, rfl, hs, -⟩ := hy
  obtain ⟨e1, e2, e3⟩ := h
  rw [← e1]
  rw [← e2] at hs
  have hb0 : Below w.heap.size w ((w.alloc (.cells #[.bool r.neg, m] 56)).alloc (.cells #[.bool r.neg, l] 56)) := ((Below.refl _ _).alloc (Nat.le_refl _) _).alloc (by simp) _
  have hsm := Same_yes _ _ _ _ _ _ (hr.below hb0) (hs.below hb0) e3
  obtain ⟨am, cm, rfl, -⟩ := hr
  obtain ⟨al, cl, rfl, -⟩ := hs
  obtain ⟨⟨x0, x1, y0, y1, -, -⟩, -, -⟩ := boxes2 w (.bool r.neg) (.slice am r.n cm) (.bool r.neg) (.slice al r.n cl) 56
  have HSM := Lib.hid hsm
  have HB0 := Lib.hid hb0
  clear hb0 hsm e1 e2 e3
  go_enter Try.func54, Try.ntmps54
  go_wp2_with fail
  refine HSM.out.mono ?_
  rintro e w4 ⟨rfl, hb4⟩
  have x0 := cell_stays hb4 x0
  have y0 := cell_stays hb4 y0
  have HB4 := Lib.hid (HB0.out.trans (hb4.mono HB0.out.size))
  clear hb4
  go_wp2_with fail
  go_ret
  exact ⟨by simp, HB4.out⟩

set_option maxHeartbeats 1000000 in
set_option maxRecDepth 100000 in
theorem alikeRows_yes (x y : Value) (n : Nat) (X Y : Nat → Raw) (w : World) (hx : RdL w x n X) (hy : RdL w y n Y) (h : ∀ i, i < n → RawEq (X i) (Y i)) :
    Calls Try.prog 49 #[x, y] w fun e w' => e = .returned (.bool true) ∧ Below w.heap.size w w' := by
  obtain ⟨a, cap, rfl, h1, h2, h3⟩ := hx
  obtain ⟨b, cap', rfl, g1, g2, g3⟩ := hy
  have H3 := Lib.hid h3
  have G3 := Lib.hid g3
  have HE := Lib.hid h
  clear h3 g3 h
  go_enter Try.func49, Try.ntmps49
  go_wp2_with fail
  go_loopw [5] (fun kv wr => ∃ k : Nat, k ≤ n ∧ kv = .int .i64 k ∧ Below w.heap.size w wr) (fun kv _ => n - (intOf kv).toNat)
  case atStart => exact ⟨0, Nat.zero_le _, rfl, Below.refl _ _⟩
  case round =>
    obtain ⟨k, k1, rfl, hb⟩ := hrel
    by_cases hk : k < n
    · obtain ⟨b1, o1, rfl, hc⟩ := H3.out (by omega)
      obtain ⟨b2, o2, rfl, hd⟩ := G3.out (by omega)
      obtain ⟨m1, c1, c2, c3⟩ := hc k hk
      obtain ⟨m2, d1, d2, d3⟩ := hd k hk
      have c1 := cell_stays hb c1
      have c2 := cell_stays hb c2
      have d1 := cell_stays hb d1
      have d2 := cell_stays hb d2
      have hal := alike_yes _ _ (X k) (Y k) wr.drew ⟨m1, rfl, (c3.below hb).below (Below.refl wr.heap.size wr).drew⟩ ⟨m2, rfl, (d3.below hb).below (Below.refl wr.heap.size wr).drew⟩ (HE.out k hk)
      have HAL := Lib.hid hal
      clear hal hc hd c3 d3
      go_wp2_with fail
      refine wp_region_still_tail 8 (by kernel_rfl) (by kernel_rfl) ?_
      simp only [List.take_succ_cons, List.take_zero, List.drop_succ_cons, List.drop_zero]
      repeat still_step
      refine wpStill_nil ?_
      change wpList _ _ _ _ _ wr.drew
      go_wp2_with (go_at_call 54; (with_reducible refine HAL.out.mono ?_); rintro e w5 ⟨rfl, hb5⟩)
      go_roundw
      case rel => exact ⟨k + 1, by omega, by go_num, hb.trans ((((Below.refl wr.heap.size wr).drew).trans hb5).mono hb.size)⟩
      case measure => simp [intOf]; omega
    · go_wp2_with fail
      go_ret
      exact ⟨rfl, hb⟩

theorem alikeMats_yes (x y : Value) (r c : Int) (n : Nat) (X Y : Nat → Raw) (w : World) (hx : RdL w x n X) (hy : RdL w y n Y) (h : ∀ i, i < n → RawEq (X i) (Y i)) :
    Calls Try.prog 21 #[.agg #[.int .i64 r, .int .i64 c, x], .agg #[.int .i64 r, .int .i64 c, y]] w fun e w' => e = .returned (.bool true) ∧ Below w.heap.size w w' := by
  obtain ⟨a, cap, rfl, -⟩ := hx.slice
  obtain ⟨b, cap', rfl, -⟩ := hy.slice
  have z1 := three_cells w (.int .i64 r) (.int .i64 c) (.slice a n cap) 34
  have hb1 : Below w.heap.size w (w.alloc (.cells #[.int .i64 r, .int .i64 c, .slice a n cap] 34)) := (Below.refl _ _).alloc (Nat.le_refl _) _
  have hs1 : (w.alloc (.cells #[.int .i64 r, .int .i64 c, .slice a n cap] 34)).heap.size = w.heap.size + 1 := by simp
  have z2 := three_cells (w.alloc (.cells #[.int .i64 r, .int .i64 c, .slice a n cap] 34)) (.int .i64 r) (.int .i64 c) (.slice b n cap') 34
  rw [hs1] at z2
  have hb2 : Below (w.heap.size + 1) (w.alloc (.cells #[.int .i64 r, .int .i64 c, .slice a n cap] 34)) ((w.alloc (.cells #[.int .i64 r, .int .i64 c, .slice a n cap] 34)).alloc (.cells #[.int .i64 r, .int .i64 c, .slice b n cap'] 34)) := (Below.refl _ _).alloc (by rw [hs1]; omega) _
  rw [← hs1] at hb2
  have hb := hb1.trans (hb2.mono (by omega))
  have hal := alikeRows_yes _ _ n X Y _ (hx.below hb) (hy.below hb) h
  have x0 := cell_stays hb2 (z1 0 _ rfl).1
  have x1 := cell_stays hb2 (z1 1 _ rfl).1
  have x2 := cell_stays hb2 (z1 2 _ rfl).1
  have y0 := (z2 0 _ rfl).1
  have y1 := (z2 1 _ rfl).1
  have y2 := (z2 2 _ rfl).1
  have HAL := Lib.hid hal
  have HB := Lib.hid hb
  clear hx hy h hal hb hb1 hb2 z1 z2 hs1
  go_enter Try.func21, Try.ntmps21
  go_wp2_with fail
  refine HAL.out.mono ?_
  rintro e w4 ⟨rfl, hb4⟩
  have x0 := cell_stays hb4 x0
  have x1 := cell_stays hb4 x1
  have y0 := cell_stays hb4 y0
  have y1 := cell_stays hb4 y1
  have HB4 := Lib.hid (HB.out.trans (hb4.mono HB.out.size))
  clear hb4
  go_wp2_with fail
  go_ret
  exact ⟨by simp, HB4.out⟩

end Go.Proofs.Ytdlpemmoobbgnaa
