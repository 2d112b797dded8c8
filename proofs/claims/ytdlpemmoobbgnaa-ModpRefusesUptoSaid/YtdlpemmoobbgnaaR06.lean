/- The walks of trellisref05.Sub, Least, Abs, Sign, Of (numbers from 0 on). -/
import Derived.Test.YtdlpemmoobbgnaaR05
set_option linter.unusedVariables false
set_option linter.unusedSimpArgs false
namespace Go.Proofs.Ytdlpemmoobbgnaa
open Go.RowKit

/-- two boxes of two cells, just made -/
theorem boxes2 (w : World) (a0 a1 c0 c1 : Value) (t : TypeId) :
    let W := (w.alloc (.cells #[a0, a1] t)).alloc (.cells #[c0, c1] t)
    (W.cell? ⟨w.heap.size, 0, none⟩ = some a0 ∧ W.cell? ⟨w.heap.size, 1, none⟩ = some a1 ∧
      W.cell? ⟨w.heap.size + 1, 0, none⟩ = some c0 ∧ W.cell? ⟨w.heap.size + 1, 1, none⟩ = some c1 ∧ W.frozen? ⟨w.heap.size + 1, 0, none⟩ = false ∧ W.frozen? ⟨w.heap.size + 1, 1, none⟩ = false) ∧
    Below w.heap.size w W ∧ W.heap.size = w.heap.size + 2 := by
  intro W
  obtain ⟨w1, h1⟩ : ∃ w1, w1 = w.alloc (.cells #[a0, a1] t) := ⟨_, rfl⟩
  have hW : W = w1.alloc (.cells #[c0, c1] t) := by rw [h1]
  have s1 : w1.heap.size = w.heap.size + 1 := by rw [h1]; simp
  have b1' : Below w.heap.size w w1 := by rw [h1]; exact (Below.refl _ _).alloc (Nat.le_refl _) _
  have b3 : Below w1.heap.size w1 W := by rw [hW]; exact (Below.refl _ _).alloc (Nat.le_refl _) _
  have k1 := cells2 w a0 a1 t
  have k3 := cells2 w1 c0 c1 t
  rw [← h1] at k1
  rw [← hW, s1] at k3
  have sW : W.heap.size = w.heap.size + 2 := by rw [hW]; simp [s1]
  clear_value W
  exact ⟨⟨cell_stays b3 (k1 0 _ rfl).1, cell_stays b3 (k1 1 _ rfl).1, (k3 0 _ rfl).1, (k3 1 _ rfl).1, (k3 0 _ rfl).2, (k3 1 _ rfl).2⟩, b1'.trans (b3.mono (by omega)), sW⟩

theorem RdZ.negate {w : World} {b : Bool} {m : Value} {z : Int} (h : RdZ w (.agg #[.bool b, m]) z) : RdZ w (.agg #[.bool (!b), m]) (-z) := by
  obtain ⟨r, ⟨m', e, h⟩, rfl, hn⟩ := h
  simp only [Value.agg.injEq, Array.mk.injEq, List.cons.injEq, Value.bool.injEq, and_true] at e
  obtain ⟨rfl, rfl⟩ := e
  refine ⟨⟨!r.neg, r.n, r.f⟩, ⟨m, rfl, h⟩, ?_, hn⟩
  unfold Raw.val Raw.mag
  cases r.neg <;> simp

theorem RdZ.parts {w : World} {v : Value} {z : Int} (h : RdZ w v z) : ∃ b a n cap f, v = .agg #[.bool b, .slice a n cap] ∧ RdW w (.slice a n cap) n f ∧ n ≤ 274877906944 ∧ z = (if b then - natFrom f 0 n else natFrom f 0 n) := by
  obtain ⟨r, ⟨m, rfl, hr⟩, rfl, hn⟩ := h
  obtain ⟨a, cap, rfl, h2⟩ := hr.1
  exact ⟨r.neg, a, r.n, cap, r.f, rfl, hr, hn, rfl⟩

set_option maxHeartbeats 400000 in
theorem Sub05_any (x y : Value) (a b : Int) (w : World) (hx : RdZ w x a) (hy : RdZ w y b) :
    Calls Try.prog 32 #[x, y] w fun e w' => ∃ v, e = .returned v ∧ FrZ w' w.heap.size v (a - b) ∧ Below w.heap.size w w' := by
  obtain ⟨p, am, n, cm, f, rfl, -⟩ := hx.parts
  obtain ⟨q, al, m, cl, g, rfl, -⟩ := hy.parts
  obtain ⟨⟨x0, x1, y0, y1, z0, z1, z2, z3⟩, hb, hs3⟩ := boxes3 w (.bool p) (.slice am n cm) (.bool q) (.slice al m cl) (.bool false) (.slice none 0 0) 56
  have hadd := Add05_any _ _ _ _ _ (hx.below hb) (hy.below hb).negate
  rw [← Int.sub_eq_add_neg] at hadd
  have HADD := Lib.hid hadd
  have HB := Lib.hid hb
  have HS3 := Lib.hid hs3
  clear hx hy hb hs3 hadd
  go_enter Try.func32, Try.ntmps32
  go_wp2_with fail
  refine HADD.out.mono ?_
  rintro e w5 ⟨v5, rfl, hz, hb5⟩
  obtain ⟨aq, nq, cq, rfl, hst⟩ := FrZ.stored (b := w.heap.size + 1 + 1) (hz.mono (by have := HS3.out; omega))
  have z0' := z0
  have z1' := z1
  have z0 := cell_stays hb5 z0
  have z1 := cell_stays hb5 z1
  have z2 := froz_stays hb5 z0' z2
  have z3 := froz_stays hb5 z1' z3
  have hbw := HB.out.trans (hb5.mono HB.out.size)
  have hbl : Below w.heap.size w (stored2 w5 (w.heap.size + 1 + 1) (.bool (decide (a - b < 0))) (.slice aq nq cq)) := hbw.grown (stored2_gb _ _ _ _) hbw.size (fun k hk => by injection hk with hk; omega)
  have HST := Lib.hid (hst.mono (show w.heap.size ≤ w.heap.size + 1 + 1 by omega))
  have HBL := Lib.hid hbl
  clear hz hst hbl hbw hb5 z0' z1'
  go_wp2_with fail
  refine bodyPost_ret (v := .agg #[.bool (decide (a - b < 0)), .slice aq nq cq]) ?_ rfl ⟨_, rfl, HST.out, HBL.out⟩
  simp [results, Try.results32, go_sem, z0, z1]

set_option maxHeartbeats 400000 in
theorem Least05_any (x : Value) (a : Int) (w : World) (hx : RdZ w x a) :
    Calls Try.prog 42 #[x] w fun e w' => ∃ v, e = .returned v ∧ FrZ w' w.heap.size v a ∧ Below w.heap.size w w' := by
  obtain ⟨p, am, n, cm, f, rfl, hr, hn, ha⟩ := hx.parts
  obtain ⟨⟨x0, x1, z0, z1, z2, z3⟩, hb, hs3⟩ := boxes2 w (.bool p) (.slice am n cm) (.bool false) (.slice none 0 0) 56
  have hadd := made_any p _ n f _ (by omega) (hr.below hb)
  rw [← ha] at hadd
  have HADD := Lib.hid hadd
  have HB := Lib.hid hb
  have HS3 := Lib.hid hs3
  clear hx hr ha hb hs3 hadd
  go_enter Try.func42, Try.ntmps42
  go_wp2_with fail
  refine HADD.out.mono ?_
  rintro e w5 ⟨v5, rfl, hz, hb5⟩
  obtain ⟨aq, nq, cq, rfl, hst⟩ := FrZ.stored (b := w.heap.size + 1) (hz.mono (by have := HS3.out; omega))
  have z0' := z0
  have z1' := z1
  have z0 := cell_stays hb5 z0
  have z1 := cell_stays hb5 z1
  have z2 := froz_stays hb5 z0' z2
  have z3 := froz_stays hb5 z1' z3
  have hbw := HB.out.trans (hb5.mono HB.out.size)
  have hbl : Below w.heap.size w (stored2 w5 (w.heap.size + 1) (.bool (decide (a < 0))) (.slice aq nq cq)) := hbw.grown (stored2_gb _ _ _ _) hbw.size (fun k hk => by injection hk with hk; omega)
  have HST := Lib.hid (hst.mono (show w.heap.size ≤ w.heap.size + 1 by omega))
  have HBL := Lib.hid hbl
  clear hz hst hbl hbw hb5 z0' z1'
  go_wp2_with fail
  refine bodyPost_ret (v := .agg #[.bool (decide (a < 0)), .slice aq nq cq]) ?_ rfl ⟨_, rfl, HST.out, HBL.out⟩
  simp [results, Try.results42, go_sem, z0, z1]

set_option maxHeartbeats 400000 in
theorem Abs05_any (x : Value) (a : Int) (w : World) (hx : RdZ w x a) :
    Calls Try.prog 104 #[x] w fun e w' => ∃ v, e = .returned v ∧ FrZ w' w.heap.size v (a.natAbs : Int) ∧ Below w.heap.size w w' := by
  obtain ⟨p, am, n, cm, f, rfl, hr, hn, ha⟩ := hx.parts
  obtain ⟨⟨x0, x1, z0, z1, z2, z3⟩, hb, hs3⟩ := boxes2 w (.bool p) (.slice am n cm) (.bool false) (.slice none 0 0) 56
  have hadd := made_any false _ n f _ (by omega) (hr.below hb)
  have hN := (natFrom_bd hr.2).1
  have hz0 : (if false = true then - natFrom f 0 n else natFrom f 0 n) = (a.natAbs : Int) := by rw [if_neg (by simp), ha]; split <;> omega
  rw [hz0] at hadd
  have HADD := Lib.hid hadd
  have HB := Lib.hid hb
  have HS3 := Lib.hid hs3
  clear hx hr ha hb hs3 hadd hN hz0
  generalize (a.natAbs : Int) = a at *
  go_enter Try.func104, Try.ntmps104
  go_wp2_with fail
  refine HADD.out.mono ?_
  rintro e w5 ⟨v5, rfl, hz, hb5⟩
  obtain ⟨aq, nq, cq, rfl, hst⟩ := FrZ.stored (b := w.heap.size + 1) (hz.mono (by have := HS3.out; omega))
  have z0' := z0
  have z1' := z1
  have z0 := cell_stays hb5 z0
  have z1 := cell_stays hb5 z1
  have z2 := froz_stays hb5 z0' z2
  have z3 := froz_stays hb5 z1' z3
  have hbw := HB.out.trans (hb5.mono HB.out.size)
  have hbl : Below w.heap.size w (stored2 w5 (w.heap.size + 1) (.bool (decide (a < 0))) (.slice aq nq cq)) := hbw.grown (stored2_gb _ _ _ _) hbw.size (fun k hk => by injection hk with hk; omega)
  have HST := Lib.hid (hst.mono (show w.heap.size ≤ w.heap.size + 1 by omega))
  have HBL := Lib.hid hbl
  clear hz hst hbl hbw hb5 z0' z1'
  go_wp2_with fail
  refine bodyPost_ret (v := .agg #[.bool (decide (a < 0)), .slice aq nq cq]) ?_ rfl ⟨_, rfl, HST.out, HBL.out⟩
  simp [results, Try.results104, go_sem, z0, z1]

/-- 1, 0 or -1 -/
def sgn (a : Int) : Int := if a < 0 then -1 else if 0 < a then 1 else 0

set_option maxHeartbeats 400000 in
theorem Sign_any (x : Value) (a : Int) (w : World) (hx : RdZ w x a) :
    Calls Try.prog 102 #[x] w fun e w' => e = .returned (.int .i64 (sgn a)) ∧ Below w.heap.size w w' := by
  obtain ⟨p, am, n, cm, f, rfl, -⟩ := hx.parts
  have hb0 : Below w.heap.size w (w.alloc (.cells #[.bool p, .slice am n cm] 56)) := (Below.refl _ _).alloc (Nat.le_refl _) _
  have hl := Least05_any _ _ _ (hx.below hb0)
  have HL := Lib.hid hl
  have HB := Lib.hid hb0
  clear hx hb0 hl
  go_enter Try.func102, Try.ntmps102
  go_wp2_with fail
  refine HL.out.mono ?_
  rintro e w5 ⟨v5, rfl, ⟨m, n2, f2, rfl, h1, h2⟩, hb5⟩
  obtain ⟨a2, cap2, rfl⟩ := h1.slice
  have hbw := HB.out.trans (hb5.mono HB.out.size)
  have hzi := h2.zero_iff (by omega)
  have HBW := Lib.hid hbw
  have HZ := Lib.hid hzi
  clear h1 h2 hbw hzi hb5
  by_cases hneg : a < 0
  · have hs : Hid (sgn a = -1) := if_pos hneg
    rw [decide_eq_true hneg]
    go_wp2_with fail
    go_ret
    exact ⟨ret_i64 hs.out.symm, HBW.out.alloc HBW.out.size _⟩
  · rw [decide_eq_false hneg]
    by_cases hpos : 0 < n2
    · have hs : Hid (sgn a = 1) := by show _ = _; unfold sgn; have := HZ.out; rw [if_neg hneg, if_pos (by omega)]
      go_wp2_with fail
      go_ret
      exact ⟨ret_i64 hs.out.symm, HBW.out.alloc HBW.out.size _⟩
    · have hs : Hid (sgn a = 0) := by show _ = _; unfold sgn; have := HZ.out; rw [if_neg hneg, if_neg (by omega)]
      go_wp2_with fail
      go_ret
      exact ⟨ret_i64 hs.out.symm, HBW.out.alloc HBW.out.size _⟩

theorem one_word (w : World) (x : Int) (x0 : 0 ≤ x) (x1 : x ≤ 18446744073709551615) (e : TypeId) : RdW (w.alloc (.cells #[.int .u64 x] e)) (.slice (some ⟨w.heap.size, 0, none⟩) 1 1) 1 (fun _ => x) := by
  refine ⟨⟨_, 1, rfl, Nat.le_refl _, by omega, fun _ => ⟨w.heap.size, 0, rfl, fun i hi => ?_⟩⟩, fun _ _ => ⟨x0, x1⟩⟩
  obtain rfl : i = 0 := by omega
  rw [cell_of_row _ _ _ _ _ _ (heap_alloc_new w _)]; rfl

set_option maxHeartbeats 400000 in
theorem Of05_any (x : Int) (x0 : 0 ≤ x) (x1 : x ≤ 9223372036854775807) (w : World) :
    Calls Try.prog 103 #[.int .i64 x] w fun e w' => ∃ v, e = .returned v ∧ FrZ w' w.heap.size v x ∧ Below w.heap.size w w' := by
  have hb0 : Below w.heap.size w (w.alloc (.cells #[.bool false, .slice none 0 0] 56)) := (Below.refl _ _).alloc (Nat.le_refl _) _
  have z := cells2 w (.bool false) (.slice none 0 0) 56
  have hs0 : (w.alloc (.cells #[.bool false, .slice none 0 0] 56)).heap.size = w.heap.size + 1 := by simp
  have hm := fun (W : World) => made_any false _ 1 (fun _ => x) _ (by omega) (one_word W x x0 (by omega) 22)
  have hN : (if false = true then - natFrom (fun _ => x) 0 1 else natFrom (fun _ => x) 0 1) = x := by rw [if_neg (by simp)]; simp [natFrom]
  rw [hN] at hm
  have hbb := fun (W : World) => ((Below.refl W.heap.size W).alloc (Nat.le_refl _) (.cells #[.int .u64 x] 22))
  have HM := Lib.hid hm
  have HBB := Lib.hid hbb
  have HB0 := Lib.hid hb0
  have Z := Lib.hid z
  have HS0 := Lib.hid hs0
  clear hb0 z hs0 hm hN hbb
  go_enter Try.func103, Try.ntmps103
  go_wp2_with fail
  have hz := Z.out
  have hs0 := HS0.out
  rw [← hs0]
  have hb0 := HB0.out
  clear Z HS0 HB0
  generalize w.alloc (.cells #[.bool false, .slice none 0 0] 56) = W at hz hb0 hs0 ⊢
  have hbW := HBB.out W
  refine (HM.out W).mono ?_
  rintro e w5 ⟨v5, rfl, hzz, hb5⟩
  have hbW5 : Below W.heap.size W w5 := hbW.trans (hb5.mono hbW.size)
  have z0 := cell_stays hbW5 (hz 0 _ rfl).1
  have z1 := cell_stays hbW5 (hz 1 _ rfl).1
  have z2 := froz_stays hbW5 (hz 0 _ rfl).1 (hz 0 _ rfl).2
  have z3 := froz_stays hbW5 (hz 1 _ rfl).1 (hz 1 _ rfl).2
  obtain ⟨aq, nq, cq, rfl, hst⟩ := FrZ.stored (b := w.heap.size) (hzz.mono (by have := hbW.size; omega))
  have hbw := hb0.trans (hbW5.mono hb0.size)
  have HST := Lib.hid hst
  have HBL := Lib.hid (stored2_below hbw (.bool (decide (x < 0))) (.slice aq nq cq))
  clear hzz hst hbw hb5 hbW hbW5 hz hb0 hs0
  go_wp2_with fail
  refine bodyPost_ret (v := .agg #[.bool (decide (x < 0)), .slice aq nq cq]) ?_ rfl ⟨_, rfl, HST.out, HBL.out⟩
  simp [results, Try.results103, go_sem, z0, z1]

end Go.Proofs.Ytdlpemmoobbgnaa
