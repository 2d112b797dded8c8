/- The walks of trellisref03.DivMod, trellisref05.Trunc, Euclid, Mod. -/
import Derived.Test.YtdlpemmoobbgnaaR14
set_option linter.unusedVariables false
set_option linter.unusedSimpArgs false
namespace Go.Proofs.Ytdlpemmoobbgnaa
open Go.RowKit

theorem FrH.nat {w : World} {base : Nat} {v : Value} {N : Int} (h : FrH w base v N) : ∃ a n cap f, v = .slice a n cap ∧ FrA .u64 22 w base (.slice a n cap) n f ∧ Dig 4294967296 n f N := by
  obtain ⟨n, f, h1, h2⟩ := h
  obtain ⟨a, cap, rfl⟩ := h1.slice
  exact ⟨a, n, cap, f, rfl, h1, h2⟩

theorem RdA.slice {k : IntKind} {w : World} {v : Value} {n : Nat} {f : Nat → Int} (h : RdA k w v n f) : ∃ a cap, v = .slice a n cap := by
  obtain ⟨a, cap, rfl, _⟩ := h
  exact ⟨a, cap, rfl⟩

set_option maxHeartbeats 1000000 in
theorem DivMod_any (x y : Value) (n m : Nat) (f g : Nat → Int) (w : World) (hn : n ≤ 549755813888) (hm : m ≤ 549755813888) (hD : 0 < natFrom g 0 m) (hx : RdW w x n f) (hy : RdW w y m g) :
    Calls Try.prog 126 #[x, y] w fun e w' => ∃ v1 v2, e = .returned (.tuple #[v1, v2, .int .i64 0]) ∧ FrN w' w.heap.size v1 (natFrom f 0 n / natFrom g 0 m) ∧ FrN w' w.heap.size v2 (natFrom f 0 n % natFrom g 0 m) ∧ Below w.heap.size w w' := by
  have HX := Lib.hid hx
  have HY := Lib.hid hy
  have lt1 : natFrom f 0 n < 4294967296 ^ (2 * n) := by
    have := (natFrom_bd hx.2).2
    rw [Int.pow_mul]; exact this
  have lt2 : natFrom g 0 m < 4294967296 ^ (2 * m) := by
    have := (natFrom_bd hy.2).2
    rw [Int.pow_mul]; exact this
  obtain ⟨ax, cx, rfl, -⟩ := hx.1
  obtain ⟨ay, cy, rfl, -⟩ := hy.1
  obtain ⟨A, hA⟩ : ∃ A, A = natFrom f 0 n := ⟨_, rfl⟩
  obtain ⟨D, hDe⟩ : ∃ D, D = natFrom g 0 m := ⟨_, rfl⟩
  rw [← hA] at lt1 ⊢
  rw [← hDe] at lt2 hD ⊢
  have HL1 := Lib.hid lt1
  have HL2 := Lib.hid lt2
  have HA := Lib.hid hA.symm
  have HD := Lib.hid hDe.symm
  clear hx hy lt1 lt2 hA hDe
  go_enter Try.func126, Try.ntmps126
  go_wp2_with fail
  refine (halves_any _ m g _ (by omega) HY.out).mono ?_
  rw [HD.out]
  rintro e w1 ⟨v1, rfl, hfr, hb1⟩
  obtain ⟨a1, n1, c1, f1, rfl, hfr, hdg⟩ := hfr.nat
  have hn1 : n1 ≤ 1099511627776 := by have := hdg.len (by omega) HL2.out; omega
  have hn0 : 0 < n1 := Nat.pos_of_ne_zero fun h => by have := (hdg.zero_iff (by omega)).1 h; omega
  have HF1 := Lib.hid hfr
  have HD1 := Lib.hid hdg
  have HX := Lib.hid (HX.out.below hb1)
  have HB1 := Lib.hid hb1
  have hn1b : ((n1 : Int) == 0) = false := beq_eq_false_iff_ne.2 (by omega)
  clear hfr hdg hb1
  go_wp2_with fail
  refine (halves_any _ n f _ (by omega) HX.out).mono ?_
  rw [HA.out]
  rintro e w2 ⟨v2, rfl, hfr, hb2⟩
  obtain ⟨a2, n2, c2, f2, rfl, hfr, hdg⟩ := hfr.nat
  have hn2 : n2 ≤ 1099511627776 := by have := hdg.len (by omega) HL1.out; omega
  have HF1 := Lib.hid (HF1.out.below hb2)
  have HF2 := Lib.hid hfr
  have HD2 := Lib.hid hdg
  have HB2 := Lib.hid (HB1.out.trans (hb2.mono HB1.out.size))
  clear hfr hdg hb2
  go_wp2_with fail
  refine (divide_any _ _ n2 n1 f2 f1 A D _ hn2 hn1 HF2.out.read HF1.out.read HD2.out HD1.out hD).mono ?_
  rintro e w3 ⟨q1, q2, k1, k2, g1, g2, rfl, hr1, hd1, hr2, hd2, hb3⟩
  obtain ⟨b1, s1, rfl⟩ := hr1.slice
  obtain ⟨b2, s2, rfl⟩ := hr2.slice
  have hA0 := HD2.out.nonneg (by omega)
  have hk1 : k1 ≤ 1099511627776 := by
    have h1 : A / D ≤ A := Int.ediv_le_self _ hA0
    have := hd1.len_le (by omega) HD2.out h1; omega
  have hk2 : k2 ≤ 1099511627776 := by
    have h1 : A % D ≤ D := Int.le_of_lt (Int.emod_lt_of_pos _ hD)
    have := hd2.len_le (by omega) HD1.out h1; omega
  have HR1 := Lib.hid hr1
  have HR2 := Lib.hid hr2
  have HG1 := Lib.hid hd1
  have HG2 := Lib.hid hd2
  have HB3 := Lib.hid (HB2.out.trans (hb3.mono HB2.out.size))
  clear hr1 hr2 hd1 hd2 hb3
  go_wp2_with fail
  refine (words3_any _ k1 _ g1 _ hk1 HG1.out.bd HR1.out).mono ?_
  rw [HG1.out.val]
  rintro e w4 ⟨v4, rfl, hfn, hb4⟩
  obtain ⟨a4, n4, c4, f4, rfl, h1, h2⟩ := hfn.nat
  have H1 := Lib.hid (h1.mono HB3.out.size)
  have H2 := Lib.hid h2
  have HR2 := Lib.hid (HR2.out.below hb4)
  have HB4 := Lib.hid (HB3.out.trans (hb4.mono HB3.out.size))
  clear hfn h1 h2 hb4
  go_wp2_with fail
  refine (words3_any _ k2 _ g2 _ hk2 HG2.out.bd HR2.out).mono ?_
  rw [HG2.out.val]
  rintro e w5 ⟨v5, rfl, hfn, hb5⟩
  obtain ⟨a5, n5, c5, f5, rfl, h1, h2⟩ := hfn.nat
  have H1 := Lib.hid (H1.out.below hb5)
  have H3 := Lib.hid (h1.mono HB4.out.size)
  have H4 := Lib.hid h2
  have HB5 := Lib.hid (HB4.out.trans (hb5.mono HB4.out.size))
  clear hfn h1 h2 hb5
  go_wp2_with fail
  refine bodyPost_ret (v := .tuple #[.slice a4 n4 c4, .slice a5 n5 c5, .int .i64 0]) (by simp [results, Try.results126, go_sem]) rfl ⟨_, _, rfl, ⟨_, _, H1.out, H2.out⟩, ⟨_, _, H3.out, H4.out⟩, HB5.out⟩

end Go.Proofs.Ytdlpemmoobbgnaa
