/- The walk of modp.Echelon. -/
import Derived.Test.YtdlpemmoobbgnaaAnsA
set_option linter.unusedVariables false
set_option linter.unusedSimpArgs false
namespace Go.Proofs.Ytdlpemmoobbgnaa
open Go.RowKit

set_option maxHeartbeats 2000000 in
set_option maxRecDepth 100000 in
theorem Echelon_any (r c : Int) (p : Int) (hp : 0 ≤ p) (s : Value) (n : Nat) (x : Nat → Raw) (w : World) (hr : RdL w s n x) :
    Calls Try.prog 25 #[.agg #[.int .i64 r, .int .i64 c, s], .int .u64 p] w fun e w' => ∃ v,
      e = .returned (.tuple #[v, .int .i64 (openE r c n p true)]) ∧ AnsM w' w.heap.size v (openE r c n p true) r.toNat c.toNat (redS p r.toNat c.toNat (resG p c.toNat x) c.toNat).G ∧ Below w.heap.size w w' := by
  obtain ⟨a, cap, rfl, hn⟩ := hr.slice
  have HR := Lib.hid hr
  have HO := Lib.hid (Opened.start w r c (.slice a n cap))
  clear hr
  by_cases he : openE r c n p true = 0
  · obtain ⟨R, C, rfl, rfl, hR, hC, hN, p0, p1, -, -⟩ := openE_ok he
    rw [he, Int.toNat_natCast, Int.toNat_natCast]
    obtain ⟨S, hS⟩ : ∃ S, S = RS.run p R C ⟨resG p C x, [], 1 % p⟩ C := ⟨_, rfl⟩
    rw [show redS p R C (resG p C x) C = S from hS.symm]
    have HE := Lib.hid he
    have HN := Lib.hid hN
    have HS := Lib.hid hS
    have HGB : Hid (∀ i j, i < R → j < C → 0 ≤ S.G i j ∧ S.G i j < 2147483648) := fun i j hi hj => by
      have := redS_res p0 (resG_res p (by omega) R C C x) C i j hi hj
      rw [show redS p R C (resG p C x) C = S from hS.symm] at this; omega
    clear he hN hS
    go_enter Try.func25, Try.ntmps25
    go_wp2_with (first
      | (go_at_call 43; refine (open_any R C a n cap hn p hp true _).mono ?_; rw [HE.out]; rintro e w1 ⟨rfl, hb1⟩; have HO := Lib.hid (HO.out.step HO.out.size hb1); obtain ⟨x0, x1, x2, ⟨z0, y0⟩, ⟨z1, y1⟩, ⟨z2, y2⟩, hB1, hsz⟩ := HO.out; have hr1 := Lib.hid (HR.out.below hB1); clear hb1)
      | (go_at_call 45; refine (residues_any p (by omega) p1 R C n (by omega) (by omega) HN.out _ x _ hr1.out).mono ?_; rintro e w2 ⟨gb, B, rfl, hp2, hb2⟩; have HO2 := Lib.hid (HO.out.step hsz hb2); have y0 := HO2.out.x0; have y1 := HO2.out.x1; have y2 := HO2.out.x2)
      | (go_at_call 44; refine (reduce_any p p0 p1 R C C R _ gb 0 B _ _ (resG p C x) (by omega) (by omega) (Nat.le_refl _) (resG_res p (by omega) R C C x) _ (hp2.grid (by omega)) hb2.size).mono ?_; rw [← HS.out]; rintro e w3 ⟨B', O', C', pv, rfl, hg3, ho3, hb3⟩; obtain ⟨pa, pc, rfl⟩ := own_slice ho3; have HO3 := Lib.hid (HO2.out.step hsz hb3); have y0 := HO3.out.x0; have y1 := HO3.out.x1; have y2 := HO3.out.x2)
      | (go_at_call 48; refine (whole_any R C R _ gb 0 B' _ _ _ hR hC HGB.out _ hg3).mono ?_; rintro e w4 ⟨lb, M, rfl, hl4, hb4⟩; have hs3 := HO3.out.size; have HO4 := Lib.hid (HO3.out.step hs3 hb4); obtain ⟨y0, y1, y2, ⟨z0, s0⟩, ⟨z1, s1⟩, ⟨z2, s2⟩, hB4, hsz4⟩ := HO4.out))
    obtain ⟨o1, o2⟩ := HO4.out.out (.int .i64 R) (.int .i64 C) (.slice (some ⟨lb, 0, none⟩) (R * C) (R * C)) hs3 hl4
    refine bodyPost_ret (v := .tuple #[.agg #[.int .i64 R, .int .i64 C, .slice (some ⟨lb, 0, none⟩) (R * C) (R * C)], .int .i64 0]) ?_ rfl ⟨_, rfl, ⟨fun _ => ⟨lb, M, rfl, o1⟩, fun h => absurd rfl h⟩, o2⟩
    simp [results, Try.results25, go_sem, z0, z1, z2]
  · have hne : (openE r c n p true != 0) = true := by rw [bne_iff_ne]; exact he
    obtain ⟨E, hE⟩ : ∃ E, E = openE r c n p true := ⟨_, rfl⟩
    rw [← hE] at hne ⊢
    have HE := Lib.hid hE.symm
    have HNE : Hid (E ≠ 0) := by rw [hE]; exact he
    clear he hE
    go_enter Try.func25, Try.ntmps25
    go_wp2_with (go_at_call 43; refine (open_any r c a n cap hn p hp true _).mono ?_; rw [HE.out]; rintro e w1 ⟨rfl, hb1⟩; have HO1 := Lib.hid (HO.out.step HO.out.size hb1); obtain ⟨y0, y1, y2, ⟨z0, s0⟩, ⟨z1, s1⟩, ⟨z2, s2⟩, hB3, hsz3⟩ := HO1.out)
    refine bodyPost_ret (v := .tuple #[mat0, .int .i64 E]) ?_ rfl ⟨_, rfl, ⟨fun h => absurd h HNE.out, fun _ => rfl⟩, HO1.out.none (.int .i64 0) (.int .i64 0) (.slice none 0 0)⟩
    simp [results, Try.results25, go_sem, z0, z1, z2, mat0]

end Go.Proofs.Ytdlpemmoobbgnaa
