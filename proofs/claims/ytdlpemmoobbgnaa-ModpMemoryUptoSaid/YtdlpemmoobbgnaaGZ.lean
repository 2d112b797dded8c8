/- The walk of the law's keeps. -/
import Derived.Test.YtdlpemmoobbgnaaGV
import Derived.Test.YtdlpemmoobbgnaaGW
set_option linter.unusedVariables false
set_option linter.unusedSimpArgs false
namespace Go.Proofs.Ytdlpemmoobbgnaa
open Go.RowKit

set_option maxHeartbeats 40000000 in
set_option maxRecDepth 100000 in
theorem keeps_yes (k r c p : Int) (hk : 3 ≤ k ∧ k ≤ 9) (hp : 0 ≤ p) (s sb : Option Addr) (n nb cs cb : Nat) (x b : Nat → Raw) (hn : n ≤ 4096) (hnb : nb ≤ 4096) (hs : s = none → cs = 0) (hsb : sb = none → cb = 0)
    (hx : ∀ i, i < n → (x i).n ≤ 1048576) (hb : ∀ i, i < nb → (b i).n ≤ 1048576) (w : World) (hr : RdL w (.slice s n cs) n x) (hrb : RdL w (.slice sb nb cb) nb b) :
    Calls Try.prog 36 #[.agg #[.int .i64 k, .int .i64 r, .int .i64 c, .slice s n cs, .slice sb nb cb, .int .u64 p]] w fun e w' => e = .returned (.bool true) ∧ Below w.heap.size w w' := by
  have z1 := cellsOf w [.int .i64 k, .int .i64 r, .int .i64 c, .slice s n cs, .slice sb nb cb, .int .u64 p] 62
  have hb1 : Below w.heap.size w (w.alloc (.cells #[.int .i64 k, .int .i64 r, .int .i64 c, .slice s n cs, .slice sb nb cb, .int .u64 p] 62)) := (Below.refl _ _).alloc (Nat.le_refl _) _
  have hs1 : (w.alloc (.cells #[.int .i64 k, .int .i64 r, .int .i64 c, .slice s n cs, .slice sb nb cb, .int .u64 p] 62)).heap.size = w.heap.size + 1 := by simp
  have o0 := (z1 0 _ rfl).1
  have o1 := (z1 1 _ rfl).1
  have o2 := (z1 2 _ rfl).1
  have o3 := (z1 3 _ rfl).1
  have o4 := (z1 4 _ rfl).1
  have o5 := (z1 5 _ rfl).1
  have HK := Lib.hid hk
  have HP := Lib.hid hp
  have HX := Lib.hid hx
  have HBB := Lib.hid hb
  have HR := Lib.hid hr
  have HRB := Lib.hid hrb
  have HS := Lib.hid hs
  have HSB := Lib.hid hsb
  clear z1 hk hp hx hb hr hrb hs hsb
  go_enter Try.func36, Try.ntmps36
  go_upto_region 2 with fail
  generalize w.alloc (.cells #[.int .i64 k, .int .i64 r, .int .i64 c, .slice s n cs, .slice sb nb cb, .int .u64 p] 62) = W0 at o0 o1 o2 o3 o4 o5 hb1 hs1 ⊢
  have HB := Lib.hid hb1
  have HS1 := Lib.hid hs1
  have HOW := Lib.hid (OwnI.start w W0 W0.heap.size x)
  clear hb1 hs1
  go_wp2_with (at_builtin; refine wp_catI rfl _ _ 32 rfl Try.underlying32 HOW.out rfl rfl HS.out (Nat.le_refl _) (by omega) HR.out HB.out ?_)
  intro v1 w1 hown hb1
  obtain ⟨aa, ac, rfl⟩ := hown.slice
  have hsz := hb1.size
  replace o0 := cell_stays hb1 o0
  replace o1 := cell_stays hb1 o1
  replace o2 := cell_stays hb1 o2
  replace o3 := cell_stays hb1 o3
  replace o4 := cell_stays hb1 o4
  replace o5 := cell_stays hb1 o5
  have HOW1 := Lib.hid hown
  have HB1 := Lib.hid (HB.out.trans (hb1.mono HB.out.size))
  clear hown hb1 HOW
  go_wp2_with (at_builtin; refine wp_catI rfl _ _ 32 rfl Try.underlying32 HOW1.out rfl rfl HSB.out hsz (by omega) HRB.out HB1.out ?_)
  intro v2 w2 hown hb2
  have hlt0 : w.heap.size < W0.heap.size := by rw [HS1.out]; omega
  replace o0 := cell_lo hb2 o0 hlt0
  replace o1 := cell_lo hb2 o1 hlt0
  replace o2 := cell_lo hb2 o2 hlt0
  replace o3 := cell_lo hb2 o3 hlt0
  replace o4 := cell_lo hb2 o4 hlt0
  replace o5 := cell_lo hb2 o5 hlt0
  have hb20 := HB1.out.trans (hb2.mono (Nat.le_of_lt hlt0))
  have hsz2 : w.heap.size ≤ w2.heap.size := hb20.size
  have HSL := Lib.hid (World.block_lt_of_cell? _ _ o0)
  obtain ⟨N, hNe⟩ : ∃ N, N = n + nb := ⟨_, rfl⟩
  have hNa : N ≤ n + nb := by omega
  have hNb : n + nb ≤ N := by omega
  obtain ⟨L, hLe⟩ : ∃ L, L = N + 80 := ⟨_, rfl⟩
  have hLa : L ≤ N + 80 := by omega
  have hLb : N + 80 ≤ L := by omega
  have HNE := Lib.hid hNe
  have HLE := Lib.hid hLe
  obtain ⟨X, hX⟩ : ∃ X, X = catL n x b := ⟨_, rfl⟩
  have hrl : RdL w2 v2 N X := by rw [hX, hNe]; exact hown.read hb20 (by omega)
  obtain ⟨la, lc, rfl, hlc, hla⟩ : ∃ la lc, v2 = .slice la N lc ∧ N ≤ lc ∧ ((la = none ∧ lc = 0) ∨ ∃ b o, la = some ⟨b, o, none⟩) := by
    obtain ⟨M, ho, -⟩ := hown
    rcases ho.2 with ⟨e, e0⟩ | ⟨g, cap, cur, e, -, -, h4, -⟩
    · exact ⟨none, 0, by rw [e, hNe, e0], by omega, Or.inl ⟨rfl, rfl⟩⟩
    · exact ⟨_, cap, by rw [e, hNe], by omega, Or.inr ⟨g, 0, rfl⟩⟩
  have HLA := Lib.hid hla
  have hxw : ∀ i, i < N → (X i).n ≤ 1048576 := fun i hi => by
    rw [hX]; unfold catL
    split
    · exact HX.out i ‹_›
    · exact HBB.out (i - n) (by omega)
  have HZW := Lib.hid (show ∀ k, k < L → (roomZ N X k).n ≤ 1048576 ∧ Words (roomZ N X k).n (roomZ N X k).f from by rw [hLe]; exact roomZ_words (by omega : N ≤ 16384) fun i hi => ⟨hxw i hi, hrl.words i hi⟩)
  have HRS := Lib.hid (show ∀ i, i < N → resid (roomZ N X i) p = resid (X i) p from fun i hi => by rw [show roomZ N X i = X i from if_pos hi])
  have RL := Lib.hid hrl
  have HXW := Lib.hid hxw
  have HBW := Lib.hid (And.intro hb20 hsz2)
  have HLW := Lib.hid hsz2
  clear hown hb2 hb20 HOW1 HB1 HB hsz hlt0 hX hrl hxw HX HBB HR HRB HS1 hsz2 hla hNe hLe
  have hN : N ≤ 16384 := by omega
  -- roomy
  go_wp2_with fail
  (with_reducible refine (roomy_any _ N X hN w2 RL.out).mono ?_)
  rintro e w3 ⟨vF, vM, R, rfl, hror⟩
  rw [← HLE.out] at hror
  have RW := Lib.hid (hror.row (by omega))
  have hb3 := hror.below
  try (replace o0 := cell_stays hb3 o0
       replace o1 := cell_stays hb3 o1
       replace o2 := cell_stays hb3 o2
       replace o3 := cell_stays hb3 o3
       replace o4 := cell_stays hb3 o4
       replace o5 := cell_stays hb3 o5)
  try (replace i0 := cell_stays hb3 i0
       replace i1 := cell_stays hb3 i1
       replace i2 := cell_stays hb3 i2
       replace i3 := cell_stays hb3 i3
       replace i4 := cell_stays hb3 i4
       replace i5 := cell_stays hb3 i5)
  try (replace q0 := cell_stays hb3 q0
       replace q1 := cell_stays hb3 q1
       replace q2 := cell_stays hb3 q2
       replace q3 := cell_stays hb3 q3
       replace q4 := cell_stays hb3 q4
       replace q5 := cell_stays hb3 q5)
  try (replace QA := Lib.hid (QA.out.below hb3)
       replace QB := Lib.hid (QB.out.below hb3))
  try (replace HBW := Lib.hid (stage HBW.out.1 HBW.out.2 hb3))
  try (replace HL3 := Lib.hid (Nat.le_trans HL3.out (Below.size hb3)))
  try (replace RW := Lib.hid (RW.out.below hb3))
  try (replace RL := Lib.hid (RL.out.below hb3))
  try (replace WK := Lib.hid (WK.out.below hb3))
  try (replace AX := Lib.hid (AX.out.below hb3))
  try (replace AY := Lib.hid (AY.out.below hb3))
  try (replace AZ := Lib.hid (AZ.out.below hb3))
  try (replace AV := Lib.hid (AV.out.below hb3))
  have hlo2 : w2.heap.size ≤ w3.heap.size := hror.size
  have HLO := Lib.hid (HBW.out.2)
  have HLO2 := Lib.hid hlo2
  have HL3 := Lib.hid (Nat.le_refl w3.heap.size)
  obtain ⟨bF, cF, rfl, hcF, -⟩ := RW.out.rom.F
  obtain ⟨bM, cM, rfl, hcM, -⟩ := RW.out.rom.M
  clear hror hb3
  -- the call's integers from the full list
  go_wp2_with fail
  (with_reducible refine (with_any k r c p s sb n nb cs cb (some ⟨bF, 0, none⟩) L cF (by omega) hcF (by omega) (Or.inr ⟨bF, 0, rfl⟩) w3).mono ?_)
  rintro e w4 ⟨⟨a1, rfl, ha1⟩, hb4⟩
  have HA1 := Lib.hid ha1
  try (replace o0 := cell_stays hb4 o0
       replace o1 := cell_stays hb4 o1
       replace o2 := cell_stays hb4 o2
       replace o3 := cell_stays hb4 o3
       replace o4 := cell_stays hb4 o4
       replace o5 := cell_stays hb4 o5)
  try (replace i0 := cell_stays hb4 i0
       replace i1 := cell_stays hb4 i1
       replace i2 := cell_stays hb4 i2
       replace i3 := cell_stays hb4 i3
       replace i4 := cell_stays hb4 i4
       replace i5 := cell_stays hb4 i5)
  try (replace q0 := cell_stays hb4 q0
       replace q1 := cell_stays hb4 q1
       replace q2 := cell_stays hb4 q2
       replace q3 := cell_stays hb4 q3
       replace q4 := cell_stays hb4 q4
       replace q5 := cell_stays hb4 q5)
  try (replace QA := Lib.hid (QA.out.below hb4)
       replace QB := Lib.hid (QB.out.below hb4))
  try (replace HBW := Lib.hid (stage HBW.out.1 HBW.out.2 hb4))
  try (replace HL3 := Lib.hid (Nat.le_trans HL3.out (Below.size hb4)))
  try (replace RW := Lib.hid (RW.out.below hb4))
  try (replace RL := Lib.hid (RL.out.below hb4))
  try (replace WK := Lib.hid (WK.out.below hb4))
  try (replace AX := Lib.hid (AX.out.below hb4))
  try (replace AY := Lib.hid (AY.out.below hb4))
  try (replace AZ := Lib.hid (AZ.out.below hb4))
  try (replace AV := Lib.hid (AV.out.below hb4))
  have hin := cellsOf w4 [.int .i64 k, .int .i64 r, .int .i64 c, .slice (some ⟨bF, 0, none⟩) n cF, .slice a1 nb (cF - n), .int .u64 p] 62
  have i0 := (hin 0 _ rfl).1
  have i1 := (hin 1 _ rfl).1
  have i2 := (hin 2 _ rfl).1
  have i3 := (hin 3 _ rfl).1
  have i4 := (hin 4 _ rfl).1
  have i5 := (hin 5 _ rfl).1
  have hba := (Below.refl w4.heap.size w4).alloc (Nat.le_refl _) (.cells #[.int .i64 k, .int .i64 r, .int .i64 c, .slice (some ⟨bF, 0, none⟩) n cF, .slice a1 nb (cF - n), .int .u64 p] 62)
  have HI := Lib.hid (And.intro i0 (And.intro i1 (And.intro i2 (And.intro i3 (And.intro i4 i5)))))
  clear i0 i1 i2 i3 i4 i5 hin
  try (replace o0 := cell_stays hba o0
       replace o1 := cell_stays hba o1
       replace o2 := cell_stays hba o2
       replace o3 := cell_stays hba o3
       replace o4 := cell_stays hba o4
       replace o5 := cell_stays hba o5)
  try (replace i0 := cell_stays hba i0
       replace i1 := cell_stays hba i1
       replace i2 := cell_stays hba i2
       replace i3 := cell_stays hba i3
       replace i4 := cell_stays hba i4
       replace i5 := cell_stays hba i5)
  try (replace q0 := cell_stays hba q0
       replace q1 := cell_stays hba q1
       replace q2 := cell_stays hba q2
       replace q3 := cell_stays hba q3
       replace q4 := cell_stays hba q4
       replace q5 := cell_stays hba q5)
  try (replace QA := Lib.hid (QA.out.below hba)
       replace QB := Lib.hid (QB.out.below hba))
  try (replace HBW := Lib.hid (stage HBW.out.1 HBW.out.2 hba))
  try (replace HL3 := Lib.hid (Nat.le_trans HL3.out (Below.size hba)))
  try (replace RW := Lib.hid (RW.out.below hba))
  try (replace RL := Lib.hid (RL.out.below hba))
  try (replace WK := Lib.hid (WK.out.below hba))
  try (replace AX := Lib.hid (AX.out.below hba))
  try (replace AY := Lib.hid (AY.out.below hba))
  try (replace AZ := Lib.hid (AZ.out.below hba))
  try (replace AV := Lib.hid (AV.out.below hba))
  have hl4 : w3.heap.size ≤ w4.heap.size := hb4.size
  have HLI := Lib.hid hl4
  clear hb4 hba ha1 hl4
  go_upto_region 6 with fail
  generalize w4.alloc (.cells #[.int .i64 k, .int .i64 r, .int .i64 c, .slice (some ⟨bF, 0, none⟩) n cF, .slice a1 nb (cF - n), .int .u64 p] 62) = w5 at o0 o1 o2 o3 o4 o5 HBW RW RL HI HL3 ⊢
  obtain ⟨i0, i1, i2, i3, i4, i5⟩ := HI.out
  clear HI
  -- what is wanted
  go_wp2_with fail
  (with_reducible refine (with_any k r c p s sb n nb cs cb la N lc hNb hlc (by omega) HLA.out w5).mono ?_)
  rintro e w6 ⟨⟨a2, rfl, ha2⟩, hb6⟩
  try (replace o0 := cell_stays hb6 o0
       replace o1 := cell_stays hb6 o1
       replace o2 := cell_stays hb6 o2
       replace o3 := cell_stays hb6 o3
       replace o4 := cell_stays hb6 o4
       replace o5 := cell_stays hb6 o5)
  try (replace i0 := cell_stays hb6 i0
       replace i1 := cell_stays hb6 i1
       replace i2 := cell_stays hb6 i2
       replace i3 := cell_stays hb6 i3
       replace i4 := cell_stays hb6 i4
       replace i5 := cell_stays hb6 i5)
  try (replace q0 := cell_stays hb6 q0
       replace q1 := cell_stays hb6 q1
       replace q2 := cell_stays hb6 q2
       replace q3 := cell_stays hb6 q3
       replace q4 := cell_stays hb6 q4
       replace q5 := cell_stays hb6 q5)
  try (replace QA := Lib.hid (QA.out.below hb6)
       replace QB := Lib.hid (QB.out.below hb6))
  try (replace HBW := Lib.hid (stage HBW.out.1 HBW.out.2 hb6))
  try (replace HL3 := Lib.hid (Nat.le_trans HL3.out (Below.size hb6)))
  try (replace RW := Lib.hid (RW.out.below hb6))
  try (replace RL := Lib.hid (RL.out.below hb6))
  try (replace WK := Lib.hid (WK.out.below hb6))
  try (replace AX := Lib.hid (AX.out.below hb6))
  try (replace AY := Lib.hid (AY.out.below hb6))
  try (replace AZ := Lib.hid (AZ.out.below hb6))
  try (replace AV := Lib.hid (AV.out.below hb6))
  have HL36 := HL3
  obtain ⟨D, hD⟩ : ∃ D, D = ansT k r c p n X nb (fun i => X (n + i)) := ⟨_, rfl⟩
  have hwa := wants_ans k r c p HK.out HP.out (.slice la n lc) n X (.slice a2 nb (lc - n)) nb (fun i => X (n + i)) w6 (halves RL.out hNb ha2).1 (halves RL.out hNb ha2).2
  rw [← hD] at hwa
  have HWA := Lib.hid hwa
  have HD := Lib.hid hD
  clear hwa hD ha2 hb6
  go_wp2_with fail
  (with_reducible refine HWA.out.mono ?_)
  rintro e w7 ⟨⟨s2, l2, rfl, fs, fl⟩, hb7⟩
  obtain ⟨s2a, s2c, rfl⟩ := fs.slice
  obtain ⟨l2a, l2c, rfl⟩ := fl.slice
  try (replace o0 := cell_stays hb7 o0
       replace o1 := cell_stays hb7 o1
       replace o2 := cell_stays hb7 o2
       replace o3 := cell_stays hb7 o3
       replace o4 := cell_stays hb7 o4
       replace o5 := cell_stays hb7 o5)
  try (replace i0 := cell_stays hb7 i0
       replace i1 := cell_stays hb7 i1
       replace i2 := cell_stays hb7 i2
       replace i3 := cell_stays hb7 i3
       replace i4 := cell_stays hb7 i4
       replace i5 := cell_stays hb7 i5)
  try (replace q0 := cell_stays hb7 q0
       replace q1 := cell_stays hb7 q1
       replace q2 := cell_stays hb7 q2
       replace q3 := cell_stays hb7 q3
       replace q4 := cell_stays hb7 q4
       replace q5 := cell_stays hb7 q5)
  try (replace QA := Lib.hid (QA.out.below hb7)
       replace QB := Lib.hid (QB.out.below hb7))
  try (replace HBW := Lib.hid (stage HBW.out.1 HBW.out.2 hb7))
  try (replace HL3 := Lib.hid (Nat.le_trans HL3.out (Below.size hb7)))
  try (replace RW := Lib.hid (RW.out.below hb7))
  try (replace RL := Lib.hid (RL.out.below hb7))
  try (replace WK := Lib.hid (WK.out.below hb7))
  try (replace AX := Lib.hid (AX.out.below hb7))
  try (replace AY := Lib.hid (AY.out.below hb7))
  try (replace AZ := Lib.hid (AZ.out.below hb7))
  try (replace AV := Lib.hid (AV.out.below hb7))
  have WK := Lib.hid (WantK.made fs fl hb7.size 92)
  have hba := (Below.refl w7.heap.size w7).alloc (Nat.le_refl _) (.cells #[.int .i64 D.rr, .int .i64 D.cc, .slice s2a D.nn s2c, .slice l2a D.mm l2c, .int .u64 D.W, .int .i64 D.N, .bool D.ok, .int .i64 D.E] 92)
  have hl67 := hb7.size
  clear fs fl hb7 HWA hl67
  go_upto_region 7 with fail
  try (replace o0 := cell_stays hba o0
       replace o1 := cell_stays hba o1
       replace o2 := cell_stays hba o2
       replace o3 := cell_stays hba o3
       replace o4 := cell_stays hba o4
       replace o5 := cell_stays hba o5)
  try (replace i0 := cell_stays hba i0
       replace i1 := cell_stays hba i1
       replace i2 := cell_stays hba i2
       replace i3 := cell_stays hba i3
       replace i4 := cell_stays hba i4
       replace i5 := cell_stays hba i5)
  try (replace q0 := cell_stays hba q0
       replace q1 := cell_stays hba q1
       replace q2 := cell_stays hba q2
       replace q3 := cell_stays hba q3
       replace q4 := cell_stays hba q4
       replace q5 := cell_stays hba q5)
  try (replace QA := Lib.hid (QA.out.below hba)
       replace QB := Lib.hid (QB.out.below hba))
  try (replace HBW := Lib.hid (stage HBW.out.1 HBW.out.2 hba))
  try (replace HL3 := Lib.hid (Nat.le_trans HL3.out (Below.size hba)))
  try (replace RW := Lib.hid (RW.out.below hba))
  try (replace RL := Lib.hid (RL.out.below hba))
  try (replace WK := Lib.hid (WK.out.below hba))
  try (replace AX := Lib.hid (AX.out.below hba))
  try (replace AY := Lib.hid (AY.out.below hba))
  try (replace AZ := Lib.hid (AZ.out.below hba))
  try (replace AV := Lib.hid (AV.out.below hba))
  clear hba
  generalize w7.alloc (.cells #[.int .i64 D.rr, .int .i64 D.cc, .slice s2a D.nn s2c, .slice l2a D.mm l2c, .int .u64 D.W, .int .i64 D.N, .bool D.ok, .int .i64 D.E] 92) = w8 at *
  -- the other call
  go_cut [8] (fun v8 wx => ∃ q g1 g2, v8 = .pointer (some ⟨q, 0, none⟩) ∧ wx.cell? ⟨q, 0, none⟩ = some (.int .i64 k) ∧ wx.cell? ⟨q, 1, none⟩ = some (.int .i64 1) ∧ wx.cell? ⟨q, 2, none⟩ = some (.int .i64 1) ∧ wx.cell? ⟨q, 3, none⟩ = some (.slice (some ⟨g1, 0, none⟩) 1 1) ∧
      wx.cell? ⟨q, 4, none⟩ = some (.slice (some ⟨g2, 0, none⟩) 1 1) ∧ wx.cell? ⟨q, 5, none⟩ = some (.int .u64 7) ∧ RdL wx (.slice (some ⟨g1, 0, none⟩) 1 1) 1 (fun _ => ⟨false, 1, fun _ => 9⟩) ∧ RdL wx (.slice (some ⟨g2, 0, none⟩) 1 1) 1 (fun _ => ⟨false, 1, fun _ => 4⟩) ∧ Below w8.heap.size w8 wx)
  case first =>
    exact reg7 o0 (by assumption) (by assumption)
  case rest =>
    obtain ⟨wA, hwA⟩ : ∃ wA, wA = wc := ⟨_, rfl⟩
    subst hwA
    obtain ⟨q, g1, g2, rfl, q0, q1, q2, q3, q4, q5, hqa, hqb, hb9⟩ := hcut
    have HQ := Lib.hid (And.intro q0 (And.intro q1 (And.intro q2 (And.intro q3 (And.intro q4 q5)))))
    clear q0 q1 q2 q3 q4 q5
    try (replace o0 := cell_stays hb9 o0
         replace o1 := cell_stays hb9 o1
         replace o2 := cell_stays hb9 o2
         replace o3 := cell_stays hb9 o3
         replace o4 := cell_stays hb9 o4
         replace o5 := cell_stays hb9 o5)
    try (replace i0 := cell_stays hb9 i0
         replace i1 := cell_stays hb9 i1
         replace i2 := cell_stays hb9 i2
         replace i3 := cell_stays hb9 i3
         replace i4 := cell_stays hb9 i4
         replace i5 := cell_stays hb9 i5)
    try (replace q0 := cell_stays hb9 q0
         replace q1 := cell_stays hb9 q1
         replace q2 := cell_stays hb9 q2
         replace q3 := cell_stays hb9 q3
         replace q4 := cell_stays hb9 q4
         replace q5 := cell_stays hb9 q5)
    try (replace QA := Lib.hid (QA.out.below hb9)
         replace QB := Lib.hid (QB.out.below hb9))
    try (replace HBW := Lib.hid (stage HBW.out.1 HBW.out.2 hb9))
    try (replace HL3 := Lib.hid (Nat.le_trans HL3.out (Below.size hb9)))
    try (replace RW := Lib.hid (RW.out.below hb9))
    try (replace RL := Lib.hid (RL.out.below hb9))
    try (replace WK := Lib.hid (WK.out.below hb9))
    try (replace AX := Lib.hid (AX.out.below hb9))
    try (replace AY := Lib.hid (AY.out.below hb9))
    try (replace AZ := Lib.hid (AZ.out.below hb9))
    try (replace AV := Lib.hid (AV.out.below hb9))
    obtain ⟨q0, q1, q2, q3, q4, q5⟩ := HQ.out
    have QA := Lib.hid hqa
    have QB := Lib.hid hqb
    clear HQ hqa hqb hb9
    -- asked
    go_wp2_with fail
    (with_reducible refine (plays_in HK.out HP.out RW.out HZW.out (by omega) (by omega) HA1.out HD.out (fun i hi => HRS.out i (by omega))).mono ?_)
    rintro e w10 ⟨⟨s', l', rfl, h1, h2, ho⟩, hb⟩
    obtain ⟨axa, axc, rfl⟩ := LSE.keep.slice h1
    obtain ⟨axb, axd, rfl⟩ := LSE.keep.slice h2
    have HAX := HL3
    have HHAX := Lib.hid hb.size
    try (replace o0 := cell_stays hb o0
         replace o1 := cell_stays hb o1
         replace o2 := cell_stays hb o2
         replace o3 := cell_stays hb o3
         replace o4 := cell_stays hb o4
         replace o5 := cell_stays hb o5)
    try (replace i0 := cell_stays hb i0
         replace i1 := cell_stays hb i1
         replace i2 := cell_stays hb i2
         replace i3 := cell_stays hb i3
         replace i4 := cell_stays hb i4
         replace i5 := cell_stays hb i5)
    try (replace q0 := cell_stays hb q0
         replace q1 := cell_stays hb q1
         replace q2 := cell_stays hb q2
         replace q3 := cell_stays hb q3
         replace q4 := cell_stays hb q4
         replace q5 := cell_stays hb q5)
    try (replace QA := Lib.hid (QA.out.below hb)
         replace QB := Lib.hid (QB.out.below hb))
    try (replace HBW := Lib.hid (stage HBW.out.1 HBW.out.2 hb))
    try (replace HL3 := Lib.hid (Nat.le_trans HL3.out (Below.size hb)))
    try (replace RW := Lib.hid (RW.out.below hb))
    try (replace RL := Lib.hid (RL.out.below hb))
    try (replace WK := Lib.hid (WK.out.below hb))
    try (replace AX := Lib.hid (AX.out.below hb))
    try (replace AY := Lib.hid (AY.out.below hb))
    try (replace AZ := Lib.hid (AZ.out.below hb))
    try (replace AV := Lib.hid (AV.out.below hb))
    have AX := Lib.hid (AnsK.made (w0 := w) h1 h2 ho hb.size 92)
    have hba := (Below.refl w10.heap.size w10).alloc (Nat.le_refl _) (.cells #[.int .i64 D.rr, .int .i64 D.cc, .slice axa D.nn axc, .slice axb D.mm axd, .int .u64 D.W, .int .i64 D.N, .bool D.ok, .int .i64 D.E] 92)
    clear h1 h2 ho hb
    go_upto_region 9 with fail
    have AAX := AX
    clear AX
    try (replace o0 := cell_stays hba o0
         replace o1 := cell_stays hba o1
         replace o2 := cell_stays hba o2
         replace o3 := cell_stays hba o3
         replace o4 := cell_stays hba o4
         replace o5 := cell_stays hba o5)
    try (replace i0 := cell_stays hba i0
         replace i1 := cell_stays hba i1
         replace i2 := cell_stays hba i2
         replace i3 := cell_stays hba i3
         replace i4 := cell_stays hba i4
         replace i5 := cell_stays hba i5)
    try (replace q0 := cell_stays hba q0
         replace q1 := cell_stays hba q1
         replace q2 := cell_stays hba q2
         replace q3 := cell_stays hba q3
         replace q4 := cell_stays hba q4
         replace q5 := cell_stays hba q5)
    try (replace QA := Lib.hid (QA.out.below hba)
         replace QB := Lib.hid (QB.out.below hba))
    try (replace HBW := Lib.hid (stage HBW.out.1 HBW.out.2 hba))
    try (replace HL3 := Lib.hid (Nat.le_trans HL3.out (Below.size hba)))
    try (replace RW := Lib.hid (RW.out.below hba))
    try (replace RL := Lib.hid (RL.out.below hba))
    try (replace WK := Lib.hid (WK.out.below hba))
    try (replace AX := Lib.hid (AX.out.below hba))
    try (replace AY := Lib.hid (AY.out.below hba))
    try (replace AZ := Lib.hid (AZ.out.below hba))
    try (replace AV := Lib.hid (AV.out.below hba))
    have AX := AAX
    clear hba AAX
    generalize w10.alloc (.cells #[.int .i64 D.rr, .int .i64 D.cc, .slice axa D.nn axc, .slice axb D.mm axd, .int .u64 D.W, .int .i64 D.N, .bool D.ok, .int .i64 D.E] 92) = w11 at *
    have HGAX := Lib.hid (World.block_lt_of_cell? _ _ AX.out.cs.1)
    -- asked again
    go_wp2_with fail
    (with_reducible refine (plays_in HK.out HP.out RW.out HZW.out (by omega) (by omega) HA1.out HD.out (fun i hi => HRS.out i (by omega))).mono ?_)
    rintro e w12 ⟨⟨s', l', rfl, h1, h2, ho⟩, hb⟩
    obtain ⟨aya, ayc, rfl⟩ := LSE.keep.slice h1
    obtain ⟨ayb, ayd, rfl⟩ := LSE.keep.slice h2
    have HAY := HL3
    have HHAY := Lib.hid hb.size
    try (replace o0 := cell_stays hb o0
         replace o1 := cell_stays hb o1
         replace o2 := cell_stays hb o2
         replace o3 := cell_stays hb o3
         replace o4 := cell_stays hb o4
         replace o5 := cell_stays hb o5)
    try (replace i0 := cell_stays hb i0
         replace i1 := cell_stays hb i1
         replace i2 := cell_stays hb i2
         replace i3 := cell_stays hb i3
         replace i4 := cell_stays hb i4
         replace i5 := cell_stays hb i5)
    try (replace q0 := cell_stays hb q0
         replace q1 := cell_stays hb q1
         replace q2 := cell_stays hb q2
         replace q3 := cell_stays hb q3
         replace q4 := cell_stays hb q4
         replace q5 := cell_stays hb q5)
    try (replace QA := Lib.hid (QA.out.below hb)
         replace QB := Lib.hid (QB.out.below hb))
    try (replace HBW := Lib.hid (stage HBW.out.1 HBW.out.2 hb))
    try (replace HL3 := Lib.hid (Nat.le_trans HL3.out (Below.size hb)))
    try (replace RW := Lib.hid (RW.out.below hb))
    try (replace RL := Lib.hid (RL.out.below hb))
    try (replace WK := Lib.hid (WK.out.below hb))
    try (replace AX := Lib.hid (AX.out.below hb))
    try (replace AY := Lib.hid (AY.out.below hb))
    try (replace AZ := Lib.hid (AZ.out.below hb))
    try (replace AV := Lib.hid (AV.out.below hb))
    have AY := Lib.hid (AnsK.made (w0 := w) h1 h2 ho hb.size 92)
    have hba := (Below.refl w12.heap.size w12).alloc (Nat.le_refl _) (.cells #[.int .i64 D.rr, .int .i64 D.cc, .slice aya D.nn ayc, .slice ayb D.mm ayd, .int .u64 D.W, .int .i64 D.N, .bool D.ok, .int .i64 D.E] 92)
    clear h1 h2 ho hb
    go_upto_region 10 with fail
    have AAY := AY
    clear AY
    try (replace o0 := cell_stays hba o0
         replace o1 := cell_stays hba o1
         replace o2 := cell_stays hba o2
         replace o3 := cell_stays hba o3
         replace o4 := cell_stays hba o4
         replace o5 := cell_stays hba o5)
    try (replace i0 := cell_stays hba i0
         replace i1 := cell_stays hba i1
         replace i2 := cell_stays hba i2
         replace i3 := cell_stays hba i3
         replace i4 := cell_stays hba i4
         replace i5 := cell_stays hba i5)
    try (replace q0 := cell_stays hba q0
         replace q1 := cell_stays hba q1
         replace q2 := cell_stays hba q2
         replace q3 := cell_stays hba q3
         replace q4 := cell_stays hba q4
         replace q5 := cell_stays hba q5)
    try (replace QA := Lib.hid (QA.out.below hba)
         replace QB := Lib.hid (QB.out.below hba))
    try (replace HBW := Lib.hid (stage HBW.out.1 HBW.out.2 hba))
    try (replace HL3 := Lib.hid (Nat.le_trans HL3.out (Below.size hba)))
    try (replace RW := Lib.hid (RW.out.below hba))
    try (replace RL := Lib.hid (RL.out.below hba))
    try (replace WK := Lib.hid (WK.out.below hba))
    try (replace AX := Lib.hid (AX.out.below hba))
    try (replace AY := Lib.hid (AY.out.below hba))
    try (replace AZ := Lib.hid (AZ.out.below hba))
    try (replace AV := Lib.hid (AV.out.below hba))
    have AY := AAY
    clear hba AAY
    generalize w12.alloc (.cells #[.int .i64 D.rr, .int .i64 D.cc, .slice aya D.nn ayc, .slice ayb D.mm ayd, .int .u64 D.W, .int .i64 D.N, .bool D.ok, .int .i64 D.E] 92) = w13 at *
    have HGAY := Lib.hid (World.block_lt_of_cell? _ _ AY.out.cs.1)
    obtain ⟨D7, hD7⟩ : ∃ D7, D7 = ansT k 1 1 7 1 (fun _ => ⟨false, 1, fun _ => 9⟩) 1 (fun _ => ⟨false, 1, fun _ => 4⟩) := ⟨_, rfl⟩
    have HD7 := Lib.hid hD7
    clear hD7
    -- another
    go_wp2_with fail
    (with_reducible refine (plays_other HK.out HD7.out QA.out QB.out).mono ?_)
    rintro e w14 ⟨⟨s', l', rfl, h1, h2, ho⟩, hb⟩
    obtain ⟨aza, azc, rfl⟩ := LSE.keep.slice h1
    obtain ⟨azb, azd, rfl⟩ := LSE.keep.slice h2
    have HAZ := HL3
    have HHAZ := Lib.hid hb.size
    try (replace o0 := cell_stays hb o0
         replace o1 := cell_stays hb o1
         replace o2 := cell_stays hb o2
         replace o3 := cell_stays hb o3
         replace o4 := cell_stays hb o4
         replace o5 := cell_stays hb o5)
    try (replace i0 := cell_stays hb i0
         replace i1 := cell_stays hb i1
         replace i2 := cell_stays hb i2
         replace i3 := cell_stays hb i3
         replace i4 := cell_stays hb i4
         replace i5 := cell_stays hb i5)
    try (replace q0 := cell_stays hb q0
         replace q1 := cell_stays hb q1
         replace q2 := cell_stays hb q2
         replace q3 := cell_stays hb q3
         replace q4 := cell_stays hb q4
         replace q5 := cell_stays hb q5)
    try (replace QA := Lib.hid (QA.out.below hb)
         replace QB := Lib.hid (QB.out.below hb))
    try (replace HBW := Lib.hid (stage HBW.out.1 HBW.out.2 hb))
    try (replace HL3 := Lib.hid (Nat.le_trans HL3.out (Below.size hb)))
    try (replace RW := Lib.hid (RW.out.below hb))
    try (replace RL := Lib.hid (RL.out.below hb))
    try (replace WK := Lib.hid (WK.out.below hb))
    try (replace AX := Lib.hid (AX.out.below hb))
    try (replace AY := Lib.hid (AY.out.below hb))
    try (replace AZ := Lib.hid (AZ.out.below hb))
    try (replace AV := Lib.hid (AV.out.below hb))
    have AZ := Lib.hid (AnsK.made (w0 := w) h1 h2 ho hb.size 92)
    have hba := (Below.refl w14.heap.size w14).alloc (Nat.le_refl _) (.cells #[.int .i64 D7.rr, .int .i64 D7.cc, .slice aza D7.nn azc, .slice azb D7.mm azd, .int .u64 D7.W, .int .i64 D7.N, .bool D7.ok, .int .i64 D7.E] 92)
    clear h1 h2 ho hb
    go_upto_region 11 with fail
    have AAZ := AZ
    clear AZ
    try (replace o0 := cell_stays hba o0
         replace o1 := cell_stays hba o1
         replace o2 := cell_stays hba o2
         replace o3 := cell_stays hba o3
         replace o4 := cell_stays hba o4
         replace o5 := cell_stays hba o5)
    try (replace i0 := cell_stays hba i0
         replace i1 := cell_stays hba i1
         replace i2 := cell_stays hba i2
         replace i3 := cell_stays hba i3
         replace i4 := cell_stays hba i4
         replace i5 := cell_stays hba i5)
    try (replace q0 := cell_stays hba q0
         replace q1 := cell_stays hba q1
         replace q2 := cell_stays hba q2
         replace q3 := cell_stays hba q3
         replace q4 := cell_stays hba q4
         replace q5 := cell_stays hba q5)
    try (replace QA := Lib.hid (QA.out.below hba)
         replace QB := Lib.hid (QB.out.below hba))
    try (replace HBW := Lib.hid (stage HBW.out.1 HBW.out.2 hba))
    try (replace HL3 := Lib.hid (Nat.le_trans HL3.out (Below.size hba)))
    try (replace RW := Lib.hid (RW.out.below hba))
    try (replace RL := Lib.hid (RL.out.below hba))
    try (replace WK := Lib.hid (WK.out.below hba))
    try (replace AX := Lib.hid (AX.out.below hba))
    try (replace AY := Lib.hid (AY.out.below hba))
    try (replace AZ := Lib.hid (AZ.out.below hba))
    try (replace AV := Lib.hid (AV.out.below hba))
    have AZ := AAZ
    clear hba AAZ
    generalize w14.alloc (.cells #[.int .i64 D7.rr, .int .i64 D7.cc, .slice aza D7.nn azc, .slice azb D7.mm azd, .int .u64 D7.W, .int .i64 D7.N, .bool D7.ok, .int .i64 D7.E] 92) = w15 at *
    have HGAZ := Lib.hid (World.block_lt_of_cell? _ _ AZ.out.cs.1)
    -- and once more
    go_wp2_with fail
    (with_reducible refine (plays_in HK.out HP.out RW.out HZW.out (by omega) (by omega) HA1.out HD.out (fun i hi => HRS.out i (by omega))).mono ?_)
    rintro e w16 ⟨⟨s', l', rfl, h1, h2, ho⟩, hb⟩
    obtain ⟨ava, avc, rfl⟩ := LSE.keep.slice h1
    obtain ⟨avb, avd, rfl⟩ := LSE.keep.slice h2
    have HAV := HL3
    have HHAV := Lib.hid hb.size
    try (replace o0 := cell_stays hb o0
         replace o1 := cell_stays hb o1
         replace o2 := cell_stays hb o2
         replace o3 := cell_stays hb o3
         replace o4 := cell_stays hb o4
         replace o5 := cell_stays hb o5)
    try (replace i0 := cell_stays hb i0
         replace i1 := cell_stays hb i1
         replace i2 := cell_stays hb i2
         replace i3 := cell_stays hb i3
         replace i4 := cell_stays hb i4
         replace i5 := cell_stays hb i5)
    try (replace q0 := cell_stays hb q0
         replace q1 := cell_stays hb q1
         replace q2 := cell_stays hb q2
         replace q3 := cell_stays hb q3
         replace q4 := cell_stays hb q4
         replace q5 := cell_stays hb q5)
    try (replace QA := Lib.hid (QA.out.below hb)
         replace QB := Lib.hid (QB.out.below hb))
    try (replace HBW := Lib.hid (stage HBW.out.1 HBW.out.2 hb))
    try (replace HL3 := Lib.hid (Nat.le_trans HL3.out (Below.size hb)))
    try (replace RW := Lib.hid (RW.out.below hb))
    try (replace RL := Lib.hid (RL.out.below hb))
    try (replace WK := Lib.hid (WK.out.below hb))
    try (replace AX := Lib.hid (AX.out.below hb))
    try (replace AY := Lib.hid (AY.out.below hb))
    try (replace AZ := Lib.hid (AZ.out.below hb))
    try (replace AV := Lib.hid (AV.out.below hb))
    have AV := Lib.hid (AnsK.made (w0 := w) h1 h2 ho hb.size 92)
    have hba := (Below.refl w16.heap.size w16).alloc (Nat.le_refl _) (.cells #[.int .i64 D.rr, .int .i64 D.cc, .slice ava D.nn avc, .slice avb D.mm avd, .int .u64 D.W, .int .i64 D.N, .bool D.ok, .int .i64 D.E] 92)
    clear h1 h2 ho hb
    go_upto_region 12 with fail
    have AAV := AV
    clear AV
    try (replace o0 := cell_stays hba o0
         replace o1 := cell_stays hba o1
         replace o2 := cell_stays hba o2
         replace o3 := cell_stays hba o3
         replace o4 := cell_stays hba o4
         replace o5 := cell_stays hba o5)
    try (replace i0 := cell_stays hba i0
         replace i1 := cell_stays hba i1
         replace i2 := cell_stays hba i2
         replace i3 := cell_stays hba i3
         replace i4 := cell_stays hba i4
         replace i5 := cell_stays hba i5)
    try (replace q0 := cell_stays hba q0
         replace q1 := cell_stays hba q1
         replace q2 := cell_stays hba q2
         replace q3 := cell_stays hba q3
         replace q4 := cell_stays hba q4
         replace q5 := cell_stays hba q5)
    try (replace QA := Lib.hid (QA.out.below hba)
         replace QB := Lib.hid (QB.out.below hba))
    try (replace HBW := Lib.hid (stage HBW.out.1 HBW.out.2 hba))
    try (replace HL3 := Lib.hid (Nat.le_trans HL3.out (Below.size hba)))
    try (replace RW := Lib.hid (RW.out.below hba))
    try (replace RL := Lib.hid (RL.out.below hba))
    try (replace WK := Lib.hid (WK.out.below hba))
    try (replace AX := Lib.hid (AX.out.below hba))
    try (replace AY := Lib.hid (AY.out.below hba))
    try (replace AZ := Lib.hid (AZ.out.below hba))
    try (replace AV := Lib.hid (AV.out.below hba))
    have AV := AAV
    clear hba AAV
    generalize w16.alloc (.cells #[.int .i64 D.rr, .int .i64 D.cc, .slice ava D.nn avc, .slice avb D.mm avd, .int .u64 D.W, .int .i64 D.N, .bool D.ok, .int .i64 D.E] 92) = w17 at *
    have HGAV := Lib.hid (World.block_lt_of_cell? _ _ AV.out.cs.1)
    -- all as it was
    have HKP := Lib.hid (kept_on HLE.out hN HXW.out RL.out RW.out)
    have HSY := Lib.hid (same_on AY.out WK.out)
    have HSV := Lib.hid (same_on AV.out WK.out)
    have HSZ := Lib.hid (same_fr AZ.out)
    have HWO := Lib.hid (show ∀ W, Below w17.heap.size w17 W → _ from fun W hW => wants_other HK.out HD7.out (QA.out.below hW) (QB.out.below hW))
    go_cut [83] (fun v83 wx => v83 = .bool false ∧ Below w17.heap.size w17 wx)
    case first =>
      exact reg12 AY.out.cs WK.out.cs AV.out.cs AZ.out.cs q0 q1 q2 q3 q4 q5 HKP HSY HSV HSZ HWO (by assumption) (by assumption)
    case rest =>
      obtain ⟨wB, hwB⟩ : ∃ wB, wB = wc := ⟨_, rfl⟩
      subst hwB
      obtain ⟨rfl, hb18⟩ := hcut
      try (replace o0 := cell_stays hb18 o0
           replace o1 := cell_stays hb18 o1
           replace o2 := cell_stays hb18 o2
           replace o3 := cell_stays hb18 o3
           replace o4 := cell_stays hb18 o4
           replace o5 := cell_stays hb18 o5)
      try (replace i0 := cell_stays hb18 i0
           replace i1 := cell_stays hb18 i1
           replace i2 := cell_stays hb18 i2
           replace i3 := cell_stays hb18 i3
           replace i4 := cell_stays hb18 i4
           replace i5 := cell_stays hb18 i5)
      try (replace q0 := cell_stays hb18 q0
           replace q1 := cell_stays hb18 q1
           replace q2 := cell_stays hb18 q2
           replace q3 := cell_stays hb18 q3
           replace q4 := cell_stays hb18 q4
           replace q5 := cell_stays hb18 q5)
      try (replace QA := Lib.hid (QA.out.below hb18)
           replace QB := Lib.hid (QB.out.below hb18))
      try (replace HBW := Lib.hid (stage HBW.out.1 HBW.out.2 hb18))
      try (replace HL3 := Lib.hid (Nat.le_trans HL3.out (Below.size hb18)))
      try (replace RW := Lib.hid (RW.out.below hb18))
      try (replace RL := Lib.hid (RL.out.below hb18))
      try (replace WK := Lib.hid (WK.out.below hb18))
      try (replace AX := Lib.hid (AX.out.below hb18))
      try (replace AY := Lib.hid (AY.out.below hb18))
      try (replace AZ := Lib.hid (AZ.out.below hb18))
      try (replace AV := Lib.hid (AV.out.below hb18))
      clear hb18 HKP HSY HSV HSZ HWO QA QB q0 q1 q2 q3 q4 q5
      have HOC := Lib.hid (And.intro o0 (And.intro o1 (And.intro o2 (And.intro o3 (And.intro o4 o5)))))
      have HIC := Lib.hid (And.intro i0 (And.intro i1 (And.intro i2 (And.intro i3 (And.intro i4 i5)))))
      clear o0 o1 o2 o3 o4 o5 i0 i1 i2 i3 i4 i5
      obtain ⟨Z, hZ⟩ : ∃ Z, Z = roomZ N X := ⟨_, rfl⟩
      rw [← hZ] at RW HZW HRS
      have HZ := Lib.hid hZ
      clear hZ
      -- the numbers are written over
      go_wp2_with fail
      go_loopw [13] (fun iv wr => ∃ i : Nat, i ≤ N ∧ iv = .int .i64 i ∧ MuR wB wr w3.heap.size L R Z i 0) (fun iv _ => N - (intOf iv).toNat)
      case atStart => exact ⟨0, by omega, rfl, MuR.start RW.out⟩
      case round =>
        obtain ⟨i, i1, rfl, hmu⟩ := hrel
        by_cases hi : i < N
        · have hc := (RW.out.rom.F)
          obtain ⟨b', cap', e', -, hc⟩ := hc
          obtain ⟨rfl, rfl⟩ : bF = b' ∧ cF = cap' := by
            injection e' with e1 _ e3
            injection e1 with e1
            injection e1 with e1
            exact ⟨e1, e3⟩
          have hfR := RW.out.fb
          obtain ⟨b2, e2, -, hfR⟩ := hfR
          obtain rfl : bF = b2 := by simpa [Value.ownBlock] using e2
          have c1 := hmu.cellold (hc i (by omega)).2 hfR
          unfold romV at c1
          obtain ⟨Ri, hRi⟩ : ∃ Ri, Ri = R i := ⟨_, rfl⟩
          obtain ⟨nn, hnn⟩ : ∃ nn, nn = (Z i).n := ⟨_, rfl⟩
          rw [← hRi, ← hnn] at c1
          have hnz := (HZW.out i (by omega)).1
          rw [← hnn] at hnz
          have HRi := Lib.hid hRi
          have HNN := Lib.hid hnn
          have HMU := Lib.hid hmu
          have g5 : (0 : Int) ≤ (i : Int) := by omega
          have g6 : (i : Int) < (N : Int) := by omega
          have g7 : (i : Int) < (L : Int) := by omega
          clear e' e2 hc hfR hRi hnn hmu
          go_wp2_with fail
          clear c1
          go_loopw [15] (fun jv wx => ∃ j : Nat, j ≤ nn ∧ jv = .int .i64 j ∧ MuR wB wx w3.heap.size L R Z i j) (fun jv _ => nn - (intOf jv).toNat)
          case atStart => exact ⟨0, by omega, rfl, HMU.out⟩
          case round =>
            clear HMU
            obtain ⟨j, j1, rfl, hmu⟩ := hrel
            by_cases hj : j < nn
            · obtain ⟨c1, c2⟩ := hmu.cell (i := i) (j := j) (by omega) (by rw [← HNN.out]; exact hj)
              have hput := hmu.put RW.out (i := i) (j := j) (by omega) (by rw [← HNN.out]; exact hj)
              rw [← HRi.out] at c1 c2 hput
              generalize (Z i).f j = y at c1 hput
              have HPUT := Lib.hid hput
              have g8 : (0 : Int) ≤ (j : Int) := by omega
              have g9 : (j : Int) < (nn : Int) := by omega
              clear hmu hput
              go_wp2_with fail
              go_roundw
              case rel => exact ⟨j + 1, by omega, by go_num, HPUT.out⟩
              case measure => simp [intOf]; omega
            · obtain rfl : j = nn := by omega
              have HMU := Lib.hid (hmu.next (by rw [HNN.out]; exact Nat.le_refl _))
              clear hmu
              go_wp2_with fail
              go_roundw
              case rel => exact ⟨i + 1, by omega, by go_num, HMU.out⟩
              case measure => simp [intOf]; omega
        · obtain rfl : N = i := by omega
          have RW1 := Lib.hid (hmu.done RW.out (by omega))
          have hR1 : ∀ k, k < L → w.heap.size ≠ R k := fun k hk e => by
            have h1 := (RW.out.blk k hk).2.1
            have h2 := HSL.out
            omega
          have hR2 : ∀ k, k < L → w4.heap.size ≠ R k := fun k hk e => by
            have h1 := (RW.out.blk k hk).2.2
            have h2 := HLI.out
            omega
          obtain ⟨o0, o1, o2, o3, o4, o5⟩ := HOC.out
          obtain ⟨i0, i1', i2, i3, i4, i5⟩ := HIC.out
          replace o0 := hmu.cellold o0 hR1
          replace o1 := hmu.cellold o1 hR1
          replace o2 := hmu.cellold o2 hR1
          replace o3 := hmu.cellold o3 hR1
          replace o4 := hmu.cellold o4 hR1
          replace o5 := hmu.cellold o5 hR1
          replace i0 := hmu.cellold i0 hR2
          replace i1' := hmu.cellold i1' hR2
          replace i2 := hmu.cellold i2 hR2
          replace i3 := hmu.cellold i3 hR2
          replace i4 := hmu.cellold i4 hR2
          replace i5 := hmu.cellold i5 hR2
          have HOC := Lib.hid (And.intro o0 (And.intro o1 (And.intro o2 (And.intro o3 (And.intro o4 o5)))))
          have HIC := Lib.hid (And.intro i0 (And.intro i1' (And.intro i2 (And.intro i3 (And.intro i4 i5)))))
          clear o0 o1 o2 o3 o4 o5 i0 i1' i2 i3 i4 i5 hR1 hR2
          replace WK := Lib.hid (WK.out.rch hmu.rch HL36.out)
          replace AX := Lib.hid (AX.out.rch hmu.rch HAX.out)
          replace AY := Lib.hid (AY.out.rch hmu.rch HAY.out)
          replace AZ := Lib.hid (AZ.out.rch hmu.rch HAZ.out)
          replace AV := Lib.hid (AV.out.rch hmu.rch HAV.out)
          have hgs := hmu.gr.size
          have hgb := hmu.below RW.out (Nat.le_trans hlo2 HL3.out)
          replace HBW := Lib.hid (And.intro (HBW.out.1.trans (hgb.mono (Nat.le_of_lt HSL.out))) (Nat.le_trans HBW.out.2 hgs))
          replace HL3 := Lib.hid (Nat.le_trans HL3.out hgs)
          have HZW1 := Lib.hid (muZ_words (N := N) HZW.out)
          clear RW RL hmu hgs hgb HZW HRS
          obtain ⟨Z1, hZ1⟩ : ∃ Z1, Z1 = muZ N Z := ⟨_, rfl⟩
          rw [← hZ1] at RW1 HZW1
          clear hZ1
          obtain ⟨wM, hwM⟩ : ∃ wM, wM = wr := ⟨_, rfl⟩
          subst hwM
          have m1 := mk_listN N (by omega)
          have HN1 := Lib.hid (NxR.start wM N (fun q => (Z1 q).val))
          go_wp2_with fail
          generalize wM.alloc (.cells (madeCells #[.bool false, .slice none 0 0] (N * 2)) 56) = w20 at HN1 ⊢
          go_loopw [17] (fun iv wx => ∃ i : Nat, i ≤ N ∧ iv = .int .i64 i ∧ NxR wM wx N (fun q => (Z1 q).val) i) (fun iv _ => N - (intOf iv).toNat)
          case atStart => exact ⟨0, by omega, rfl, HN1.out⟩
          case round =>
            clear HN1
            obtain ⟨i, i2, rfl, hnx⟩ := hrel
            by_cases hi : i < N
            · have hRW := RW1.out.below hnx.bel
              obtain ⟨c0, c1⟩ := hRW.full (k := i) (by omega)
              have HLE1 := Lib.hid (hRW.least (k := i) (by omega) (HZW1.out i (by omega)))
              unfold romV at c1 HLE1
              obtain ⟨y, hy⟩ : ∃ y, y = (Z1 i).val := ⟨_, rfl⟩
              rw [← hy] at HLE1
              have HY := Lib.hid hy.symm
              have HNX := Lib.hid hnx
              generalize (Z1 i).neg = gg at c0 HLE1
              generalize (Z1 i).n = nn at c1 HLE1
              generalize R i = Ri at c1 HLE1
              have g5 : (0 : Int) ≤ (i : Int) := by omega
              have g6 : (i : Int) < (N : Int) := by omega
              have g7 : (i : Int) < (L : Int) := by omega
              clear hRW hnx hy m1
              go_wp2_with fail
              (with_reducible refine HLE1.out.mono ?_)
              rintro e w6 ⟨av, nv, cv, rfl, hz6, hb6⟩
              have hz := HNX.out.zg.below hb6
              obtain ⟨t0, t1, t2, v1, v2, -⟩ := hz.cells i hi
              have v3 := hz.froz (i := i * 2) (by omega)
              have v4 := hz.froz (i := i * 2 + 1) (by omega)
              have HPUT := Lib.hid (HNX.out.put hi hb6 HY.out hz6)
              clear HLE1 hz6 hb6 hz c0 c1
              go_wp2_with fail
              go_roundw
              case rel => exact ⟨i + 1, by omega, by go_num, HPUT.out⟩
              case measure => simp [intOf]; omega
            · obtain rfl : N = i := by omega
              clear m1
              obtain ⟨Y, hY, hYv⟩ := hnx.read hN (fun q hq => HZW1.out q (by omega))
              obtain ⟨wP, hwP⟩ : ∃ wP, wP = wr := ⟨_, rfl⟩
              subst hwP
              have hbN := hnx.bel
              obtain ⟨o0, o1, o2, o3, o4, o5⟩ := HOC.out
              obtain ⟨i0, i1, i2, i3, i4, i5⟩ := HIC.out
              have RW := RW1
              clear RW1 HOC HIC
              try (replace o0 := cell_stays hbN o0
                   replace o1 := cell_stays hbN o1
                   replace o2 := cell_stays hbN o2
                   replace o3 := cell_stays hbN o3
                   replace o4 := cell_stays hbN o4
                   replace o5 := cell_stays hbN o5)
              try (replace i0 := cell_stays hbN i0
                   replace i1 := cell_stays hbN i1
                   replace i2 := cell_stays hbN i2
                   replace i3 := cell_stays hbN i3
                   replace i4 := cell_stays hbN i4
                   replace i5 := cell_stays hbN i5)
              try (replace q0 := cell_stays hbN q0
                   replace q1 := cell_stays hbN q1
                   replace q2 := cell_stays hbN q2
                   replace q3 := cell_stays hbN q3
                   replace q4 := cell_stays hbN q4
                   replace q5 := cell_stays hbN q5)
              try (replace QA := Lib.hid (QA.out.below hbN)
                   replace QB := Lib.hid (QB.out.below hbN))
              try (replace HBW := Lib.hid (stage HBW.out.1 HBW.out.2 hbN))
              try (replace HL3 := Lib.hid (Nat.le_trans HL3.out (Below.size hbN)))
              try (replace RW := Lib.hid (RW.out.below hbN))
              try (replace RL := Lib.hid (RL.out.below hbN))
              try (replace WK := Lib.hid (WK.out.below hbN))
              try (replace AX := Lib.hid (AX.out.below hbN))
              try (replace AY := Lib.hid (AY.out.below hbN))
              try (replace AZ := Lib.hid (AZ.out.below hbN))
              try (replace AV := Lib.hid (AV.out.below hbN))
              have RL := Lib.hid hY
              have hYr : ∀ i, i < N → resid (Y i) p = resid (Z1 i) p := fun i hi => resid_val' HP.out (mag_nn (hY.words i hi)) (mag_nn (HZW1.out i (by omega)).2) (hYv i hi)
              have HYR := Lib.hid hYr
              obtain ⟨D1, hD1⟩ : ∃ D1, D1 = ansT k r c p n Z1 nb (fun i => Z1 (n + i)) := ⟨_, rfl⟩
              have HD1 := Lib.hid hD1
              clear hnx hbN hY hYv hYr hD1
              -- asked over the new numbers
              have HPV := Lib.hid (World.block_lt_of_cell? _ _ AV.out.cs.1)
              go_wp2_with fail
              (with_reducible refine (plays_in HK.out HP.out RW.out HZW1.out (by omega) (by omega) HA1.out HD1.out (fun i hi => rfl)).mono ?_)
              rintro e w21 ⟨⟨s', l', rfl, h1, h2, ho⟩, hb⟩
              obtain ⟨aua, auc, rfl⟩ := LSE.keep.slice h1
              obtain ⟨aub, aud, rfl⟩ := LSE.keep.slice h2
              have HAU := HL3
              have HHAU := Lib.hid hb.size
              try (replace o0 := cell_stays hb o0
                   replace o1 := cell_stays hb o1
                   replace o2 := cell_stays hb o2
                   replace o3 := cell_stays hb o3
                   replace o4 := cell_stays hb o4
                   replace o5 := cell_stays hb o5)
              try (replace i0 := cell_stays hb i0
                   replace i1 := cell_stays hb i1
                   replace i2 := cell_stays hb i2
                   replace i3 := cell_stays hb i3
                   replace i4 := cell_stays hb i4
                   replace i5 := cell_stays hb i5)
              try (replace q0 := cell_stays hb q0
                   replace q1 := cell_stays hb q1
                   replace q2 := cell_stays hb q2
                   replace q3 := cell_stays hb q3
                   replace q4 := cell_stays hb q4
                   replace q5 := cell_stays hb q5)
              try (replace QA := Lib.hid (QA.out.below hb)
                   replace QB := Lib.hid (QB.out.below hb))
              try (replace HBW := Lib.hid (stage HBW.out.1 HBW.out.2 hb))
              try (replace HL3 := Lib.hid (Nat.le_trans HL3.out (Below.size hb)))
              try (replace RW := Lib.hid (RW.out.below hb))
              try (replace RL := Lib.hid (RL.out.below hb))
              try (replace WK := Lib.hid (WK.out.below hb))
              try (replace AX := Lib.hid (AX.out.below hb))
              try (replace AY := Lib.hid (AY.out.below hb))
              try (replace AZ := Lib.hid (AZ.out.below hb))
              try (replace AV := Lib.hid (AV.out.below hb))
              have AU := Lib.hid (AnsK.made (w0 := w) h1 h2 ho hb.size 92)
              have hba := (Below.refl w21.heap.size w21).alloc (Nat.le_refl _) (.cells #[.int .i64 D1.rr, .int .i64 D1.cc, .slice aua D1.nn auc, .slice aub D1.mm aud, .int .u64 D1.W, .int .i64 D1.N, .bool D1.ok, .int .i64 D1.E] 92)
              clear h1 h2 ho hb
              go_upto_region 28 with fail
              have AAU := AU
              clear AU
              try (replace o0 := cell_stays hba o0
                   replace o1 := cell_stays hba o1
                   replace o2 := cell_stays hba o2
                   replace o3 := cell_stays hba o3
                   replace o4 := cell_stays hba o4
                   replace o5 := cell_stays hba o5)
              try (replace i0 := cell_stays hba i0
                   replace i1 := cell_stays hba i1
                   replace i2 := cell_stays hba i2
                   replace i3 := cell_stays hba i3
                   replace i4 := cell_stays hba i4
                   replace i5 := cell_stays hba i5)
              try (replace q0 := cell_stays hba q0
                   replace q1 := cell_stays hba q1
                   replace q2 := cell_stays hba q2
                   replace q3 := cell_stays hba q3
                   replace q4 := cell_stays hba q4
                   replace q5 := cell_stays hba q5)
              try (replace QA := Lib.hid (QA.out.below hba)
                   replace QB := Lib.hid (QB.out.below hba))
              try (replace HBW := Lib.hid (stage HBW.out.1 HBW.out.2 hba))
              try (replace HL3 := Lib.hid (Nat.le_trans HL3.out (Below.size hba)))
              try (replace RW := Lib.hid (RW.out.below hba))
              try (replace RL := Lib.hid (RL.out.below hba))
              try (replace WK := Lib.hid (WK.out.below hba))
              try (replace AX := Lib.hid (AX.out.below hba))
              try (replace AY := Lib.hid (AY.out.below hba))
              try (replace AZ := Lib.hid (AZ.out.below hba))
              try (replace AV := Lib.hid (AV.out.below hba))
              have AU := AAU
              clear hba AAU
              generalize w21.alloc (.cells #[.int .i64 D1.rr, .int .i64 D1.cc, .slice aua D1.nn auc, .slice aub D1.mm aud, .int .u64 D1.W, .int .i64 D1.N, .bool D1.ok, .int .i64 D1.E] 92) = w22 at *
              have HGAU := Lib.hid (World.block_lt_of_cell? _ _ AU.out.cs.1)
              have HSU := Lib.hid (same_fr AU.out)
              have HSX := Lib.hid (same_on AX.out WK.out)
              have HSY := Lib.hid (same_on AY.out WK.out)
              have HSV := Lib.hid (same_on AV.out WK.out)
              have HWI := Lib.hid (with_on k r c p s sb n nb cs cb wM.heap.size N hNb hN w22)
              have HWN := Lib.hid (wants_on HK.out HP.out hNb RL.out HD1.out HYR.out)
              clear RL HYR
              go_cut [156] (fun v156 wx => v156 = .bool false ∧ Below w22.heap.size w22 wx)
              case first =>
                exact reg28 AU.out.cs AX.out.cs AY.out.cs WK.out.cs AV.out.cs o0 o1 o2 o3 o4 o5 HSU HSX HSY HSV HWI HWN (by assumption) (by assumption)
              case rest =>
                obtain ⟨wC, hwC⟩ : ∃ wC, wC = wc := ⟨_, rfl⟩
                subst hwC
                obtain ⟨rfl, hb28⟩ := hcut
                try (replace o0 := cell_stays hb28 o0
                     replace o1 := cell_stays hb28 o1
                     replace o2 := cell_stays hb28 o2
                     replace o3 := cell_stays hb28 o3
                     replace o4 := cell_stays hb28 o4
                     replace o5 := cell_stays hb28 o5)
                try (replace i0 := cell_stays hb28 i0
                     replace i1 := cell_stays hb28 i1
                     replace i2 := cell_stays hb28 i2
                     replace i3 := cell_stays hb28 i3
                     replace i4 := cell_stays hb28 i4
                     replace i5 := cell_stays hb28 i5)
                try (replace q0 := cell_stays hb28 q0
                     replace q1 := cell_stays hb28 q1
                     replace q2 := cell_stays hb28 q2
                     replace q3 := cell_stays hb28 q3
                     replace q4 := cell_stays hb28 q4
                     replace q5 := cell_stays hb28 q5)
                try (replace QA := Lib.hid (QA.out.below hb28)
                     replace QB := Lib.hid (QB.out.below hb28))
                try (replace HBW := Lib.hid (stage HBW.out.1 HBW.out.2 hb28))
                try (replace HL3 := Lib.hid (Nat.le_trans HL3.out (Below.size hb28)))
                try (replace RW := Lib.hid (RW.out.below hb28))
                try (replace RL := Lib.hid (RL.out.below hb28))
                try (replace WK := Lib.hid (WK.out.below hb28))
                try (replace AX := Lib.hid (AX.out.below hb28))
                try (replace AY := Lib.hid (AY.out.below hb28))
                try (replace AZ := Lib.hid (AZ.out.below hb28))
                try (replace AV := Lib.hid (AV.out.below hb28))
                have AAU := AU
                clear AU
                have AU := Lib.hid (AAU.out.below hb28)
                clear hb28 AAU HSU HSX HSY HSV HWI HWN o0 o1 o2 o3 o4 o5 i0 i1 i2 i3 i4 i5
                -- the book
                have HPU := Lib.hid (World.block_lt_of_cell? _ _ AU.out.cs.1)
                obtain ⟨A, hA⟩ : ∃ A, A = fiveA ⟨wA.heap.size, w10.heap.size, D, axa, axc, axb, axd⟩ ⟨w11.heap.size, w12.heap.size, D, aya, ayc, ayb, ayd⟩ ⟨w13.heap.size, w14.heap.size, D7, aza, azc, azb, azd⟩ ⟨w15.heap.size, w16.heap.size, D, ava, avc, avb, avd⟩ ⟨wP.heap.size, w21.heap.size, D1, aua, auc, aub, aud⟩ := ⟨_, rfl⟩
                have hAS : Abs wC w2.heap.size w3.heap.size wC.heap.size (fiveA ⟨wA.heap.size, w10.heap.size, D, axa, axc, axb, axd⟩ ⟨w11.heap.size, w12.heap.size, D, aya, ayc, ayb, ayd⟩ ⟨w13.heap.size, w14.heap.size, D7, aza, azc, azb, azd⟩ ⟨w15.heap.size, w16.heap.size, D, ava, avc, avb, avd⟩ ⟨wP.heap.size, w21.heap.size, D1, aua, auc, aub, aud⟩) := Abs.mk5 (AnsK.ab AX.out) (AnsK.ab AY.out) (AnsK.ab AZ.out) (AnsK.ab AV.out) (AnsK.ab AU.out) hlo2 HAX.out (Nat.le_of_lt HGAX.out) (Nat.le_of_lt HGAY.out) (Nat.le_of_lt HGAZ.out) (Nat.le_of_lt HPV.out) (Nat.le_of_lt HPU.out) HHAX.out HHAY.out HHAZ.out HHAV.out HHAU.out
                rw [← hA] at hAS
                have HAS := Lib.hid hAS
                have HA := Lib.hid hA
                clear hAS hA
                have HC := Lib.hid (And.intro AX.out.cs (And.intro AY.out.cs (And.intro AZ.out.cs (And.intro AV.out.cs AU.out.cs))))
                have HSW := Lib.hid (BkL.start (w := wC) (B := w2.heap.size) (lo0 := w3.heap.size) (A := A) rfl 102 (Below.refl _ _))
                have hba := (Below.refl wC.heap.size wC).alloc (Nat.le_refl _) (.cells #[.slice none 0 0, .slice none 0 0, .slice none 0 0] 102)
                have HBA := Lib.hid hba
                clear hba
                go_upto_region 31 with fail
                generalize wC.alloc (.cells #[.slice none 0 0, .slice none 0 0, .slice none 0 0] 102) = wD at HSW HBA ⊢
                obtain ⟨x0, x1, x2, x3, x4, x5, x6, x7⟩ := HC.out.1.below HBA.out
                obtain ⟨y0, y1, y2, y3, y4, y5, y6, y7⟩ := HC.out.2.1.below HBA.out
                obtain ⟨c0, c1, c2, c3, c4, c5, c6, c7⟩ := HC.out.2.2.1.below HBA.out
                obtain ⟨d0, d1, d2, d3, d4, d5, d6, d7⟩ := HC.out.2.2.2.1.below HBA.out
                obtain ⟨e0, e1, e2, e3, e4, e5, e6, e7⟩ := HC.out.2.2.2.2.below HBA.out
                have hfl := Fl.made wD ⟨wA.heap.size, w10.heap.size, D, axa, axc, axb, axd⟩ ⟨w11.heap.size, w12.heap.size, D, aya, ayc, ayb, ayd⟩ ⟨w13.heap.size, w14.heap.size, D7, aza, azc, azb, azd⟩ ⟨w15.heap.size, w16.heap.size, D, ava, avc, avb, avd⟩ ⟨wP.heap.size, w21.heap.size, D1, aua, auc, aub, aud⟩
                rw [← HA.out] at hfl
                have HFL := Lib.hid hfl
                have HSL2 := Lib.hid (HSW.out.below ((Below.refl wD.heap.size wD).alloc (Nat.le_refl _) (.cells #[.int .i64 D.rr, .int .i64 D.cc, .slice axa D.nn axc, .slice axb D.mm axd, .int .u64 D.W, .int .i64 D.N, .bool D.ok, .int .i64 D.E, .int .i64 D.rr, .int .i64 D.cc, .slice aya D.nn ayc, .slice ayb D.mm ayd, .int .u64 D.W, .int .i64 D.N, .bool D.ok, .int .i64 D.E, .int .i64 D7.rr, .int .i64 D7.cc, .slice aza D7.nn azc, .slice azb D7.mm azd, .int .u64 D7.W, .int .i64 D7.N, .bool D7.ok, .int .i64 D7.E, .int .i64 D.rr, .int .i64 D.cc, .slice ava D.nn avc, .slice avb D.mm avd, .int .u64 D.W, .int .i64 D.N, .bool D.ok, .int .i64 D.E, .int .i64 D1.rr, .int .i64 D1.cc, .slice aua D1.nn auc, .slice aub D1.mm aud, .int .u64 D1.W, .int .i64 D1.N, .bool D1.ok, .int .i64 D1.E] 92)))
                have HNS := Lib.hid (show wD.heap.size ≠ wC.heap.size from fun e => by have := HSW.out.lt; omega)
                have HDC := Lib.hid HSW.out.lt
                clear hfl HA HC AX AY AZ AV AU WK HSW
                go_wp2_with fail
                clear x0 x1 x2 x3 x4 x5 x6 x7 y0 y1 y2 y3 y4 y5 y6 y7 c0 c1 c2 c3 c4 c5 c6 c7 d0 d1 d2 d3 d4 d5 d6 d7 e0 e1 e2 e3 e4 e5 e6 e7
                generalize wD.alloc (.cells #[.int .i64 D.rr, .int .i64 D.cc, .slice axa D.nn axc, .slice axb D.mm axd, .int .u64 D.W, .int .i64 D.N, .bool D.ok, .int .i64 D.E, .int .i64 D.rr, .int .i64 D.cc, .slice aya D.nn ayc, .slice ayb D.mm ayd, .int .u64 D.W, .int .i64 D.N, .bool D.ok, .int .i64 D.E, .int .i64 D7.rr, .int .i64 D7.cc, .slice aza D7.nn azc, .slice azb D7.mm azd, .int .u64 D7.W, .int .i64 D7.N, .bool D7.ok, .int .i64 D7.E, .int .i64 D.rr, .int .i64 D.cc, .slice ava D.nn avc, .slice avb D.mm avd, .int .u64 D.W, .int .i64 D.N, .bool D.ok, .int .i64 D.E, .int .i64 D1.rr, .int .i64 D1.cc, .slice aua D1.nn auc, .slice aub D1.mm aud, .int .u64 D1.W, .int .i64 D1.N, .bool D1.ok, .int .i64 D1.E] 92) = wE at HFL HSL2 ⊢
                go_loopw [165] (fun iv wr => ∃ j : Nat, j ≤ 5 ∧ iv = .int .i64 j ∧ BkL wC wr w2.heap.size w3.heap.size wC.heap.size A j ∧ Fl wr wD.heap.size A) (fun iv _ => 5 - (intOf iv).toNat)
                case atStart => exact ⟨0, by omega, rfl, HSL2.out, HFL.out⟩
                case round =>
                  clear HSL2 HFL
                  obtain ⟨j, j1, rfl, hbl, hfl⟩ := hrel
                  by_cases hj : j < 5
                  · obtain ⟨x0, x1, x2, x3, x4, x5, x6, x7⟩ := hfl.cells hj
                    have hbx := (Below.refl wr.heap.size wr).alloc (Nat.le_refl _) (.cells #[.int .i64 (A j).D.rr, .int .i64 (A j).D.cc, .slice (A j).sa (A j).D.nn (A j).sc, .slice (A j).la (A j).D.mm (A j).lc, .int .u64 (A j).D.W, .int .i64 (A j).D.N, .bool (A j).D.ok, .int .i64 (A j).D.E] 92)
                    have HBX := Lib.hid (Bx.made wr (A j))
                    have HBL := Lib.hid (hbl.below hbx)
                    have HFL := Lib.hid (hfl.keep (KeepT.below (bk := wC.heap.size) hbx) HNS.out)
                    have HNB := Lib.hid (show wr.heap.size ≠ wC.heap.size from fun e => by have := hbl.lt; omega)
                    have g5 : (0 : Int) ≤ (j : Int) := by omega
                    have g6 : (j : Int) < 5 := by omega
                    clear hbl hfl hbx
                    go_upto_region 34 with fail
                    clear x0 x1 x2 x3 x4 x5 x6 x7
                    obtain ⟨x0, x1, x2, x3, x4, x5, x6, x7⟩ := HBX.out.cells
                    generalize wr.alloc (.cells #[.int .i64 (A j).D.rr, .int .i64 (A j).D.cc, .slice (A j).sa (A j).D.nn (A j).sc, .slice (A j).la (A j).D.mm (A j).lc, .int .u64 (A j).D.W, .int .i64 (A j).D.N, .bool (A j).D.ok, .int .i64 (A j).D.E] 92) = wF at HBX HBL HFL x0 x1 x2 x3 x4 x5 x6 x7 ⊢
                    have HM := Lib.hid (HBL.out.mat HAS.out hj)
                    clear x3 x4 x5 x6 x7
                    go_wp2_with fail
                    (with_reducible refine HM.out.mono ?_)
                    rintro e w30 ⟨rfl, hbm, hk30⟩
                    clear HM HBL x0 x1 x2
                    have HFL2 := Lib.hid (HFL.out.keep hk30 HNS.out)
                    have HBX2 := Lib.hid (HBX.out.keep hk30 HNB.out)
                    have HM := Lib.hid (hbm.row HAS.out hj)
                    obtain ⟨x0, x1, x2, x3, -⟩ := HBX2.out.cells
                    clear hbm hk30 HBX HFL x0 x1 x2
                    go_wp2_with fail
                    (with_reducible refine HM.out.mono ?_)
                    rintro e w31 ⟨rfl, hbl, hk31⟩
                    have HFIN := Lib.hid (And.intro hbl (HFL2.out.keep hk31 HNS.out))
                    clear HM HFL2 HBX2 hbl hk31 x3
                    go_wp2_with fail
                    go_roundw
                    case rel => exact ⟨j + 1, by omega, by go_num, HFIN.out⟩
                    case measure => simp [intOf]; omega
                  · obtain rfl : j = 5 := by omega
                    have HBW2 := Lib.hid (BkL.words (R := R) hbl)
                    clear hbl hfl
                    go_wp2_with fail
                    go_loopw [22] (fun iv wx => ∃ i : Nat, i ≤ L ∧ iv = .int .i64 i ∧ BkW wC wx w2.heap.size w3.heap.size wC.heap.size R i) (fun iv _ => L - (intOf iv).toNat)
                    case atStart => exact ⟨0, by omega, rfl, HBW2.out⟩
                    case round =>
                      clear HBW2
                      obtain ⟨i, i3, rfl, hbk⟩ := hrel
                      by_cases hi : i < L
                      · have c1 := hbk.cell RW.out HL3.out hi
                        have hwd := hbk.word RW.out hi (by omega) HL3.out (HZW1.out i hi).1
                        unfold romW at c1 hwd
                        generalize (Z1 i).n + 80 = nn at c1 hwd
                        obtain ⟨Ri, hRi⟩ : ∃ Ri, Ri = R i := ⟨_, rfl⟩
                        rw [← hRi] at c1 hwd
                        have HWD := Lib.hid hwd
                        have g5 : (0 : Int) ≤ (i : Int) := by omega
                        have g6 : (i : Int) < (L : Int) := by omega
                        clear hbk hwd hRi
                        go_wp2_with fail
                        (with_reducible refine HWD.out.mono ?_)
                        rintro e w30 ⟨rfl, hbk⟩
                        have HBK := Lib.hid hbk
                        clear HWD hbk c1
                        go_wp2_with fail
                        go_roundw
                        case rel =>
                          refine ⟨_, _, _, _, _, _, _, _, _, _, _, _, ?hre, rfl⟩
                          exact ⟨i + 1, by omega, by go_num, HBK.out⟩
                        case measure => simp [intOf]; omega
                      · obtain rfl : L = i := by omega
                        obtain ⟨⟨vW, nW, W, vI, I, P, h1, h2, h3⟩, h4⟩ := hbk
                        obtain ⟨nI, hnI⟩ : ∃ nI, nI = 10 := ⟨_, rfl⟩
                        rw [← hnI] at h1
                        have HNI := Lib.hid hnI
                        have hnI2 : nI ≤ 10 := by omega
                        clear hnI
                        obtain ⟨i0, hi0, hz0, hz1, hz2⟩ := info_parts infoBI
                        have HI := Lib.hid (And.intro hi0 (And.intro hz0 (And.intro hz1 hz2)))
                        obtain ⟨c1, f1⟩ := h1.book.c1
                        obtain ⟨va, vc, rfl⟩ := own_slice h1.book.oI
                        have hown := h1.book.oI
                        have hlt := h1.book.lt
                        have HB1 := Lib.hid (And.intro h1 (And.intro h2 (And.intro h3 h4)))
                        clear h1 h2 h3 h4 hi0 hz0 hz1 hz2
                        go_wp2_with (at_builtin; (refine wpList_append_lies _ rfl _ _ 99 rfl (wC.heap.size + 1) 32 i0 (.slice none 0 0) 1 24 Try.underlying99 HI.out.1 HI.out.2.1 HI.out.2.2.1 HI.out.2.2.2 rfl (by decide) _ _ _ rfl (hown.alloc _) ⟨wr.heap.size, 0, none⟩ 1 1 [.slice (some ⟨bF, 0, none⟩) L cF] rfl rfl (one_cell wr _ _) ?c2 (by decide) ?c3 ?c4 ?c5 _ rfl ?_))
                        case c2 => intro u hu; simp at hu; subst hu; rfl
                        case c3 => unfold maxLen; omega
                        case c4 => omega
                        case c5 => simp; omega
                        · intro g cap w30 ho hg _ _
                          obtain ⟨k1, k2, k3⟩ := keeps_end HNI.out HB1.out ho hg RW.out (by omega) HL3.out HBW.out.1 HLW.out HLO2.out
                          have HFIN := Lib.hid k3.out
                          clear k3 ho hg hown c1 f1
                          go_wp2_with fail
                          (with_reducible refine HFIN.out.2.mono ?_)
                          rintro e w33 ⟨rfl, hb33⟩
                          have HLA := Lib.hid (HFIN.out.1.trans (hb33.mono HLW.out))
                          clear HFIN hb33 k1 k2
                          go_wp2_with fail
                          go_ret
                          exact ⟨rfl, HLA.out⟩
end Go.Proofs.Ytdlpemmoobbgnaa
