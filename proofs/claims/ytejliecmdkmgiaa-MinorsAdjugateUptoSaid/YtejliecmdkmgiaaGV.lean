/- A box of an integer that is written over; the walk of charpoly.Value. mat.each over the closure of mat.Scale; the walk of mat.Scale. Plain: Newton's identities as the law goes through them. The walk of trellislaw16.valueIsDet. An argument that is one integer, opened. -/
import Derived.Test.YtejliecmdkmgiaaGU
import Derived.Test.YtejliecmdkmgiaaGR
import Derived.Test.YtejliecmdkmgiaaGS
import Derived.Test.YtejliecmdkmgiaaGI
import Derived.Test.YtejliecmdkmgiaaGK
import Derived.Test.YtejliecmdkmgiaaGH
import Derived.Test.YtejliecmdkmgiaaGD
set_option linter.unusedVariables false
set_option linter.unusedSimpArgs false
namespace Go.Proofs.Ytejliecmdkmgiaa
open Go.RowKit Go.Shelf

/-- an integer of the call's own in a box that may be written over; its words in memory from base on -/
structure IBox (w : World) (b base : Nat) (z : Int) (a : Option Addr) (n c : Nat) : Prop where
  c0 : w.cell? ⟨b, 0, none⟩ = some (.bool (decide (z < 0)))
  c1 : w.cell? ⟨b, 1, none⟩ = some (.slice a n c)
  f0 : w.frozen? ⟨b, 0, none⟩ = false
  f1 : w.frozen? ⟨b, 1, none⟩ = false
  fr : FrZ w base (.agg #[.bool (decide (z < 0)), .slice a n c]) z
  lt : b < base
section
variable {w w' u : World} {b base n c : Nat} {z z' : Int} {a : Option Addr}
theorem IBox.below (h : IBox w b base z a n c) (hb : Below w.heap.size w w') : IBox w' b base z a n c :=
  ⟨cell_stays hb h.c0, cell_stays hb h.c1, froz_stays hb h.c0 h.f0, froz_stays hb h.c1 h.f1, h.fr.below hb, h.lt⟩
theorem IBox.put (h : IBox w b base z a n c) {a' : Option Addr} {n' c' : Nat} (hf : FrZ w base (.agg #[.bool (decide (z' < 0)), .slice a' n' c']) z') :
    IBox ((w.setCell ⟨b, 0, none⟩ (.bool (decide (z' < 0)))).setCell ⟨b, 1, none⟩ (.slice a' n' c')) b base z' a' n' c' := by
  have ne : (⟨b, 0, none⟩ : Addr) ≠ ⟨b, 1, none⟩ := fun e => by injection e with _ e _; omega
  refine ⟨?_, ?_, ?_, ?_, hf.far (gb_two w b 0 1 (.bool (decide (z' < 0))) (.slice a' n' c')) h.lt, h.lt⟩
  · rw [World.cell?_setCell_other _ _ _ _ (fun e => ne e.symm)]
    exact World.cell?_setCell_same _ _ _ h.c0
  · refine World.cell?_setCell_same _ _ _ (u := .slice a n c) ?_
    rw [World.cell?_setCell_other _ _ _ _ ne]; exact h.c1
  · rw [World.frozen?_setCell, World.frozen?_setCell]; exact h.f0
  · rw [World.frozen?_setCell, World.frozen?_setCell]; exact h.f1
theorem IBox.new (w : World) {s : Bool} (hs : s = decide (z < 0)) (hf : FrZ w base (.agg #[.bool (decide (z < 0)), .slice a n c]) z) (base' : Nat) (hb : w.heap.size < base') (hbb : base' ≤ base) : IBox (w.alloc (.cells #[.bool s, .slice a n c] 49)) w.heap.size base' z a n c := by
  subst hs
  obtain ⟨k0, k1, k2, k3⟩ := two_cells w (.bool (decide (z < 0))) (.slice a n c) 49
  exact ⟨k0, k1, k2, k3, (hf.mono hbb).below (bl_alloc _ _), hb⟩
end

end Go.Proofs.Ytejliecmdkmgiaa

namespace Go.Proofs.Ytejliecmdkmgiaa
open Go.RowKit Go.Shelf

set_option maxHeartbeats 4000000 in
set_option maxRecDepth 100000 in
theorem each_scale (a : Option Addr) (n cap T : Nat) (E : Nat → Int) (sc : Int) (p1 : Value) (w : World) (hx : RdE w (.slice a n cap) n E) (hT : T ≤ 274877906944) (hzz : ∀ i, i < n → ZB T (sc * E i))
    (hf : ∀ (W : World) (v : Value) (z : Int), Below w.heap.size w W → RdZ W v z → Calls Try.prog 117 #[v, p1] W fun e w' => ∃ u, e = .returned u ∧ FrZ w' W.heap.size u (sc * z) ∧ Below W.heap.size W w') :
    Calls Try.prog 110 #[.slice a n cap, .func (.func 117) #[] #[p1]] w fun e w' => ∃ lb, e = .returned (.slice (some ⟨lb, 0, none⟩) n n) ∧ FrE w' w.heap.size (fun b => b ≤ lb) lb n (fun i => sc * E i) ∧ Below w.heap.size w w' := by
  have hnb : n ≤ 1048576 := by obtain ⟨_, _, e, -, h, -⟩ := hx; exact h
  have mk := mk_intsN n n (Nat.le_refl _) hnb
  have HX := Lib.hid hx
  have HFN := Lib.hid hf
  have HZZ := Lib.hid hzz
  have HT := Lib.hid hT
  clear hx hf hzz hT
  go_enter Try.func110, Try.ntmps110
  go_wp2_with fail
  have hp0 := PaE.start w w.heap.size n (fun b => b ≤ w.heap.size) (madeCells #[.bool false, .slice none 0 0] (n * 2)) (by simp [madeCells]) (Nat.le_refl _) (fun i => sc * E i)
  have hb0 : Below w.heap.size w (w.alloc (.cells (madeCells #[.bool false, .slice none 0 0] (n * 2)) 49)) := (Below.refl _ _).alloc (Nat.le_refl _) _
  have HP := Lib.hid hp0
  have HB := Lib.hid hb0
  clear hp0 hb0 mk
  generalize w.alloc (.cells (madeCells #[.bool false, .slice none 0 0] (n * 2)) 49) = w1 at HP HB ⊢
  go_loopw [13] (fun iv wr => ∃ i : Nat, i ≤ n ∧ iv = .int .i64 i ∧ PaE wr w.heap.size (fun b => b ≤ w.heap.size) w.heap.size n i (fun i => sc * E i) ∧ Below w.heap.size w wr) (fun iv _ => n - (intOf iv).toNat)
  case atStart => exact ⟨0, Nat.zero_le _, rfl, HP.out, HB.out⟩
  case round =>
    clear HP HB
    obtain ⟨i, i1, rfl, hpa, hbe⟩ := hrel
    by_cases hi : i < n
    · obtain ⟨b, o, s, m, rfl, c1, c2, hz⟩ := (HX.out.below hbe).get hi
      have hlb := hpa.lt
      obtain ⟨am, ac, an, rfl⟩ : ∃ am ac an, m = .slice am an ac := by
        obtain ⟨s', am, n', c, f, e, -⟩ := hz.parts
        simp at e
        exact ⟨am, c, n', e.2⟩
      obtain ⟨x0, x1, -, -⟩ := two_cells wr (.bool s) (.slice am an ac) 49
      have hb1 : Below wr.heap.size wr (wr.alloc (.cells #[.bool s, .slice am an ac] 49)) := (Below.refl _ _).alloc (Nat.le_refl _) _
      have hl := HFN.out _ _ (E i) (hbe.trans (hb1.mono hbe.size)) (hz.below hb1)
      obtain ⟨f1, f2⟩ := hpa.blk.cell (i := i * 2) (by omega)
      obtain ⟨f3, f4⟩ := hpa.blk.cell (i := i * 2 + 1) (by omega)
      obtain ⟨u1, g1⟩ := Option.isSome_iff_exists.1 f1
      obtain ⟨u2, g2⟩ := Option.isSome_iff_exists.1 f3
      have HPA := Lib.hid hpa
      have HBE := Lib.hid hbe
      have HL := Lib.hid hl
      have HB1 := Lib.hid hb1
      have HZB := Lib.hid (HZZ.out i hi)
      have k1 := cell_stays hb1 g1
      have k2 := cell_stays hb1 g2
      have k3 := froz_stays hb1 g1 f2
      have k4 := froz_stays hb1 g2 f4
      clear hpa hbe hl hb1 hz f1 f3
      go_upto_region 5 with fail
      generalize wr.alloc (.cells #[.bool s, .slice am an ac] 49) = w2 at *
      go_wp2_with fail
      (refine HL.out.mono ?_)
      rintro e w3 ⟨v, rfl, hf, hb3⟩
      have hrd := hf.le HZB.out HT.out
      obtain ⟨a3, n3, c3, rfl, ho⟩ := hf.agg
      have hs1 := HB1.out.size
      have hpb := (HPA.out.below HB1.out).below hb3
      have q1 := cell_stays hb3 k1
      have q2 := cell_stays hb3 k2
      have q3 := froz_stays hb3 k1 k3
      have q4 := froz_stays hb3 k2 k4
      have hput := hpb.put (j := i) hi (Nat.le_refl _) (Nat.le_refl _) hrd (fun b hb => ⟨(ho b hb).2, by have := (ho b hb).1; omega⟩)
      rw [show max i (i + 1) = i + 1 by omega] at hput
      have HPUT := Lib.hid (hput.congr (F := fun i => sc * E i) fun t _ => by
        by_cases e : t = i
        · rw [if_pos e, e]
        · rw [if_neg e])
      have hg : w3.grownBy ((w3.setCell ⟨w.heap.size, i * 2, none⟩ (.bool (decide (sc * E i < 0)))).setCell ⟨w.heap.size, i * 2 + 1, none⟩ (.slice a3 n3 c3)) (some w.heap.size) := gb_trans (gb_set _ _ _) (gb_set _ _ _)
      have hbw := (HBE.out.trans ((HB1.out.trans (hb3.mono HB1.out.size)).mono HBE.out.size))
      have HBN := Lib.hid (hbw.grown hg hbw.size (fun k hk => by injection hk with hk; omega))
      clear hf hrd ho hb3 hpb hput hg hbw HPA HL HZB HBE HB1 x0 x1 k1 k2 k3 k4 g1 g2 f2 f4 c1 c2
      go_wp2_with fail
      go_roundw
      case rel => exact ⟨i + 1, by omega, by go_num, HPUT.out, HBN.out⟩
      case measure => simp [intOf]; omega
    · obtain rfl : i = n := by omega
      have HPA := Lib.hid hpa
      have HBE := Lib.hid hbe
      clear hpa hbe
      go_wp2_with fail
      go_ret
      exact ⟨_, rfl, HPA.out, HBE.out⟩

set_option maxHeartbeats 1000000 in
set_option maxRecDepth 100000 in
theorem scale1_any (pb : Nat) (s : Bool) (am : Option Addr) (an ac : Nat) (sc : Int) (v : Value) (z : Int) (w : World) (h0 : w.cell? ⟨pb, 0, none⟩ = some (.bool s)) (h1 : w.cell? ⟨pb, 1, none⟩ = some (.slice am an ac)) (hc : RdZ w (.agg #[.bool s, .slice am an ac]) sc) (hv : RdZ w v z) :
    Calls Try.prog 117 #[v, .pointer (some ⟨pb, 0, none⟩)] w fun e w' => ∃ u, e = .returned u ∧ FrZ w' w.heap.size u (sc * z) ∧ Below w.heap.size w w' := by
  obtain ⟨sx, ax, nx, cx, fx, rfl, -⟩ := hv.parts
  have hb1 := bl_alloc w (.cells #[.bool sx, .slice ax nx cx] 49)
  have hs1 : (w.alloc (.cells #[.bool sx, .slice ax nx cx] 49)).heap.size = w.heap.size + 1 := by simp
  obtain ⟨y0, y1, -, -⟩ := two_cells w (.bool sx) (.slice ax nx cx) 49
  have hb2 := bl_alloc (w.alloc (.cells #[.bool sx, .slice ax nx cx] 49)) (.cells #[.bool false, .slice none 0 0] 49)
  obtain ⟨x0, x1, q0, q1⟩ := two_cells (w.alloc (.cells #[.bool sx, .slice ax nx cx] 49)) (.bool false) (.slice none 0 0) 49
  rw [hs1] at x0 x1 q0 q1
  have hb := below_via hb1 hb2
  replace y0 := cell_stays hb2 y0
  replace y1 := cell_stays hb2 y1
  replace h0 := cell_stays hb h0
  replace h1 := cell_stays hb h1
  have HV := Lib.hid (hv.below hb)
  have HC := Lib.hid (hc.below hb)
  have HB := Lib.hid hb
  have HSZ := Lib.hid (show ((w.alloc (.cells #[.bool sx, .slice ax nx cx] 49)).alloc (.cells #[.bool false, .slice none 0 0] 49)).heap.size = w.heap.size + 2 by simp)
  clear hv hc hb1 hb2 hb hs1
  go_enter Try.func117, Try.ntmps117
  go_upto_region 1 with fail
  generalize (w.alloc (.cells #[.bool sx, .slice ax nx cx] 49)).alloc (.cells #[.bool false, .slice none 0 0] 49) = W at *
  go_wp2_with fail
  refine (zMul_any _ _ sc z W HC.out HV.out).mono ?_
  rintro e w3 ⟨u, rfl, hf, hb3⟩
  obtain ⟨aq, nq, cq, rfl, -⟩ := hf.agg
  have v0 := froz_stays hb3 x0 q0
  have v1 := froz_stays hb3 x1 q1
  replace x0 := cell_stays hb3 x0
  replace x1 := cell_stays hb3 x1
  have hg := stored2_gb w3 (w.heap.size + 1) (.bool (decide (sc * z < 0))) (.slice aq nq cq)
  have hbw := HB.out.trans (hb3.mono HB.out.size)
  have HBL := Lib.hid (hbw.grown hg hbw.size (fun k hk => by injection hk with hk; omega))
  have HST := Lib.hid ((hf.far hg (by have := HSZ.out; omega)).mono HB.out.size)
  generalize hzt : sc * z = zt at *
  have HZT := Lib.hid hzt
  clear hf hb3 hg hbw hzt q0 q1 h0 h1 y0 y1 HV HC
  go_wp2_with fail
  refine bodyPost_ret (v := .agg #[.bool (decide (zt < 0)), .slice aq nq cq]) ?_ rfl ⟨_, rfl, by rw [HZT.out]; exact HST.out, HBL.out⟩
  simp [results, Try.results117, go_sem, x0, x1]

set_option maxHeartbeats 4000000 in
set_option maxRecDepth 100000 in
theorem Scale_good (n S X : Nat) (xv sl : Value) (sc : Int) (A : Nat → Int) (w : World) (hn : n ≤ 64) (hSX : S + X ≤ 274877906944) (hv : RdZ w xv sc) (hX : ZB X sc) (hr : RdE w sl (n * n) A) (hA : ∀ q, q < n * n → ZB S (A q)) :
    Calls Try.prog 51 #[xv, .agg #[.int .i64 n, .int .i64 n, sl]] w fun e w' => ∃ lb, e = .returned (.tuple #[.agg #[.int .i64 n, .int .i64 n, .slice (some ⟨lb, 0, none⟩) (n * n) (n * n)], .int .i64 0]) ∧
      FrE w' w.heap.size (fun b => b ≤ lb) lb (n * n) (fun q => sc * A q) ∧ Below w.heap.size w w' := by
  have hmix : Try.prog.follows .mixedOrders = true := by kernel_rfl
  have hK4 : n * n ≤ 4096 := Nat.mul_le_mul hn hn
  obtain ⟨a, cap, rfl, hcap⟩ := hr.slice
  obtain ⟨sx, ax, nx, cx, fx, rfl, -⟩ := hv.parts
  obtain ⟨N, hN⟩ : ∃ N, N = n * n := ⟨_, rfl⟩
  obtain ⟨W1, hW1⟩ : ∃ W1, W1 = w.alloc (.cells #[.bool sx, .slice ax nx cx] 49) := ⟨_, rfl⟩
  have hb1 : Below w.heap.size w W1 := by rw [hW1]; exact bl_alloc _ _
  have hs1 : W1.heap.size = w.heap.size + 1 := by rw [hW1]; simp
  obtain ⟨c0, c1, -, -⟩ := two_cells w (.bool sx) (.slice ax nx cx) 49
  rw [← hW1] at c0 c1
  have hb2 := two_mats W1 (.int .i64 n) (.int .i64 n) (.slice a N cap) (.int .i64 0) (.int .i64 0) (.slice none 0 0)
  obtain ⟨hbx, hbr, hs2⟩ := two_mbox W1 n n 0 0 (.slice a N cap) (.slice none 0 0)
  rw [hs1] at hbx hbr hs2
  have hb := below_via hb1 hb2
  replace c0 := cell_stays hb2 c0
  replace c1 := cell_stays hb2 c1
  have hck := fun (u : World) => Check_any n n a N cap (by omega) u
  rw [checkE_ok hn hn hN] at hck
  have hea := fun (u : World) (hu : Below w.heap.size w u) (h0 : u.cell? ⟨w.heap.size, 0, none⟩ = some (.bool sx)) (h1 : u.cell? ⟨w.heap.size, 1, none⟩ = some (.slice ax nx cx)) =>
    each_scale a (n * n) cap (S + X) A sc (.pointer (some ⟨w.heap.size, 0, none⟩)) u (hr.below hu) hSX (fun q hq => by rw [Int.mul_comm]; exact (hA q hq).mul hX)
      (fun W v z hW hv' => scale1_any w.heap.size sx ax nx cx sc v z W (cell_stays hW h0) (cell_stays hW h1) ((hv.below hu).below hW) hv')
  simp only [← hN] at hea
  have hmf : ∀ (fn : Fn) (first cap : Array Value) (w : World), (Instr.makeFunc fn first cap).run Try.prog w = .ok (.func fn first cap) w := fun fn first cap w => by rfl
  have HCK := Lib.hid hck
  have HEA := Lib.hid hea
  have HB := Lib.hid hb
  have HBX := Lib.hid hbx
  have HBR := Lib.hid hbr
  have HS2 := Lib.hid hs2
  rw [← hN]
  clear hv hX hr hA hck hea hb hb1 hb2 hbx hbr hs1 hs2 hN hSX
  go_enter Try.func51, Try.ntmps51
  go_upto_region 1 with fail
  rw [← hW1]
  clear hW1
  generalize (W1.alloc (.cells #[.int .i64 n, .int .i64 n, .slice a N cap] 24)).alloc (.cells #[.int .i64 0, .int .i64 0, .slice none 0 0] 24) = W at *
  have x0 := HBX.out.m0
  have x1 := HBX.out.m1
  have x2 := HBX.out.m2
  go_wp2_with fail
  (refine (HCK.out W).mono ?_)
  rintro e w3 ⟨rfl, hb3⟩
  replace HB := Lib.hid (below_via HB.out hb3)
  replace HBX := Lib.hid (HBX.out.below hb3)
  replace HBR := Lib.hid (HBR.out.below hb3)
  replace c0 := cell_stays hb3 c0
  replace c1 := cell_stays hb3 c1
  have HS3 := Lib.hid (show w.heap.size + 1 + 1 < w3.heap.size by have := HS2.out; have := hb3.size; omega)
  clear hb3 HCK HS2 x0 x1 x2
  have x0 := HBX.out.m0
  have x1 := HBX.out.m1
  have x2 := HBX.out.m2
  go_upto_region 4 with fail
  refine region_early (fun u => u.cell? ⟨w.heap.size + 1, 0, none⟩ = some (.int .i64 n) ∧ u.cell? ⟨w.heap.size + 1, 1, none⟩ = some (.int .i64 n) ∧ u.cell? ⟨w.heap.size + 1, 2, none⟩ = some (.slice a N cap)) 9 [0, 1, 2, 3, 4, 5, 6] 4 hmix (by kernel_rfl) rfl (by kernel_rfl) (fun _ _ d _ _ h => by cases d <;> exact h) ⟨x0, x1, x2⟩ ?_
  iterate 7 (refine early_take rfl (by rfl) ?_; apply Exists.intro; refine ⟨fun u hu => ?_, ?_⟩; (obtain ⟨u_1, u_2, u_3⟩ := hu; go_simp; rfl); simp only [Act.put, List.getElem_toArray, List.getElem_cons_zero, List.getElem_cons_succ, List.setIfInBounds_toArray, List.set_cons_zero, List.set_cons_succ])
  refine early_done ?_
  simp only [marked]
  refine anyL_one (i := 7) (by kernel_rfl) rfl (by rfl) fun J hJ => ?_
  go_simp
  refine (HEA.out w3.drew (below_via HB.out (bl_drew w3)) c0 c1).mono ?_
  rintro e w4 ⟨lb, rfl, hf, hb4⟩
  have hb4' := below_via (bl_drew w3) hb4
  have hS4 := And.intro (cell_stays hb4' x0) (And.intro (cell_stays hb4' x1) (cell_stays hb4' x2))
  have hr4 := HBR.out.below hb4'
  have y0 := hr4.m0
  have y1 := hr4.m1
  have y2 := hr4.m2
  have v0 := hr4.f0
  have v1 := hr4.f1
  have v2 := hr4.f2
  have hlb : w3.heap.size ≤ lb := hf.own
  have hbw := below_via HB.out hb4'
  have hg := stored3_gb w4 (w.heap.size + 1 + 1) (.int .i64 n) (.int .i64 n) (.slice (some ⟨lb, 0, none⟩) N N)
  have HBL := Lib.hid (hbw.grown hg hbw.size (fun k hk => by injection hk with hk; omega))
  have HF := Lib.hid ((hf.mono (show w.heap.size ≤ w3.heap.size from HB.out.size)).grown hg (by have := HS3.out; omega) (show w.heap.size + 1 + 1 ≤ lb by have := HS3.out; omega))
  refine hJ _ _ (fun _ => hS4) ?_
  clear hJ J hf hb4 hb4' hr4 hlb hbw hg HEA HBX HBR x0 x1 x2 c0 c1
  refine anyL_yield (i := 8) rfl (by kernel_rfl) (by kernel_rfl) (by kernel_rfl) (by kernel_rfl) (fun _ _ d _ _ h => by cases d <;> exact h) (by rfl) hS4 ?_
  apply Exists.intro
  refine ⟨fun u => ?_, ?_⟩
  · go_simp
    rfl
  simp only [Act.put, List.getElem_toArray, List.getElem_cons_zero, List.getElem_cons_succ, List.setIfInBounds_toArray, List.set_cons_zero, List.set_cons_succ]
  refine anyL_one (i := 9) (by kernel_rfl) rfl (by rfl) fun J hJ => ?_
  go_simp
  refine hJ _ _ (fun e => absurd e (by decide)) ?_
  clear hJ J
  refine anyL_one (i := 10) (by kernel_rfl) rfl (by rfl) fun J hJ => ?_
  go_simp
  refine hJ _ _ (fun e => absurd e (by decide)) ?_
  clear hJ J
  refine anyL_done (by kernel_rfl) ?_ _
  clear hS4
  go_wp2_with fail
  refine bodyPost_ret (v := .tuple #[.agg #[.int .i64 n, .int .i64 n, .slice (some ⟨lb, 0, none⟩) N N], .int .i64 0]) ?_ rfl ⟨lb, rfl, HF.out, HBL.out⟩
  simp [results, Try.results51, go_sem, y0, y1, y2]
end Go.Proofs.Ytejliecmdkmgiaa

namespace Go.Proofs.Ytejliecmdkmgiaa
open laZ

end Go.Proofs.Ytejliecmdkmgiaa

namespace Go.Proofs.Ytejliecmdkmgiaa
open Go.RowKit Go.Shelf

/-- a box of a matrix that a call's answer is laid into -/
theorem MBox.laid {w w1 : World} {mb base lb n N : Nat} {r c : Int} {v : Value} {E : Nat → Int} (h : MBox w mb r c v) (hb : Below w.heap.size w w1) (hf : FrE w1 base (fun b => b ≤ lb) lb N E) (hbase : w.heap.size ≤ base) (hN : N ≤ 1048576) (r' c' : Int) :
    MBox (stored3 w1 mb (.int .i64 r') (.int .i64 c') (.slice (some ⟨lb, 0, none⟩) N N)) mb r' c' (.slice (some ⟨lb, 0, none⟩) N N) ∧
    RdE (stored3 w1 mb (.int .i64 r') (.int .i64 c') (.slice (some ⟨lb, 0, none⟩) N N)) (.slice (some ⟨lb, 0, none⟩) N N) N E ∧
    w1.grownBy (stored3 w1 mb (.int .i64 r') (.int .i64 c') (.slice (some ⟨lb, 0, none⟩) N N)) (some mb) := by
  have hg := stored3_gb w1 mb (.int .i64 r') (.int .i64 c') (.slice (some ⟨lb, 0, none⟩) N N)
  have hl := hf.own
  have hm : mb < w.heap.size := World.block_lt_of_cell? w _ h.m0
  exact ⟨(h.below hb).store, (hf.grown hg (by omega) (show mb ≤ lb by omega)).rd (Nat.le_refl _) hN, hg⟩
end Go.Proofs.Ytejliecmdkmgiaa

namespace Go.Proofs.Ytejliecmdkmgiaa
open Go.RowKit Go.ChangeShapes Go.WideShapes Go.Deep Go.Joins
section
variable {H : Type} {enc : TypeId × Value → H} {w : World} {base : Nat} {spare : Nat → Bool} {held : Bool}
end
end Go.Proofs.Ytejliecmdkmgiaa
