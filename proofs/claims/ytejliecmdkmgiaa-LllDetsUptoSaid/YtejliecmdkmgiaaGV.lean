import Derived.Test.YtejliecmdkmgiaaGU
import Derived.Test.YtejliecmdkmgiaaGR
import Derived.Test.YtejliecmdkmgiaaGS
import Derived.Test.YtejliecmdkmgiaaGI
import Derived.Test.YtejliecmdkmgiaaGK
import Derived.Test.YtejliecmdkmgiaaGH
import Derived.Test.YtejliecmdkmgiaaGD
set_option linter.unusedVariables false
set_option linter.unusedSimpArgs false
set_option maxHeartbeats 8000000
set_option maxRecDepth 100000
namespace Go.Proofs.Ytejliecmdkmgiaa
open Go.RowKit Go.Shelf
structure IBox (w : World) (b base : Nat) (z : Int) (a : Option Addr) (n c : Nat) : Prop where
  c0 : w.cell? ⟨b, 0, none⟩ = some (.bool (decide (z < 0)))
  c1 : w.cell? ⟨b, 1, none⟩ = some (.slice a n c)
  f0 : w.frozen? ⟨b, 0, none⟩ = false
  f1 : w.frozen? ⟨b, 1, none⟩ = false
  fr : FrZ w base (.agg #[.bool (decide (z < 0)), .slice a n c]) z
  lt : b < base
section
variable {w w' u : World} {b base n c : Nat} {z z' : Int} {a : Option Addr}
theorem IBox.below (h : IBox w b base z a n c) (hb : Below w.heap.size w w') : IBox w' b base z a n c :=
  ⟨cell_stays hb h.c0, cell_stays hb h.c1, froz_stays hb h.c0 h.f0, froz_stays hb h.c1 h.f1, h.fr.below hb, h.lt⟩
theorem IBox.put (h : IBox w b base z a n c) {a' : Option Addr} {n' c' : Nat} (hf : FrZ w base (.agg #[.bool (decide (z' < 0)), .slice a' n' c']) z') :
    IBox ((w.setCell ⟨b, 0, none⟩ (.bool (decide (z' < 0)))).setCell ⟨b, 1, none⟩ (.slice a' n' c')) b base z' a' n' c' := by
  have ne : (⟨b, 0, none⟩ : Addr) ≠ ⟨b, 1, none⟩ := fun e => by injection e with _ e _; omega
  refine ⟨?_, ?_, ?_, ?_, hf.far (gb_two w b 0 1 (.bool (decide (z' < 0))) (.slice a' n' c')) h.lt, h.lt⟩
  · rw [World.cell?_setCell_other _ _ _ _ (fun e => ne e.symm)]
    exact World.cell?_setCell_same _ _ _ h.c0
  · refine World.cell?_setCell_same _ _ _ (u := .slice a n c) ?_
    rw [World.cell?_setCell_other _ _ _ _ ne]; exact h.c1
  · rw [World.frozen?_setCell, World.frozen?_setCell]; exact h.f0
  · rw [World.frozen?_setCell, World.frozen?_setCell]; exact h.f1
theorem IBox.new (w : World) {s : Bool} (hs : s = decide (z < 0)) (hf : FrZ w base (.agg #[.bool (decide (z < 0)), .slice a n c]) z) (base' : Nat) (hb : w.heap.size < base') (hbb : base' ≤ base) : IBox (w.alloc (.cells #[.bool s, .slice a n c] 49)) w.heap.size base' z a n c := by
  subst hs
  obtain ⟨k0, k1, k2, k3⟩ := two_cells w (.bool (decide (z < 0))) (.slice a n c) 49
  exact ⟨k0, k1, k2, k3, (hf.mono hbb).below (bl_alloc _ _), hb⟩
end
def hvl (E : Nat → Int) (x : Int) (n : Nat) : Nat → Int
  | 0 => 0
  | t + 1 => hvl E x n t * x + E (n - (t + 1))
theorem hvl_eq (E : Nat → Int) (x : Int) (n : Nat) : ∀ t, t ≤ n → hvl E x n t = laZ.sm t (fun l => E (n - t + l) * x ^ l)
  | 0, _ => rfl
  | t + 1, ht => by
    show hvl E x n t * x + E (n - (t + 1)) = _
    rw [hvl_eq E x n t (by omega), sm_first, ← laZ.sm_mul_r, laZ.sm_congr (g := fun i => E (n - (t + 1) + (i + 1)) * x ^ (i + 1)) (fun i _ => by rw [show n - (t + 1) + (i + 1) = n - t + i by omega, Int.pow_succ]; exact Int.mul_assoc _ _ _)]
    simp only [Nat.add_zero, Int.pow_zero, Int.mul_one]
    exact Int.add_comm _ _
theorem hvl_all (E : Nat → Int) (x : Int) (n : Nat) : hvl E x n n = laZ.sm n (fun i => E i * x ^ i) := by
  rw [hvl_eq E x n n (Nat.le_refl _)]
  exact laZ.sm_congr fun l _ => by simp only [Nat.sub_self, Nat.zero_add]
theorem hvl_zb {E : Nat → Int} {x : Int} {n P X : Nat} (hE : ∀ i, i < n → ZB P (E i)) (hX : ZB X x) : ∀ t, t ≤ n → ZB (P + t * (X + 1)) (hvl E x n t)
  | 0, _ => zb_nil _
  | t + 1, ht => by
    have h1 := zb_max ((hvl_zb hE hX t (by omega)).mul hX) (hE (n - (t + 1)) (by omega)) (Nat.le_refl _) (show P ≤ P + t * (X + 1) + X by omega)
    rwa [show P + t * (X + 1) + X + 1 = P + (t + 1) * (X + 1) by rw [Nat.add_mul]; omega] at h1
theorem Value_any (xl xv : Value) (n P X : Nat) (E : Nat → Int) (x : Int) (w : World) (hx : RdE w xl n E) (hv : RdZ w xv x) (hE : ∀ i, i < n → ZB P (E i)) (hX : ZB X x) (hB : P + (n + 1) * (X + 1) ≤ 274877906944) :
    Calls Try.prog 101 #[xl, xv] w fun e w' => ∃ v, e = .returned v ∧ FrZ w' w.heap.size v (hvl E x n n) ∧ Below w.heap.size w w' := by
  have hmix : Try.prog.follows .mixedOrders = true := by kernel_rfl
  have hn := hx.le_n
  obtain ⟨al, cl, rfl, hcl⟩ := hx.slice
  obtain ⟨sx, ax, nx, cx, fx, rfl, -⟩ := hv.parts
  obtain ⟨W1, hW1⟩ : ∃ W1, W1 = w.alloc (.cells #[.bool sx, .slice ax nx cx] 49) := ⟨_, rfl⟩
  have hb1 : Below w.heap.size w W1 := by rw [hW1]; exact bl_alloc _ _
  have hs1 : W1.heap.size = w.heap.size + 1 := by rw [hW1]; simp
  obtain ⟨x0, x1, -, -⟩ := two_cells w (.bool sx) (.slice ax nx cx) 49
  rw [← hW1] at x0 x1
  obtain ⟨W2, hW2⟩ : ∃ W2, W2 = W1.alloc (.cells #[.bool false, .slice none 0 0] 49) := ⟨_, rfl⟩
  have hb2 : Below W1.heap.size W1 W2 := by rw [hW2]; exact bl_alloc _ _
  have hs2 : W2.heap.size = w.heap.size + 2 := by rw [hW2]; simp [hs1]
  obtain ⟨r0, r1, q0, q1⟩ := two_cells W1 (.bool false) (.slice none 0 0) 49
  rw [← hW2, hs1] at r0 r1 q0 q1
  obtain ⟨W3, hW3⟩ : ∃ W3, W3 = W2.alloc (.cells #[.bool false, .slice none 0 0] 49) := ⟨_, rfl⟩
  have hb3 : Below W2.heap.size W2 W3 := by rw [hW3]; exact bl_alloc _ _
  have hbx : IBox W3 (w.heap.size + 2) (w.heap.size + 3) 0 none 0 0 := by
    have h := IBox.new W2 (z := 0) (s := false) (a := none) (n := 0) (c := 0) rfl (fr_zero W2 (w.heap.size + 3)) (w.heap.size + 3) (by omega) (Nat.le_refl _)
    rwa [← hW3, hs2] at h
  have hb := below_via hb1 (below_via hb2 hb3)
  replace x0 := cell_stays hb3 (cell_stays hb2 x0)
  replace x1 := cell_stays hb3 (cell_stays hb2 x1)
  replace q0 := froz_stays hb3 r0 q0
  replace q1 := froz_stays hb3 r1 q1
  replace r0 := cell_stays hb3 r0
  replace r1 := cell_stays hb3 r1
  have hsz3 : W3.heap.size = w.heap.size + 3 := by rw [hW3]; simp [hs2]
  have hzz := hvl_zb hE hX
  have HX := Lib.hid hx
  have HV := Lib.hid hv
  have HE := Lib.hid hE
  have HZ := Lib.hid hzz
  have HB := Lib.hid hb
  have HBX := Lib.hid hbx
  have HXX := Lib.hid hX
  have HBB := Lib.hid hB
  have HSZ := Lib.hid hsz3
  clear hx hv hE hX hB hzz hb hbx hb1 hb2 hb3 hs1 hs2 hsz3
  go_enter Try.func101, Try.ntmps101
  go_upto_region 2 with fail
  rw [← hW1, ← hW2, ← hW3]
  clear hW1 hW2 hW3
  have w0 : IntKind.i64.wrap ((n : Int) - 1) = (n : Int) - 1 := IntWalk.i64_in _ (by omega)
  go_wp2_with fail
  go_loopw [6] (fun iv wr => ∃ (t : Nat) (a : Option Addr) (k c : Nat), t ≤ n ∧ iv = .int .i64 ((n : Int) - 1 - t) ∧ W3.grownBy wr (some (w.heap.size + 2)) ∧ IBox wr (w.heap.size + 2) (w.heap.size + 3) (hvl E x n t) a k c) (fun iv _ => (intOf iv + 1).toNat)
  case atStart => exact ⟨0, none, 0, 0, Nat.zero_le _, by simp, gb_refl _ _, HBX.out⟩
  case round =>
    clear HBX
    obtain ⟨t, a, k, c, ht, rfl, hg, hbx⟩ := hrel
    obtain ⟨z, hz⟩ : ∃ z : Int, z = (n : Int) - 1 - t := ⟨_, rfl⟩
    rw [← hz]
    have hbl := HB.out.grown hg HB.out.size (fun k hk => by injection hk with hk; omega)
    have ne0 : some w.heap.size ≠ some (w.heap.size + 2) := fun e => by injection e with e; omega
    have ne1 : some (w.heap.size + 1) ≠ some (w.heap.size + 2) := fun e => by injection e with e; omega
    by_cases htn : t < n
    · obtain ⟨i, hi⟩ : ∃ i, i = n - (t + 1) := ⟨_, rfl⟩
      obtain rfl : z = (i : Int) := by omega
      clear hz
      have hi0 : (0 : Int) ≤ (i : Int) := by omega
      have hin : i < n := by omega
      have hin1 : (i : Int) < (n : Int) := by omega
      have wi : IntKind.i64.wrap ((i : Int) - 1) = (i : Int) - 1 := IntWalk.i64_in _ (by omega)
      obtain ⟨b, o, s, m, rfl, c1, c2, c3⟩ := (HX.out.below hbl).get hin
      obtain ⟨am, nm, cm, rfl⟩ := c3.agg
      have y0 := hg.cell x0 ne0
      have y1 := hg.cell x1 ne0
      have v0 := hbx.c0
      have v1 := hbx.c1
      have u0 := hbx.f0
      have u1 := hbx.f1
      have hb0 : P + t * (X + 1) + X ≤ 274877906944 := by
        have h1 := HBB.out
        have h2 := Nat.mul_le_mul_right (X + 1) (show t + 1 ≤ n + 1 by omega)
        rw [Nat.add_mul t 1] at h2
        omega
      have hzt := HZ.out t ht
      have hmz := hzt.mul HXX.out
      have hma := zMulAdd_any _ _ _ (hvl E x n t) x (E i) _ wr.drew (by omega) hmz ((hbx.fr.rd hzt (by omega)).below (bl_drew _)) ((HV.out.below hbl).below (bl_drew _)) (c3.below (bl_drew _))
      rw [show hvl E x n t * x + E i = hvl E x n (t + 1) by rw [hi]; rfl] at hma
      have HMA := Lib.hid hma
      have HBX := Lib.hid hbx
      have HG := Lib.hid hg
      have HI := Lib.hid hi
      have HSG := Lib.hid hbl
      clear hma hbx hg hi hbl c3 hzt hmz hb0
      generalize hvl E x n t = zt at *
      go_wp2_with fail
      refine region_early (fun u => u.cell? ⟨w.heap.size + 2, 0, none⟩ = some (.bool (decide (zt < 0))) ∧ u.cell? ⟨w.heap.size + 2, 1, none⟩ = some (.slice a k c) ∧ u.cell? ⟨w.heap.size, 0, none⟩ = some (.bool sx) ∧ u.cell? ⟨w.heap.size, 1, none⟩ = some (.slice ax nx cx) ∧ u.cell? ⟨b, o + i * 2, none⟩ = some (.bool s) ∧ u.cell? ⟨b, o + i * 2 + 1, none⟩ = some (.slice am nm cm)) 7 [0, 1, 2, 3, 4, 5] 2 hmix (by kernel_rfl) rfl (by kernel_rfl) (fun _ _ d _ _ h => by cases d <;> exact h) ⟨v0, v1, y0, y1, c1, c2⟩ ?_
      iterate 6 (refine early_take rfl (by rfl) ?_; apply Exists.intro; refine ⟨fun u hu => ?_, ?_⟩; (obtain ⟨u_1, u_2, u_3, u_4, u_5, u_6⟩ := hu; go_simp; rfl); simp only [Act.put, List.getElem_toArray, List.getElem_cons_zero, List.getElem_cons_succ, List.setIfInBounds_toArray, List.set_cons_zero, List.set_cons_succ])
      refine early_done ?_
      simp only [marked]
      refine anyL_one (i := 6) (by kernel_rfl) rfl (by rfl) fun J hJ => ?_
      go_simp
      refine HMA.out.mono ?_
      rintro e w5 ⟨v5, rfl, hf5, hb5⟩
      have hb5' := below_via (bl_drew wr) hb5
      obtain ⟨a5, n5, p5, rfl, -⟩ := hf5.agg
      have hx5 := HBX.out.below hb5'
      have z0 := hx5.c0
      have z1 := hx5.c1
      have z2 := hx5.f0
      have z3 := hx5.f1
      have hput := hx5.put (hf5.mono (show w.heap.size + 3 ≤ wr.heap.size by have := HSZ.out; have := HG.out.size; omega))
      have HPT := Lib.hid hput
      have HG5 := Lib.hid (gb_trans (gb_trans HG.out (gb_below hb5' _)) (gb_two w5 (w.heap.size + 2) 0 1 (.bool (decide (hvl E x n (t + 1) < 0))) (.slice a5 n5 p5)))
      refine hJ _ _ (fun _ => ⟨cell_stays hb5' v0, cell_stays hb5' v1, cell_stays hb5' y0, cell_stays hb5' y1, cell_stays hb5' c1, cell_stays hb5' c2⟩) ?_
      clear hJ J hf5 hb5 hb5' hx5 hput HMA HBX HG v0 v1 u0 u1 y0 y1 c1 c2
      refine anyL_one (i := 7) (by kernel_rfl) rfl (by rfl) fun J hJ => ?_
      go_simp
      refine hJ _ _ (fun e => absurd e (by decide)) ?_
      clear hJ J
      refine anyL_done (by kernel_rfl) ?_ _
      go_wp2_with fail
      go_roundw
      case rel => exact ⟨t + 1, a5, n5, p5, by omega, by have := HI.out; congr 1; omega, HG5.out, HPT.out⟩
      case measure => first | (simp [intOf]; done) | (simp [intOf]; omega)
    · obtain rfl : t = n := by omega
      obtain rfl : z = -1 := by omega
      clear hz
      have v0 := hbx.c0
      have v1 := hbx.c1
      have y0 := hg.cell r0 ne1
      have y1 := hg.cell r1 ne1
      have y2 := froz_grown hg (by omega) r0 q0
      have y3 := froz_grown hg (by omega) r1 q1
      have hgg := stored2_gb wr (w.heap.size + 1) (.bool (decide (hvl E x t t < 0))) (.slice a k c)
      have HF := Lib.hid ((hbx.fr.far hgg (by omega)).mono (show w.heap.size ≤ w.heap.size + 3 by omega))
      have HBL := Lib.hid (hbl.grown hgg hbl.size (fun k hk => by injection hk with hk; omega))
      clear hbx hg hbl hgg x0 x1 r0 r1 q0 q1
      generalize hzt : hvl E x t t = zt at *
      have HZT := Lib.hid hzt
      clear hzt
      go_wp2_with fail
      refine bodyPost_ret (v := .agg #[.bool (decide (zt < 0)), .slice a k c]) ?_ rfl ⟨_, rfl, by rw [HZT.out]; exact HF.out, HBL.out⟩
      simp [results, Try.results101, go_sem, y0, y1]
end Go.Proofs.Ytejliecmdkmgiaa
namespace Go.Proofs.Ytejliecmdkmgiaa
open Go.RowKit Go.Shelf
theorem each_scale (a : Option Addr) (n cap T : Nat) (E : Nat → Int) (sc : Int) (p1 : Value) (w : World) (hx : RdE w (.slice a n cap) n E) (hT : T ≤ 274877906944) (hzz : ∀ i, i < n → ZB T (sc * E i))
    (hf : ∀ (W : World) (v : Value) (z : Int), Below w.heap.size w W → RdZ W v z → Calls Try.prog 117 #[v, p1] W fun e w' => ∃ u, e = .returned u ∧ FrZ w' W.heap.size u (sc * z) ∧ Below W.heap.size W w') :
    Calls Try.prog 110 #[.slice a n cap, .func (.func 117) #[] #[p1]] w fun e w' => ∃ lb, e = .returned (.slice (some ⟨lb, 0, none⟩) n n) ∧ FrE w' w.heap.size (fun b => b ≤ lb) lb n (fun i => sc * E i) ∧ Below w.heap.size w w' := by
  have hnb : n ≤ 1048576 := by obtain ⟨_, _, e, -, h, -⟩ := hx; exact h
  have mk := mk_intsN n n (Nat.le_refl _) hnb
  have HX := Lib.hid hx
  have HFN := Lib.hid hf
  have HZZ := Lib.hid hzz
  have HT := Lib.hid hT
  clear hx hf hzz hT
  go_enter Try.func110, Try.ntmps110
  go_wp2_with fail
  have hp0 := PaE.start w w.heap.size n (fun b => b ≤ w.heap.size) (madeCells #[.bool false, .slice none 0 0] (n * 2)) (by simp [madeCells]) (Nat.le_refl _) (fun i => sc * E i)
  have hb0 : Below w.heap.size w (w.alloc (.cells (madeCells #[.bool false, .slice none 0 0] (n * 2)) 49)) := (Below.refl _ _).alloc (Nat.le_refl _) _
  have HP := Lib.hid hp0
  have HB := Lib.hid hb0
  clear hp0 hb0 mk
  generalize w.alloc (.cells (madeCells #[.bool false, .slice none 0 0] (n * 2)) 49) = w1 at HP HB ⊢
  go_loopw [13] (fun iv wr => ∃ i : Nat, i ≤ n ∧ iv = .int .i64 i ∧ PaE wr w.heap.size (fun b => b ≤ w.heap.size) w.heap.size n i (fun i => sc * E i) ∧ Below w.heap.size w wr) (fun iv _ => n - (intOf iv).toNat)
  case atStart => exact ⟨0, Nat.zero_le _, rfl, HP.out, HB.out⟩
  case round =>
    clear HP HB
    obtain ⟨i, i1, rfl, hpa, hbe⟩ := hrel
    by_cases hi : i < n
    · obtain ⟨b, o, s, m, rfl, c1, c2, hz⟩ := (HX.out.below hbe).get hi
      have hlb := hpa.lt
      obtain ⟨am, ac, an, rfl⟩ : ∃ am ac an, m = .slice am an ac := by
        obtain ⟨s', am, n', c, f, e, -⟩ := hz.parts
        simp at e
        exact ⟨am, c, n', e.2⟩
      obtain ⟨x0, x1, -, -⟩ := two_cells wr (.bool s) (.slice am an ac) 49
      have hb1 : Below wr.heap.size wr (wr.alloc (.cells #[.bool s, .slice am an ac] 49)) := (Below.refl _ _).alloc (Nat.le_refl _) _
      have hl := HFN.out _ _ (E i) (hbe.trans (hb1.mono hbe.size)) (hz.below hb1)
      obtain ⟨f1, f2⟩ := hpa.blk.cell (i := i * 2) (by omega)
      obtain ⟨f3, f4⟩ := hpa.blk.cell (i := i * 2 + 1) (by omega)
      obtain ⟨u1, g1⟩ := Option.isSome_iff_exists.1 f1
      obtain ⟨u2, g2⟩ := Option.isSome_iff_exists.1 f3
      have HPA := Lib.hid hpa
      have HBE := Lib.hid hbe
      have HL := Lib.hid hl
      have HB1 := Lib.hid hb1
      have HZB := Lib.hid (HZZ.out i hi)
      have k1 := cell_stays hb1 g1
      have k2 := cell_stays hb1 g2
      have k3 := froz_stays hb1 g1 f2
      have k4 := froz_stays hb1 g2 f4
      clear hpa hbe hl hb1 hz f1 f3
      go_upto_region 5 with fail
      generalize wr.alloc (.cells #[.bool s, .slice am an ac] 49) = w2 at *
      go_wp2_with fail
      (refine HL.out.mono ?_)
      rintro e w3 ⟨v, rfl, hf, hb3⟩
      have hrd := hf.le HZB.out HT.out
      obtain ⟨a3, n3, c3, rfl, ho⟩ := hf.agg
      have hs1 := HB1.out.size
      have hpb := (HPA.out.below HB1.out).below hb3
      have q1 := cell_stays hb3 k1
      have q2 := cell_stays hb3 k2
      have q3 := froz_stays hb3 k1 k3
      have q4 := froz_stays hb3 k2 k4
      have hput := hpb.put (j := i) hi (Nat.le_refl _) (Nat.le_refl _) hrd (fun b hb => ⟨(ho b hb).2, by have := (ho b hb).1; omega⟩)
      rw [show max i (i + 1) = i + 1 by omega] at hput
      have HPUT := Lib.hid (hput.congr (F := fun i => sc * E i) fun t _ => by
        by_cases e : t = i
        · rw [if_pos e, e]
        · rw [if_neg e])
      have hg : w3.grownBy ((w3.setCell ⟨w.heap.size, i * 2, none⟩ (.bool (decide (sc * E i < 0)))).setCell ⟨w.heap.size, i * 2 + 1, none⟩ (.slice a3 n3 c3)) (some w.heap.size) := gb_trans (gb_set _ _ _) (gb_set _ _ _)
      have hbw := (HBE.out.trans ((HB1.out.trans (hb3.mono HB1.out.size)).mono HBE.out.size))
      have HBN := Lib.hid (hbw.grown hg hbw.size (fun k hk => by injection hk with hk; omega))
      clear hf hrd ho hb3 hpb hput hg hbw HPA HL HZB HBE HB1 x0 x1 k1 k2 k3 k4 g1 g2 f2 f4 c1 c2
      go_wp2_with fail
      go_roundw
      case rel => exact ⟨i + 1, by omega, by go_num, HPUT.out, HBN.out⟩
      case measure => simp [intOf]; omega
    · obtain rfl : i = n := by omega
      have HPA := Lib.hid hpa
      have HBE := Lib.hid hbe
      clear hpa hbe
      go_wp2_with fail
      go_ret
      exact ⟨_, rfl, HPA.out, HBE.out⟩
theorem scale1_any (pb : Nat) (s : Bool) (am : Option Addr) (an ac : Nat) (sc : Int) (v : Value) (z : Int) (w : World) (h0 : w.cell? ⟨pb, 0, none⟩ = some (.bool s)) (h1 : w.cell? ⟨pb, 1, none⟩ = some (.slice am an ac)) (hc : RdZ w (.agg #[.bool s, .slice am an ac]) sc) (hv : RdZ w v z) :
    Calls Try.prog 117 #[v, .pointer (some ⟨pb, 0, none⟩)] w fun e w' => ∃ u, e = .returned u ∧ FrZ w' w.heap.size u (sc * z) ∧ Below w.heap.size w w' := by
  obtain ⟨sx, ax, nx, cx, fx, rfl, -⟩ := hv.parts
  have hb1 := bl_alloc w (.cells #[.bool sx, .slice ax nx cx] 49)
  have hs1 : (w.alloc (.cells #[.bool sx, .slice ax nx cx] 49)).heap.size = w.heap.size + 1 := by simp
  obtain ⟨y0, y1, -, -⟩ := two_cells w (.bool sx) (.slice ax nx cx) 49
  have hb2 := bl_alloc (w.alloc (.cells #[.bool sx, .slice ax nx cx] 49)) (.cells #[.bool false, .slice none 0 0] 49)
  obtain ⟨x0, x1, q0, q1⟩ := two_cells (w.alloc (.cells #[.bool sx, .slice ax nx cx] 49)) (.bool false) (.slice none 0 0) 49
  rw [hs1] at x0 x1 q0 q1
  have hb := below_via hb1 hb2
  replace y0 := cell_stays hb2 y0
  replace y1 := cell_stays hb2 y1
  replace h0 := cell_stays hb h0
  replace h1 := cell_stays hb h1
  have HV := Lib.hid (hv.below hb)
  have HC := Lib.hid (hc.below hb)
  have HB := Lib.hid hb
  have HSZ := Lib.hid (show ((w.alloc (.cells #[.bool sx, .slice ax nx cx] 49)).alloc (.cells #[.bool false, .slice none 0 0] 49)).heap.size = w.heap.size + 2 by simp)
  clear hv hc hb1 hb2 hb hs1
  go_enter Try.func117, Try.ntmps117
  go_upto_region 1 with fail
  generalize (w.alloc (.cells #[.bool sx, .slice ax nx cx] 49)).alloc (.cells #[.bool false, .slice none 0 0] 49) = W at *
  go_wp2_with fail
  refine (zMul_any _ _ sc z W HC.out HV.out).mono ?_
  rintro e w3 ⟨u, rfl, hf, hb3⟩
  obtain ⟨aq, nq, cq, rfl, -⟩ := hf.agg
  have v0 := froz_stays hb3 x0 q0
  have v1 := froz_stays hb3 x1 q1
  replace x0 := cell_stays hb3 x0
  replace x1 := cell_stays hb3 x1
  have hg := stored2_gb w3 (w.heap.size + 1) (.bool (decide (sc * z < 0))) (.slice aq nq cq)
  have hbw := HB.out.trans (hb3.mono HB.out.size)
  have HBL := Lib.hid (hbw.grown hg hbw.size (fun k hk => by injection hk with hk; omega))
  have HST := Lib.hid ((hf.far hg (by have := HSZ.out; omega)).mono HB.out.size)
  generalize hzt : sc * z = zt at *
  have HZT := Lib.hid hzt
  clear hf hb3 hg hbw hzt q0 q1 h0 h1 y0 y1 HV HC
  go_wp2_with fail
  refine bodyPost_ret (v := .agg #[.bool (decide (zt < 0)), .slice aq nq cq]) ?_ rfl ⟨_, rfl, by rw [HZT.out]; exact HST.out, HBL.out⟩
  simp [results, Try.results117, go_sem, x0, x1]
theorem Scale_good (n S X : Nat) (xv sl : Value) (sc : Int) (A : Nat → Int) (w : World) (hn : n ≤ 64) (hSX : S + X ≤ 274877906944) (hv : RdZ w xv sc) (hX : ZB X sc) (hr : RdE w sl (n * n) A) (hA : ∀ q, q < n * n → ZB S (A q)) :
    Calls Try.prog 51 #[xv, .agg #[.int .i64 n, .int .i64 n, sl]] w fun e w' => ∃ lb, e = .returned (.tuple #[.agg #[.int .i64 n, .int .i64 n, .slice (some ⟨lb, 0, none⟩) (n * n) (n * n)], .int .i64 0]) ∧
      FrE w' w.heap.size (fun b => b ≤ lb) lb (n * n) (fun q => sc * A q) ∧ Below w.heap.size w w' := by
  have hmix : Try.prog.follows .mixedOrders = true := by kernel_rfl
  have hK4 : n * n ≤ 4096 := Nat.mul_le_mul hn hn
  obtain ⟨a, cap, rfl, hcap⟩ := hr.slice
  obtain ⟨sx, ax, nx, cx, fx, rfl, -⟩ := hv.parts
  obtain ⟨N, hN⟩ : ∃ N, N = n * n := ⟨_, rfl⟩
  obtain ⟨W1, hW1⟩ : ∃ W1, W1 = w.alloc (.cells #[.bool sx, .slice ax nx cx] 49) := ⟨_, rfl⟩
  have hb1 : Below w.heap.size w W1 := by rw [hW1]; exact bl_alloc _ _
  have hs1 : W1.heap.size = w.heap.size + 1 := by rw [hW1]; simp
  obtain ⟨c0, c1, -, -⟩ := two_cells w (.bool sx) (.slice ax nx cx) 49
  rw [← hW1] at c0 c1
  have hb2 := two_mats W1 (.int .i64 n) (.int .i64 n) (.slice a N cap) (.int .i64 0) (.int .i64 0) (.slice none 0 0)
  obtain ⟨hbx, hbr, hs2⟩ := two_mbox W1 n n 0 0 (.slice a N cap) (.slice none 0 0)
  rw [hs1] at hbx hbr hs2
  have hb := below_via hb1 hb2
  replace c0 := cell_stays hb2 c0
  replace c1 := cell_stays hb2 c1
  have hck := fun (u : World) => Check_any n n a N cap (by omega) u
  rw [checkE_ok hn hn hN] at hck
  have hea := fun (u : World) (hu : Below w.heap.size w u) (h0 : u.cell? ⟨w.heap.size, 0, none⟩ = some (.bool sx)) (h1 : u.cell? ⟨w.heap.size, 1, none⟩ = some (.slice ax nx cx)) =>
    each_scale a (n * n) cap (S + X) A sc (.pointer (some ⟨w.heap.size, 0, none⟩)) u (hr.below hu) hSX (fun q hq => by rw [Int.mul_comm]; exact (hA q hq).mul hX)
      (fun W v z hW hv' => scale1_any w.heap.size sx ax nx cx sc v z W (cell_stays hW h0) (cell_stays hW h1) ((hv.below hu).below hW) hv')
  simp only [← hN] at hea
  have hmf : ∀ (fn : Fn) (first cap : Array Value) (w : World), (Instr.makeFunc fn first cap).run Try.prog w = .ok (.func fn first cap) w := fun fn first cap w => by rfl
  have HCK := Lib.hid hck
  have HEA := Lib.hid hea
  have HB := Lib.hid hb
  have HBX := Lib.hid hbx
  have HBR := Lib.hid hbr
  have HS2 := Lib.hid hs2
  rw [← hN]
  clear hv hX hr hA hck hea hb hb1 hb2 hbx hbr hs1 hs2 hN hSX
  go_enter Try.func51, Try.ntmps51
  go_upto_region 1 with fail
  rw [← hW1]
  clear hW1
  generalize (W1.alloc (.cells #[.int .i64 n, .int .i64 n, .slice a N cap] 24)).alloc (.cells #[.int .i64 0, .int .i64 0, .slice none 0 0] 24) = W at *
  have x0 := HBX.out.m0
  have x1 := HBX.out.m1
  have x2 := HBX.out.m2
  go_wp2_with fail
  (refine (HCK.out W).mono ?_)
  rintro e w3 ⟨rfl, hb3⟩
  replace HB := Lib.hid (below_via HB.out hb3)
  replace HBX := Lib.hid (HBX.out.below hb3)
  replace HBR := Lib.hid (HBR.out.below hb3)
  replace c0 := cell_stays hb3 c0
  replace c1 := cell_stays hb3 c1
  have HS3 := Lib.hid (show w.heap.size + 1 + 1 < w3.heap.size by have := HS2.out; have := hb3.size; omega)
  clear hb3 HCK HS2 x0 x1 x2
  have x0 := HBX.out.m0
  have x1 := HBX.out.m1
  have x2 := HBX.out.m2
  go_upto_region 4 with fail
  refine region_early (fun u => u.cell? ⟨w.heap.size + 1, 0, none⟩ = some (.int .i64 n) ∧ u.cell? ⟨w.heap.size + 1, 1, none⟩ = some (.int .i64 n) ∧ u.cell? ⟨w.heap.size + 1, 2, none⟩ = some (.slice a N cap)) 9 [0, 1, 2, 3, 4, 5, 6] 4 hmix (by kernel_rfl) rfl (by kernel_rfl) (fun _ _ d _ _ h => by cases d <;> exact h) ⟨x0, x1, x2⟩ ?_
  iterate 7 (refine early_take rfl (by rfl) ?_; apply Exists.intro; refine ⟨fun u hu => ?_, ?_⟩; (obtain ⟨u_1, u_2, u_3⟩ := hu; go_simp; rfl); simp only [Act.put, List.getElem_toArray, List.getElem_cons_zero, List.getElem_cons_succ, List.setIfInBounds_toArray, List.set_cons_zero, List.set_cons_succ])
  refine early_done ?_
  simp only [marked]
  refine anyL_one (i := 7) (by kernel_rfl) rfl (by rfl) fun J hJ => ?_
  go_simp
  refine (HEA.out w3.drew (below_via HB.out (bl_drew w3)) c0 c1).mono ?_
  rintro e w4 ⟨lb, rfl, hf, hb4⟩
  have hb4' := below_via (bl_drew w3) hb4
  have hS4 := And.intro (cell_stays hb4' x0) (And.intro (cell_stays hb4' x1) (cell_stays hb4' x2))
  have hr4 := HBR.out.below hb4'
  have y0 := hr4.m0
  have y1 := hr4.m1
  have y2 := hr4.m2
  have v0 := hr4.f0
  have v1 := hr4.f1
  have v2 := hr4.f2
  have hlb : w3.heap.size ≤ lb := hf.own
  have hbw := below_via HB.out hb4'
  have hg := stored3_gb w4 (w.heap.size + 1 + 1) (.int .i64 n) (.int .i64 n) (.slice (some ⟨lb, 0, none⟩) N N)
  have HBL := Lib.hid (hbw.grown hg hbw.size (fun k hk => by injection hk with hk; omega))
  have HF := Lib.hid ((hf.mono (show w.heap.size ≤ w3.heap.size from HB.out.size)).grown hg (by have := HS3.out; omega) (show w.heap.size + 1 + 1 ≤ lb by have := HS3.out; omega))
  refine hJ _ _ (fun _ => hS4) ?_
  clear hJ J hf hb4 hb4' hr4 hlb hbw hg HEA HBX HBR x0 x1 x2 c0 c1
  refine anyL_yield (i := 8) rfl (by kernel_rfl) (by kernel_rfl) (by kernel_rfl) (by kernel_rfl) (fun _ _ d _ _ h => by cases d <;> exact h) (by rfl) hS4 ?_
  apply Exists.intro
  refine ⟨fun u => ?_, ?_⟩
  · go_simp
    rfl
  simp only [Act.put, List.getElem_toArray, List.getElem_cons_zero, List.getElem_cons_succ, List.setIfInBounds_toArray, List.set_cons_zero, List.set_cons_succ]
  refine anyL_one (i := 9) (by kernel_rfl) rfl (by rfl) fun J hJ => ?_
  go_simp
  refine hJ _ _ (fun e => absurd e (by decide)) ?_
  clear hJ J
  refine anyL_one (i := 10) (by kernel_rfl) rfl (by rfl) fun J hJ => ?_
  go_simp
  refine hJ _ _ (fun e => absurd e (by decide)) ?_
  clear hJ J
  refine anyL_done (by kernel_rfl) ?_ _
  clear hS4
  go_wp2_with fail
  refine bodyPost_ret (v := .tuple #[.agg #[.int .i64 n, .int .i64 n, .slice (some ⟨lb, 0, none⟩) N N], .int .i64 0]) ?_ rfl ⟨lb, rfl, HF.out, HBL.out⟩
  simp [results, Try.results51, go_sem, y0, y1, y2]
end Go.Proofs.Ytejliecmdkmgiaa
namespace Go.Proofs.Ytejliecmdkmgiaa
open laZ
def newt (n : Nat) (A : Nat → Nat → Int) (i j : Nat) : Int := (if i ≤ n then (i : Int) * flq n A i else 0) + sm j (fun l => if i ≤ n + (l + 1) then trP n A l * flq n A (i - (l + 1)) else 0)
theorem newt_step (n : Nat) (A : Nat → Nat → Int) (i j : Nat) : newt n A i (j + 1) = newt n A i j + (if i ≤ n + (j + 1) then trP n A j * flq n A (i - (j + 1)) else 0) := by
  unfold newt
  rw [sm_last]
  exact (Int.add_assoc _ _ _).symm
theorem newt_zero (n : Nat) (A : Nat → Nat → Int) (k : Nat) : newt n A (k + 1) (k + 1) = 0 := by
  have h := flq_tr n A k
  rw [sm_rev] at h
  have h1 : (if k + 1 ≤ n then ((k + 1 : Nat) : Int) * flq n A (k + 1) else 0) = ((k + 1 : Nat) : Int) * flq n A (k + 1) := by
    by_cases e : k + 1 ≤ n
    · rw [if_pos e]
    · rw [if_neg e, flq_zero A (by omega)]; exact (Int.mul_zero _).symm
  have h2 : sm (k + 1) (fun l => if k + 1 ≤ n + (l + 1) then trP n A l * flq n A (k + 1 - (l + 1)) else 0) = sm (k + 1) (fun l => flq n A (k - l) * trc n (pw n A (k + 1 - (k - l)))) := sm_congr fun l hl => by
    have e1 : k + 1 - (l + 1) = k - l := by omega
    have e2 : k + 1 - (k - l) = l + 1 := by omega
    rw [e1, e2]
    by_cases e : k + 1 ≤ n + (l + 1)
    · rw [if_pos e]; exact Int.mul_comm _ _
    · rw [if_neg e, flq_zero A (show n < k - l by omega)]; exact (Int.zero_mul _).symm
  unfold newt
  rw [h1, h, h2]
  exact Int.add_left_neg _
theorem newt_zb {n P T : Nat} {A : Nat → Nat → Int} (hf : ∀ i, ZB P (flq n A i)) (ht : ∀ l, l < 256 → ZB T (trP n A l)) {i : Nat} (hi : i ≤ 256) : ∀ j, j ≤ i → ZB (T + P + 2 + j) (newt n A i j)
  | 0, _ => by
    unfold newt
    show ZB _ (_ + 0)
    rw [Int.add_zero]
    split
    · exact ((show ZB 1 (i : Int) by unfold ZB; rw [Int.pow_succ, Int.pow_zero]; omega).mul (hf i)).mono (by omega)
    · exact zb_nil _
  | j + 1, hj => by
    rw [newt_step]
    refine (zb_max (newt_zb hf ht hi j (by omega)) (T := T + P) (y := if i ≤ n + (j + 1) then trP n A j * flq n A (i - (j + 1)) else 0) ?_ (Nat.le_refl _) (by omega)).mono (by omega)
    split
    · exact (ht j (by omega)).mul (hf _)
    · exact zb_nil _
end Go.Proofs.Ytejliecmdkmgiaa
namespace Go.Proofs.Ytejliecmdkmgiaa
open Go.RowKit Go.Shelf
theorem MBox.laid {w w1 : World} {mb base lb n N : Nat} {r c : Int} {v : Value} {E : Nat → Int} (h : MBox w mb r c v) (hb : Below w.heap.size w w1) (hf : FrE w1 base (fun b => b ≤ lb) lb N E) (hbase : w.heap.size ≤ base) (hN : N ≤ 1048576) (r' c' : Int) :
    MBox (stored3 w1 mb (.int .i64 r') (.int .i64 c') (.slice (some ⟨lb, 0, none⟩) N N)) mb r' c' (.slice (some ⟨lb, 0, none⟩) N N) ∧
    RdE (stored3 w1 mb (.int .i64 r') (.int .i64 c') (.slice (some ⟨lb, 0, none⟩) N N)) (.slice (some ⟨lb, 0, none⟩) N N) N E ∧
    w1.grownBy (stored3 w1 mb (.int .i64 r') (.int .i64 c') (.slice (some ⟨lb, 0, none⟩) N N)) (some mb) := by
  have hg := stored3_gb w1 mb (.int .i64 r') (.int .i64 c') (.slice (some ⟨lb, 0, none⟩) N N)
  have hl := hf.own
  have hm : mb < w.heap.size := World.block_lt_of_cell? w _ h.m0
  exact ⟨(h.below hb).store, (hf.grown hg (by omega) (show mb ≤ lb by omega)).rd (Nat.le_refl _) hN, hg⟩
theorem val_det {n : Nat} (A : Nat → Int) (x : Int) : laZ.dt n (fun i j => subE (fun q => x * unitE (q / n) (q % n)) A (i * n + j)) = hvl (chE n A) x (n + 1) (n + 1) := by
  rw [hvl_all]
  have h := chv_det n (mtx n A) x
  rw [show chv n (mtx n A) x = laZ.sm (n + 1) (fun i => chE n A i * x ^ i) from rfl] at h
  rw [← h]
  refine laZ.dt_congr fun i j _ hj => ?_
  obtain ⟨h1, h2⟩ := idx_dm (i := i) hj
  show x * unitE ((i * n + j) / n) ((i * n + j) % n) - A (i * n + j) = x * laZ.idm i j - A (i * n + j)
  rw [h1, h2]
  unfold unitE laZ.idm
  by_cases e : i = j
  · rw [if_pos e, if_pos e.symm]
  · rw [if_neg e, if_neg (fun h => e h.symm)]
theorem valueIsDet_yes (n S X : Nat) (sl xv : Value) (A : Nat → Int) (x : Int) (w : World) (hn : n ≤ 64) (hS : S ≤ 2000000) (hX : X ≤ 2000000) (hr : RdE w sl (n * n) A) (hA : ∀ q, q < n * n → ZB S (A q)) (hv : RdZ w xv x) (hx : ZB X x) :
    Calls Try.prog 31 #[.agg #[.int .i64 n, .int .i64 n, sl], xv] w fun e w' => e = .returned (.bool true) ∧ Below w.heap.size w w' := by
  have hmix : Try.prog.follows .mixedOrders = true := by kernel_rfl
  have hK4 : n * n ≤ 4096 := Nat.mul_le_mul hn hn
  obtain ⟨a, cap, rfl, hcap⟩ := hr.slice
  obtain ⟨sx, ax, nx, cx, fx, rfl, -⟩ := hv.parts
  have hch := fun (u : World) (hu : Below w.heap.size w u) => Char_good n S _ A u hn (by omega) (hr.below hu) hA
  have hcz := fun j hj => chE_zb hn hA j hj
  have hzz := hvl_zb (n := n + 1) hcz hx (n + 1) (Nat.le_refl _)
  have hsb := fun (sl' : Value) (B : Nat → Int) (u : World) (hu : Below w.heap.size w u) (h1 : RdE u sl' (n * n) B) (h2 : ∀ q, q < n * n → ZB (X + 1) (B q)) => Sub_good n n (X + 1) S sl' _ B A u hn hn (by omega) h1 (hr.below hu) h2 hA
  obtain ⟨N, hN⟩ : ∃ N, N = n * n := ⟨_, rfl⟩
  have hb1 := bl_alloc w (.cells #[.int .i64 n, .int .i64 n, .slice a N cap] 24)
  have hs1 : (w.alloc (.cells #[.int .i64 n, .int .i64 n, .slice a N cap] 24)).heap.size = w.heap.size + 1 := by simp
  have hb2 := bl_alloc (w.alloc (.cells #[.int .i64 n, .int .i64 n, .slice a N cap] 24)) (.cells #[.bool sx, .slice ax nx cx] 49)
  have hbx := (MBox.new w n n (.slice a N cap)).below hb2
  obtain ⟨c0, c1, -, -⟩ := two_cells (w.alloc (.cells #[.int .i64 n, .int .i64 n, .slice a N cap] 24)) (.bool sx) (.slice ax nx cx) 49
  rw [hs1] at c0 c1
  have hb := below_via hb1 hb2
  rw [← hN] at hK4
  simp only [← hN] at hch hsb ⊢
  have HV0 := Lib.hid hv
  have HX := Lib.hid (hv.below hb)
  have HB := Lib.hid hb
  have HM := Lib.hid hbx
  have HR := Lib.hid hr
  have HA := Lib.hid hA
  have HXZ := Lib.hid hx
  have HCH := Lib.hid hch
  have HCZ := Lib.hid hcz
  have HZZ := Lib.hid hzz
  have HSB := Lib.hid hsb
  have HN := Lib.hid hN
  have x0 := hbx.m0
  have x1 := hbx.m1
  have x2 := hbx.m2
  clear hr hA hv hx hch hcz hzz hsb hb1 hs1 hb2 hbx hb hN
  go_enter Try.func31, Try.ntmps31
  go_upto_region 1 with fail
  generalize (w.alloc (.cells #[.int .i64 n, .int .i64 n, .slice a N cap] 24)).alloc (.cells #[.bool sx, .slice ax nx cx] 49) = W at *
  go_wp2_with fail
  (refine (Unit_good n W hn).mono ?_)
  rintro e w1 ⟨lu, rfl, hf1, hb1⟩
  have hba := bl_alloc w1 (.cells #[.int .i64 n, .int .i64 n, .slice (some ⟨lu, 0, none⟩) (n * n) (n * n)] 24)
  have hb2 := below_via hb1 hba
  have HU := Lib.hid (MBox.new w1 n n (.slice (some ⟨lu, 0, none⟩) (n * n) (n * n)))
  have RU := Lib.hid ((hf1.rd (Nat.le_refl _) (by have := HN.out; omega)).below hba)
  have hub : w.heap.size + 1 < w1.heap.size := by
    have h1 := World.block_lt_of_cell? W _ c0
    have h2 := hb1.size
    exact Nat.lt_of_lt_of_le h1 h2
  replace HX := Lib.hid (HX.out.below hb2)
  replace HB := Lib.hid (below_via HB.out hb2)
  replace HM := Lib.hid (HM.out.below hb2)
  replace c0 := cell_stays hb2 c0
  replace c1 := cell_stays hb2 c1
  clear hf1 hb1 hba hb2 x0 x1 x2
  go_upto_region 2 with fail
  obtain ⟨ub, hubb⟩ : ∃ ub, ub = w1.heap.size := ⟨_, rfl⟩
  rw [← hubb] at HU hub ⊢
  clear hubb
  generalize w1.alloc (.cells #[.int .i64 n, .int .i64 n, .slice (some ⟨lu, 0, none⟩) (n * n) (n * n)] 24) = w2 at *
  have m0 := HU.out.m0
  have m1 := HU.out.m1
  have m2 := HU.out.m2
  have HSC := Lib.hid (Scale_good n 1 X _ _ x _ w2 hn (by omega) HX.out HXZ.out RU.out (fun q _ => by unfold unitE; split; exact zb_ones; exact zb_nil 1))
  go_wp2_with fail
  (refine HSC.out.mono ?_)
  rintro e w3 ⟨l3, rfl, hf3, hb3⟩
  obtain ⟨hm3, hr3, hg3⟩ := HU.out.laid (n := n) hb3 hf3 (Nat.le_refl _) (by have := HN.out; omega) n n
  have hm := HU.out.below hb3
  have m0 := hm.m0
  have m1 := hm.m1
  have m2 := hm.m2
  have f0 := hm.f0
  have f1 := hm.f1
  have f2 := hm.f2
  obtain ⟨wa, hwa⟩ : ∃ wa, wa = ((w3.setCell ⟨ub, 0, none⟩ (.int .i64 n)).setCell ⟨ub, 1, none⟩ (.int .i64 n)).setCell ⟨ub, 2, none⟩ (.slice (some ⟨l3, 0, none⟩) (n * n) (n * n)) := ⟨_, rfl⟩
  replace hg3 : w3.grownBy wa (some ub) := by rw [hwa]; exact hg3
  replace HU := Lib.hid (show MBox wa ub n n (.slice (some ⟨l3, 0, none⟩) (n * n) (n * n)) by rw [hwa]; exact hm3)
  replace RU := Lib.hid (show RdE wa (.slice (some ⟨l3, 0, none⟩) (n * n) (n * n)) (n * n) (fun q => x * unitE (q / n) (q % n)) by rw [hwa]; exact hr3)
  have hbb := below_via HB.out hb3
  replace HB := Lib.hid (hbb.grown hg3 hbb.size (fun k hk => by injection hk with hk; omega))
  replace HM := Lib.hid ((HM.out.below hb3).grown hg3 (by omega))
  replace c0 := hg3.cell (cell_stays hb3 c0) (fun e => by have e2 : w.heap.size + 1 = ub := Option.some.inj e; omega)
  replace c1 := hg3.cell (cell_stays hb3 c1) (fun e => by have e2 : w.heap.size + 1 = ub := Option.some.inj e; omega)
  replace HX := Lib.hid (HV0.out.below HB.out)
  clear hf3 hb3 hm3 hr3 hg3 hm hbb
  go_upto_region 3 with fail
  rw [← hwa]
  clear hwa m0 m1 m2 f0 f1 f2
  clear HSC
  have x0 := HM.out.m0
  have x1 := HM.out.m1
  have x2 := HM.out.m2
  have m0 := HU.out.m0
  have m1 := HU.out.m1
  have m2 := HU.out.m2
  have hzu : ∀ q, q < n * n → ZB (X + 1) (x * unitE (q / n) (q % n)) := fun q _ => HXZ.out.mul (by unfold unitE; split; exact zb_ones; exact zb_nil 1)
  have HSU := Lib.hid (Sub_good n n (X + 1) S _ _ (fun q => x * unitE (q / n) (q % n)) A wa hn hn (by omega) RU.out (HR.out.below HB.out) hzu HA.out)
  have HZU := Lib.hid hzu
  clear hzu
  rw [← HN.out] at HSU m2
  go_wp2_with fail
  (refine HSU.out.mono ?_)
  rintro e w5 ⟨l5, rfl, hf3, hb3⟩
  obtain ⟨hm3, hr3, hg3⟩ := HU.out.laid (n := n) hb3 hf3 (Nat.le_refl _) (by omega) n n
  have hm := HU.out.below hb3
  have m0 := hm.m0
  have m1 := hm.m1
  have m2 := hm.m2
  have f0 := hm.f0
  have f1 := hm.f1
  have f2 := hm.f2
  obtain ⟨wb, hwa⟩ : ∃ wa, wa = ((w5.setCell ⟨ub, 0, none⟩ (.int .i64 n)).setCell ⟨ub, 1, none⟩ (.int .i64 n)).setCell ⟨ub, 2, none⟩ (.slice (some ⟨l5, 0, none⟩) N N) := ⟨_, rfl⟩
  replace hg3 : w5.grownBy wb (some ub) := by rw [hwa]; exact hg3
  replace HU := Lib.hid (show MBox wb ub n n (.slice (some ⟨l5, 0, none⟩) N N) by rw [hwa]; exact hm3)
  replace RU := Lib.hid (show RdE wb (.slice (some ⟨l5, 0, none⟩) N N) N (subE (fun q => x * unitE (q / n) (q % n)) A) by rw [hwa]; exact hr3)
  have hbb := below_via HB.out hb3
  replace HB := Lib.hid (hbb.grown hg3 hbb.size (fun k hk => by injection hk with hk; omega))
  replace HM := Lib.hid ((HM.out.below hb3).grown hg3 (by omega))
  replace c0 := hg3.cell (cell_stays hb3 c0) (fun e => by have e2 : w.heap.size + 1 = ub := Option.some.inj e; omega)
  replace c1 := hg3.cell (cell_stays hb3 c1) (fun e => by have e2 : w.heap.size + 1 = ub := Option.some.inj e; omega)
  replace HX := Lib.hid (HV0.out.below HB.out)
  clear hf3 hb3 hm3 hr3 hg3 hm hbb
  go_upto_region 4 with fail
  rw [← hwa]
  clear hwa m0 m1 m2 f0 f1 f2
  clear HSU x0 x1 x2
  have m0 := HU.out.m0
  have m1 := HU.out.m1
  have m2 := HU.out.m2
  have hdt := Det_good n (X + 1 + S + 1) _ (subE (fun q => x * unitE (q / n) (q % n)) A) wb hn (by omega) (by rw [← HN.out]; exact RU.out) (fun q hq => (HZU.out q hq).sub (HA.out q hq))
  rw [val_det] at hdt
  obtain ⟨z, hz⟩ : ∃ z, z = hvl (chE n A) x (n + 1) (n + 1) := ⟨_, rfl⟩
  rw [← hz] at hdt HZZ
  have HDT := Lib.hid hdt
  have HZ := Lib.hid hz
  clear hdt hz
  go_wp2_with fail
  (refine HDT.out.mono ?_)
  rintro e w6 ⟨v, rfl, hf6, hb6⟩
  have hrd := hf6.rd HZZ.out (by
    have := Nat.mul_le_mul_right (X + 1) (show n + 1 ≤ 65 by omega)
    omega)
  obtain ⟨a6, n6, p6, rfl, -⟩ := hf6.agg
  have hba := bl_alloc w6 (.cells #[.bool (decide (z < 0)), .slice a6 n6 p6] 49)
  obtain ⟨d0, d1, -, -⟩ := two_cells w6 (.bool (decide (z < 0))) (.slice a6 n6 p6) 49
  have hb7 := below_via hb6 hba
  have HD := Lib.hid (hrd.below hba)
  replace HB := Lib.hid (below_via HB.out hb7)
  replace HM := Lib.hid (HM.out.below hb7)
  replace c0 := cell_stays hb7 c0
  replace c1 := cell_stays hb7 c1
  clear hf6 hrd hb6 hba hb7 HDT HU RU m0 m1 m2
  go_upto_region 5 with fail
  obtain ⟨db, hdb⟩ : ∃ db, db = w6.heap.size := ⟨_, rfl⟩
  rw [← hdb] at d0 d1 ⊢
  clear hdb
  generalize w6.alloc (.cells #[.bool (decide (z < 0)), .slice a6 n6 p6] 49) = w7 at *
  have x0 := HM.out.m0
  have x1 := HM.out.m1
  have x2 := HM.out.m2
  have HC := Lib.hid (HCH.out w7 HB.out)
  go_wp2_with fail
  (refine HC.out.mono ?_)
  rintro e w8 ⟨lp, rfl, hf8, hb8⟩
  have LP := Lib.hid (show LeE _ _ _ (chE n A) from hf8.lee (Nat.le_refl _) (Nat.le_refl _) (by omega))
  replace HB := Lib.hid (below_via HB.out hb8)
  replace HD := Lib.hid (HD.out.below hb8)
  replace HX := Lib.hid (HV0.out.below HB.out)
  replace c0 := cell_stays hb8 c0
  replace c1 := cell_stays hb8 c1
  replace d0 := cell_stays hb8 d0
  replace d1 := cell_stays hb8 d1
  clear hf8 hb8 HC HCH x0 x1 x2
  go_upto_region 6 with fail
  refine region_early (fun u => u.cell? ⟨w.heap.size + 1, 0, none⟩ = some (.bool sx) ∧ u.cell? ⟨w.heap.size + 1, 1, none⟩ = some (.slice ax nx cx) ∧ u.cell? ⟨db, 0, none⟩ = some (.bool (decide (z < 0))) ∧ u.cell? ⟨db, 1, none⟩ = some (.slice a6 n6 p6)) 10 [0, 1, 2, 3, 4, 6] 5 hmix (by kernel_rfl) rfl (by kernel_rfl) (fun _ _ d _ _ h => by cases d <;> exact h) ⟨c0, c1, d0, d1⟩ ?_
  iterate 6 (refine early_take rfl (by rfl) ?_; apply Exists.intro; refine ⟨fun u hu => ?_, ?_⟩; (obtain ⟨u_1, u_2, u_3, u_4⟩ := hu; go_simp; rfl); simp only [Act.put, List.getElem_toArray, List.getElem_cons_zero, List.getElem_cons_succ, List.setIfInBounds_toArray, List.set_cons_zero, List.set_cons_succ])
  refine early_done ?_
  simp only [marked]
  have hvv := Value_any _ _ (n + 1) (64 * (S + 1) + 1) X (chE n A) x w8.drew (LP.out.rd.below (bl_drew _)) (HX.out.below (bl_drew _)) HCZ.out HXZ.out (by
    have := Nat.mul_le_mul_right (X + 1) (show n + 1 + 1 ≤ 66 by omega)
    omega)
  rw [← HZ.out] at hvv
  have HVV := Lib.hid hvv
  clear hvv
  refine anyL_one (i := 5) (by kernel_rfl) rfl (by rfl) fun J hJ => ?_
  go_simp
  refine HVV.out.mono ?_
  rintro e w9 ⟨v9, rfl, hf9, hb9⟩
  have hb9' := below_via (bl_drew w8) hb9
  have hz9 := hf9.rd HZZ.out (by
    have := Nat.mul_le_mul_right (X + 1) (show n + 1 ≤ 65 by omega)
    omega)
  have HCM := Lib.hid (zCmp_eq _ _ z w9 hz9 (HD.out.below hb9'))
  replace HB := Lib.hid (below_via HB.out hb9')
  have hS9 := And.intro (cell_stays hb9' c0) (And.intro (cell_stays hb9' c1) (And.intro (cell_stays hb9' d0) (cell_stays hb9' d1)))
  refine hJ _ _ (fun _ => hS9) ?_
  clear hJ J hf9 hb9 hb9' hz9 HVV HD HX LP c0 c1 d0 d1
  refine anyL_one (i := 7) (by kernel_rfl) rfl (by rfl) fun J hJ => ?_
  go_simp
  refine HCM.out.mono ?_
  rintro e w10 ⟨rfl, hb10⟩
  replace HB := Lib.hid (below_via HB.out hb10)
  obtain ⟨g1, g2, g3, g4⟩ := hS9
  have hS10 := And.intro (cell_stays hb10 g1) (And.intro (cell_stays hb10 g2) (And.intro (cell_stays hb10 g3) (cell_stays hb10 g4)))
  refine hJ _ _ (fun _ => hS10) ?_
  clear hJ J hb10 HCM g1 g2 g3 g4
  refine anyL_yield (i := 8) rfl (by kernel_rfl) (by kernel_rfl) (by kernel_rfl) (by kernel_rfl) (fun _ _ d _ _ h => by cases d <;> exact h) (by rfl) hS10 ?_
  apply Exists.intro
  refine ⟨fun u => ?_, ?_⟩
  · go_simp
    rfl
  simp only [Act.put, List.getElem_toArray, List.getElem_cons_zero, List.getElem_cons_succ, List.setIfInBounds_toArray, List.set_cons_zero, List.set_cons_succ]
  refine anyL_yield (i := 9) rfl (by kernel_rfl) (by kernel_rfl) (by kernel_rfl) (by kernel_rfl) (fun _ _ d _ _ h => by cases d <;> exact h) (by rfl) hS10 ?_
  apply Exists.intro
  refine ⟨fun u => ?_, ?_⟩
  · go_simp
    rfl
  simp only [Act.put, List.getElem_toArray, List.getElem_cons_zero, List.getElem_cons_succ, List.setIfInBounds_toArray, List.set_cons_zero, List.set_cons_succ]
  refine anyL_one (i := 10) (by kernel_rfl) rfl (by rfl) fun J hJ => ?_
  go_simp
  refine hJ _ _ (fun e => absurd e (by decide)) ?_
  clear hJ J
  refine anyL_done (by kernel_rfl) ?_ _
  go_wp2_with fail
  go_ret
  exact ⟨rfl, HB.out⟩
end Go.Proofs.Ytejliecmdkmgiaa
namespace Go.Proofs.Ytejliecmdkmgiaa
open Go.RowKit Go.ChangeShapes Go.WideShapes Go.Deep Go.Joins
section
variable {H : Type} {enc : TypeId × Value → H} {w : World} {base : Nat} {spare : Nat → Bool} {held : Bool}
end
end Go.Proofs.Ytejliecmdkmgiaa
