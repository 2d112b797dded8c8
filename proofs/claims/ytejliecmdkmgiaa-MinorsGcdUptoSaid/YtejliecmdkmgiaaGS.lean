import Derived.Test.YtejliecmdkmgiaaGR
import Derived.Test.YtejliecmdkmgiaaGH
import Derived.Deep.LoopGhost
import Derived.Laws.IdiomCopy
set_option linter.unusedVariables false
set_option linter.unusedSimpArgs false
set_option maxHeartbeats 8000000
set_option maxRecDepth 100000
namespace Go.Proofs.Ytejliecmdkmgiaa
open Go.RowKit Go.Shelf
end Go.Proofs.Ytejliecmdkmgiaa
namespace Go.Proofs.Ytejliecmdkmgiaa
open Go.RowKit
theorem anyL_read {P : Program} {Q : Exit → Act → World → Prop} {md : Region.Mode} {ops : Array Oper} {S : World → Prop} {f i : Nat} {oi : Oper} {fuel : Nat} {listed : Array Bool} {a : Act} {w : World} (hi : ops[i]? = some oi)
    (hs : Region.noSelect ops = true) (hfr : Region.free md ops listed i = true) (hr : (Region.ready md ops listed).contains i = true) (hf : (waitsB md ops f i && tailOff f listed && decide (i < f)) = true)
    (hQ : ∀ c (a : Act) (d : Option Tmp) (v : Value) w, Q (.panic c) (a.put d v) w → Q (.panic c) a w) (hw : Region.wanted oi (yielded ops a.tmps) = true) (hS : S w)
    (h : ∃ v, (∀ w, S w → (execOp a.eval oi).run P w = .ok (.value v) w) ∧ wpAnyL P md ops Q S f fuel (listed.setIfInBounds i true) (a.put oi.dst v) w) : wpAnyL P md ops Q S f (fuel + 1) listed a w :=
  h.elim fun v h => anyL_take (v := v) hi hs hfr hr (by simpa using hf) (fun c a w => hQ c a _ _ w) (Or.inl ⟨hw, h.1⟩) hS h.2
end Go.Proofs.Ytejliecmdkmgiaa
namespace Go.Proofs.Ytejliecmdkmgiaa
open Go.RowKit Go.Shelf
end Go.Proofs.Ytejliecmdkmgiaa
namespace Go.Proofs.Ytejliecmdkmgiaa
open Go.RowKit Go.Shelf
theorem gcd_turn (x y : Nat) : Nat.gcd y (x % y) = Nat.gcd x y := by
  rw [Nat.gcd_comm y, ← Nat.gcd_rec, Nat.gcd_comm]
theorem words_any (x y : Nat) (hx : x < 18446744073709551616) (hy : y < 18446744073709551616) (h0 : 0 < Nat.gcd x y) (w : World) :
    Calls Try.prog 186 #[.int .u64 x, .int .u64 y] w fun e w' => ∃ v, e = .returned v ∧ FrN w' w.heap.size v (Nat.gcd x y : Nat) ∧ Below w.heap.size w w' := by
  obtain ⟨G, hG⟩ : ∃ G, G = Nat.gcd x y := ⟨_, rfl⟩
  rw [← hG] at h0 ⊢
  go_enter Try.func186, Try.ntmps186
  go_upto_region 1 with fail
  go_loopw [0, 1] (fun v0 v1 wr => ∃ a b : Nat, a < 18446744073709551616 ∧ b < 18446744073709551616 ∧ v0 = .int .u64 a ∧ v1 = .int .u64 b ∧ Nat.gcd a b = G ∧ wr.heap = w.heap ∧ Below w.heap.size w wr) (fun _ v1 _ => (intOf v1).toNat)
  case atStart => exact ⟨x, y, hx, hy, rfl, rfl, hG.symm, rfl, Below.refl _ _⟩
  case round =>
    obtain ⟨a, b, ha, hb, rfl, rfl, hg, hh, hbl⟩ := hrel
    by_cases h : b = 0
    · subst h
      rw [Nat.gcd_zero_right] at hg
      subst hg
      have hfr : FrN (wr.alloc (.cells #[.int .u64 a] 62)) w.heap.size (.slice (some ⟨w.heap.size, 0, none⟩) 1 1) (a : Nat) := by
        have hn := heap_alloc_new wr (.cells #[.int .u64 (a : Int)] 62)
        rw [hh] at hn
        refine ⟨1, fun _ => (a : Int), Or.inr ⟨w.heap.size, 1, rfl, Nat.le_refl _, by omega, Nat.le_refl _, ⟨_, hn, rfl⟩, fun i hi => ?_⟩, ⟨fun i hi => by omega, fun h => by omega, ?_⟩⟩
        · obtain rfl : i = 0 := by omega
          refine ⟨by rw [cell_of_row _ _ _ _ _ _ hn]; rfl, ?_⟩
          unfold World.frozen?
          simp only [hn]; simp
        · simp [dv]
      have HFR := Lib.hid hfr
      have HBL := Lib.hid (below_via hbl (bl_alloc wr (.cells #[.int .u64 (a : Int)] 62)))
      have hs : wr.heap.size = w.heap.size := by rw [hh]
      clear hfr hbl
      go_wp2_with fail
      go_ret
      rw [← hG]
      exact ⟨_, rfl, HFR.out, HBL.out⟩
    · have hne : ((b : Int) != 0) = true := by rw [bne_iff_ne]; omega
      have hw : IntKind.u64.wrap ((a : Int) % b) = ((a % b : Nat) : Int) := by
        rw [IntKind.wrap_u64]; have := Nat.mod_lt a (show 0 < b by omega); omega
      have hlt := Nat.mod_lt a (show 0 < b by omega)
      have hmix : Try.prog.follows .mixedOrders = true := by kernel_rfl
      have HH := Lib.hid hh
      have HBL := Lib.hid hbl
      clear hh hbl
      go_wp2_with fail
      refine region_early (fun _ => True) 5 [0, 1, 2, 3, 4] 1 hmix (by kernel_rfl) rfl (by kernel_rfl) (fun _ _ d _ _ h => by cases d <;> exact h) trivial ?_
      iterate 5 (refine early_take rfl (by rfl) ?_; apply Exists.intro; refine ⟨fun u hu => ?_, ?_⟩; (go_simp; rfl); simp only [Act.put, List.getElem_toArray, List.getElem_cons_zero, List.getElem_cons_succ, List.setIfInBounds_toArray, List.set_cons_zero, List.set_cons_succ])
      refine early_done ?_
      simp only [marked]
      refine anyL_one (i := 5) (by kernel_rfl) rfl (by rfl) fun K hK => ?_
      go_simp
      refine hK _ _ (fun e => absurd e (by decide)) ?_
      clear hK K
      refine anyL_done (by kernel_rfl) ?_ _
      rw [show (a : Int).tmod b = ((a % b : Nat) : Int) from rfl]
      go_wp2_with fail
      go_roundw
      case rel => exact ⟨b, a % b, hb, by omega, rfl, rfl, by rw [gcd_turn]; exact hg, HH.out, HBL.out.trans ((bl_drew wr).mono HBL.out.size)⟩
      case measure =>
        show (((a % b : Nat) : Int)).toNat < ((b : Int)).toNat
        omega
end Go.Proofs.Ytejliecmdkmgiaa
namespace Go.Proofs.Ytejliecmdkmgiaa
open Go.RowKit Go.Shelf
theorem FrN.parts {w : World} {base : Nat} {v : Value} {N : Nat} {S : Nat} (h : FrN w base v (N : Nat)) (hS : ZB S (N : Int)) :
    ∃ a n c f, v = .slice a n c ∧ RdW w (.slice a n c) n f ∧ natFrom f 0 n = (N : Int) ∧ n ≤ S ∧ (n = 0 ↔ N = 0) := by
  obtain ⟨a, n, c, f, rfl, h1, h2⟩ := h.nat
  refine ⟨a, n, c, f, rfl, ⟨h1.read, h2.words⟩, by rw [natFrom_dv0]; exact h2.val, h2.len (by omega) hS, ?_⟩
  rw [h2.zero_iff (by omega)]; omega
theorem RdW.one {w : World} {a : Option Addr} {c : Nat} {f : Nat → Int} {N : Nat} (h : RdW w (.slice a 1 c) 1 f) (hN : natFrom f 0 1 = (N : Int)) : ∃ b o, a = some ⟨b, o, none⟩ ∧ w.cell? ⟨b, o, none⟩ = some (.int .u64 N) ∧ N < 18446744073709551616 := by
  obtain ⟨a', c', he, -, -, h2⟩ := h.1
  injection he with e1 e2 e3
  subst e1
  obtain ⟨b, o, rfl, h3⟩ := h2 (by omega)
  have hw := h.2 0 (by omega)
  have hv : f 0 = (N : Int) := by rw [← hN, natFrom_dv0]; simp [dv]
  refine ⟨b, o, rfl, ?_, by omega⟩
  have := h3 0 (by omega)
  rw [hv] at this
  exact this
theorem natGcd_any (x y : Value) (n m : Nat) (f g : Nat → Int) (S : Nat) (w : World) (hS : S ≤ 274877906944) (hn : n ≤ S) (hm : m ≤ S) (hx : RdW w x n f) (hy : RdW w y m g) :
    Calls Try.prog 165 #[x, y] w fun e w' => ∃ v, e = .returned v ∧ FrN w' w.heap.size v (Int.gcd (natFrom f 0 n) (natFrom g 0 m) : Nat) ∧ Below w.heap.size w w' := by
  have hlx := natLeast_fr x n f w hx
  have hly := fun (u : World) (hu : Below w.heap.size w u) => natLeast_fr y m g u (hy.below hu)
  have hX := (dv_bd (B := 18446744073709551616) (n := n) (f := f) (by omega) (words_bd hx.2))
  have hY := (dv_bd (B := 18446744073709551616) (n := m) (f := g) (by omega) (words_bd hy.2))
  rw [← natFrom_dv0] at hX hY
  obtain ⟨X, hXe⟩ : ∃ X : Nat, natFrom f 0 n = (X : Int) := ⟨(natFrom f 0 n).toNat, by omega⟩
  obtain ⟨Y, hYe⟩ : ∃ Y : Nat, natFrom g 0 m = (Y : Int) := ⟨(natFrom g 0 m).toNat, by omega⟩
  rw [hXe] at hlx hX ⊢
  rw [hYe] at hY ⊢
  simp only [hYe] at hly
  have hXb : ZB S (X : Int) := Int.lt_of_lt_of_le hX.2 (pow_le' (by omega) hn)
  have hYb : ZB S (Y : Int) := Int.lt_of_lt_of_le hY.2 (pow_le' (by omega) hm)
  have hG : Int.gcd (X : Int) (Y : Int) = Nat.gcd X Y := rfl
  rw [hG]
  obtain ⟨G, hGe⟩ : ∃ G, G = Nat.gcd X Y := ⟨_, rfl⟩
  rw [← hGe]
  have HLX := Lib.hid hlx
  have HLY := Lib.hid hly
  have HXB := Lib.hid hXb
  have HYB := Lib.hid hYb
  have HGE := Lib.hid hGe
  clear hlx hly hXb hYb hX hY hG hGe hXe hYe hx hy hn hm
  go_enter Try.func165, Try.ntmps165
  go_wp2_with fail
  (refine HLX.out.mono ?_)
  rintro e w1 ⟨v1, rfl, hf1, hb1⟩
  have HF1 := Lib.hid hf1
  have HB1 := Lib.hid hb1
  clear hf1 hb1
  go_wp2_with fail
  (refine (HLY.out w1 HB1.out).mono ?_)
  rintro e w2 ⟨v2, rfl, hf2, hb2⟩
  have HF2 := Lib.hid (hf2.mono HB1.out.size)
  have HF1b := Lib.hid (HF1.out.below hb2)
  have HB2 := Lib.hid (below_via HB1.out hb2)
  clear hf2 hb2 HF1 HLX HLY
  go_upto_region 2 with fail
  go_loopg [5, 6] Y (fun gk v5 v6 wr => ∃ a : Nat, FrN wr w.heap.size v5 (a : Nat) ∧ FrN wr w.heap.size v6 (gk : Nat) ∧ Nat.gcd a gk = G ∧ Hid (ZB S (a : Int)) ∧ Hid (ZB S (gk : Int)) ∧ Below w.heap.size w wr)
  case atStart => exact ⟨X, HF1b.out, HF2.out, HGE.out.symm, HXB, HYB, HB2.out⟩
  case round =>
    obtain ⟨a, h5, h6, hg, ha, hb, hbl⟩ := hrel
    obtain ⟨a5, n5, c5, f5, rfl, r5, e5, l5, z5⟩ := h5.parts ha.out
    obtain ⟨a6, n6, c6, f6, rfl, r6, e6, l6, z6⟩ := h6.parts hb.out
    by_cases h0 : gk = 0
    · obtain rfl : n6 = 0 := z6.2 h0
      have hG : a = G := by rw [← hg, h0, Nat.gcd_zero_right]
      subst hG
      have H5 := Lib.hid h5
      have HBL := Lib.hid hbl
      clear r5 e5 l5 z5 r6 e6 l6 z6 h5 h6 hbl hg
      go_wp2_with fail
      go_ret
      exact ⟨_, rfl, H5.out, HBL.out⟩
    · have hn6 : 0 < n6 := Nat.pos_of_ne_zero fun e => h0 (z6.1 e)
      by_cases h11 : n5 = 1 ∧ n6 = 1
      · obtain ⟨rfl, rfl⟩ := h11
        obtain ⟨b5, o5, rfl, k5, w5⟩ := r5.one e5
        obtain ⟨b6, o6, rfl, k6, w6⟩ := r6.one e6
        have HW := Lib.hid (words_any a gk w5 w6 (Nat.gcd_pos_of_pos_right _ (by omega)) wr.drew)
        have hmix : Try.prog.follows .mixedOrders = true := by kernel_rfl
        have HG := Lib.hid hg
        have HBL := Lib.hid hbl
        clear r5 e5 l5 z5 r6 e6 l6 z6 h5 h6 hbl hg w5 w6 hn6
        go_wp2_with fail
        refine region_early (fun u => u.cell? ⟨b5, o5, none⟩ = some (.int .u64 a) ∧ u.cell? ⟨b6, o6, none⟩ = some (.int .u64 gk)) 7 [0, 1, 2, 3, 4, 5] 2 hmix (by kernel_rfl) rfl (by kernel_rfl) (fun _ _ d _ _ h => by cases d <;> exact h) ⟨k5, k6⟩ ?_
        iterate 6 (refine early_take rfl (by rfl) ?_; apply Exists.intro; refine ⟨fun u hu => ?_, ?_⟩; (obtain ⟨u1, u2⟩ := hu; go_simp; rfl); simp only [Act.put, List.getElem_toArray, List.getElem_cons_zero, List.getElem_cons_succ, List.setIfInBounds_toArray, List.set_cons_zero, List.set_cons_succ])
        refine early_done ?_
        simp only [marked]
        refine anyL_one (i := 6) (by kernel_rfl) rfl (by rfl) fun K hK => ?_
        go_simp
        refine HW.out.mono ?_
        rintro e w7 ⟨v, rfl, hf7, hb7⟩
        have hb := below_via (bl_drew wr) hb7
        refine hK _ _ (fun _ => ⟨cell_stays hb k5, cell_stays hb k6⟩) ?_
        clear hK K
        have HF7 := Lib.hid (hf7.mono (show w.heap.size ≤ wr.drew.heap.size from HBL.out.size))
        have HB7 := Lib.hid (below_via HBL.out hb)
        clear hf7 hb7 hb HW HBL k5 k6
        refine anyL_one (i := 7) (by kernel_rfl) rfl (by rfl) fun K hK => ?_
        go_simp
        refine hK _ _ (fun e => absurd e (by decide)) ?_
        clear hK K
        refine anyL_done (by kernel_rfl) ?_ _
        go_wp2_with fail
        go_ret
        exact ⟨_, rfl, by rw [← HG.out]; exact HF7.out, HB7.out⟩
      · have HDM := Lib.hid (DivMod_any _ _ n5 n6 f5 f6 wr (by omega) (by rw [e6]; omega) r5 r6)
        rw [e5, e6] at HDM
        have H6 := Lib.hid h6
        have HBL := Lib.hid hbl
        have HG := Lib.hid hg
        have hwm : (a : Int) % gk = ((a % gk : Nat) : Int) := rfl
        have hlt := Nat.mod_lt a (Nat.pos_of_ne_zero h0)
        have HMB := Lib.hid (show ZB S ((a % gk : Nat) : Int) from zb_le hb.out (by show a % gk ≤ gk; omega))
        rw [hwm] at HDM
        clear r5 e5 l5 z5 r6 e6 l6 z6 h5 h6 hbl hg hwm
        by_cases h5 : n5 = 1
        · subst h5
          have h6 : ((n6 : Int) == 1) = false := by rw [beq_eq_false_iff_ne]; exact fun e => h11 ⟨rfl, by omega⟩
          clear h11
          go_wp2_with fail
          (refine HDM.out.mono ?_)
          rintro e w7 ⟨q, r, rfl, -, hr, hb7⟩
          have HR := Lib.hid (hr.mono HBL.out.size)
          have H6b := Lib.hid (H6.out.below hb7)
          have HB7 := Lib.hid (below_via HBL.out hb7)
          clear hr hb7 H6 HBL HDM
          go_wp2_with fail
          go_roundg (a % gk)
          case measure => exact hlt
          case rel => exact ⟨gk, H6b.out, HR.out, by rw [gcd_turn]; exact HG.out, hb, HMB, HB7.out⟩
        · have h6 : ((n5 : Int) == 1) = false := by rw [beq_eq_false_iff_ne]; exact fun e => h5 (by omega)
          clear h11 h5
          go_wp2_with fail
          (refine HDM.out.mono ?_)
          rintro e w7 ⟨q, r, rfl, -, hr, hb7⟩
          have HR := Lib.hid (hr.mono HBL.out.size)
          have H6b := Lib.hid (H6.out.below hb7)
          have HB7 := Lib.hid (below_via HBL.out hb7)
          clear hr hb7 H6 HBL HDM
          go_wp2_with fail
          go_roundg (a % gk)
          case measure => exact hlt
          case rel => exact ⟨gk, H6b.out, HR.out, by rw [gcd_turn]; exact HG.out, hb, HMB, HB7.out⟩
end Go.Proofs.Ytejliecmdkmgiaa
namespace Go.Proofs.Ytejliecmdkmgiaa
open Go.RowKit Go.Shelf
theorem bGcd_any (x y : Value) (a b : Int) (w : World) (hx : RdZ w x a) (hy : RdZ w y b) :
    Calls Try.prog 114 #[x, y] w fun e w' => ∃ v, e = .returned v ∧ FrZ w' w.heap.size v (Int.gcd a b : Int) ∧ Below w.heap.size w w' := by
  obtain ⟨s, am, n, ca, f, rfl, hr, ha, hn⟩ := hx.parts
  obtain ⟨t, bm, m, cb, g, rfl, hs, hb, hm⟩ := hy.parts
  obtain ⟨⟨⟨x0, x1, y0, y1⟩, -, z0, z1, z2, z3⟩, hB, hsz⟩ := boxes3' w (.bool s) (.slice am n ca) (.bool t) (.slice bm m cb) (.bool false) (.slice none 0 0) 49
  have hval : Int.gcd a b = Int.gcd (natFrom f 0 n) (natFrom g 0 m) := by
    rw [ha, hb]; cases s <;> cases t <;> simp
  have hl := fun (u : World) (hu : Below w.heap.size w u) => natGcd_any _ _ n m f g 274877906944 u (Nat.le_refl _) hn hm (hr.below hu) (hs.below hu)
  rw [← hval] at hl
  obtain ⟨G, hG⟩ : ∃ G, G = Int.gcd a b := ⟨_, rfl⟩
  rw [← hG] at hl ⊢
  have HL := Lib.hid hl
  have HB := Lib.hid hB
  have HSZ := Lib.hid hsz
  clear hl hB hsz hr hs ha hb hx hy hval hG hn hm
  go_enter Try.func114, Try.ntmps114
  go_upto_region 1 with fail
  generalize ((w.alloc (.cells #[.bool s, .slice am n ca] 49)).alloc (.cells #[.bool t, .slice bm m cb] 49)).alloc (.cells #[.bool false, .slice none 0 0] 49) = W at *
  go_wp2_with fail
  (refine (HL.out W HB.out).mono ?_)
  rintro e w4 ⟨v, rfl, hf, hb4⟩
  obtain ⟨av, nv, cv, fv, rfl, hf1, hf2⟩ := hf.nat
  have u2 := froz_stays hb4 z0 z2
  have u3 := froz_stays hb4 z1 z3
  replace z0 := cell_stays hb4 z0
  replace z1 := cell_stays hb4 z1
  have hdec : decide ((G : Int) < 0) = false := by rw [decide_eq_false_iff_not]; omega
  have hz : FrZ w4 (w.heap.size + 1 + 1 + 1) (.agg #[.bool false, .slice av nv cv]) (G : Int) := ⟨_, nv, fv, by rw [hdec], hf1.mono (by have := HSZ.out; omega), hf2⟩
  have hg := stored2_gb w4 (w.heap.size + 1 + 1) (.bool false) (.slice av nv cv)
  have hst := hz.far hg (by omega)
  have hbl := (HB.out.trans (hb4.mono HB.out.size)).grown hg (by have := HB.out.size; have := hb4.size; omega) (fun k hk => by injection hk with hk; omega)
  have HST := Lib.hid (hst.mono (show w.heap.size ≤ w.heap.size + 1 + 1 + 1 by omega))
  have HBL := Lib.hid hbl
  clear hf hf1 hf2 hb4 hst hbl x0 x1 y0 y1 z2 z3 HL hz hg
  go_wp2_with fail
  refine bodyPost_ret (v := .agg #[.bool false, .slice av nv cv]) ?_ rfl ⟨_, rfl, HST.out, HBL.out⟩
  simp [results, Try.results114, go_sem, z0, z1]
theorem gcdS_zb {S : Nat} : ∀ {n : Nat} {v : Nat → Int}, (∀ c, c < n → ZB S (v c)) → ZB S (gcdS n v : Int)
  | 0, _, _ => zb_nil S
  | n + 1, v, h => by
    have ih := gcdS_zb (n := n) (v := v) fun c hc => h c (by omega)
    show ZB S ((Int.gcd (gcdS n v : Int) (v n) : Nat) : Int)
    by_cases e : gcdS n v = 0
    · rw [e]
      refine zb_le (h n (by omega)) ?_
      show Int.gcd 0 (v n) ≤ _
      rw [Int.gcd_zero_left]; exact Nat.le_refl _
    · refine zb_le ih ?_
      show Int.gcd _ _ ≤ _
      exact Nat.le_of_dvd (by omega) (Int.ofNat_dvd.1 (Int.gcd_dvd_left ..))
theorem GcdAll_any (x : Value) (n : Nat) (E : Nat → Int) (w : World) (hx : RdE w x n E) :
    Calls Try.prog 62 #[x] w fun e w' => ∃ v, e = .returned v ∧ FrZ w' w.heap.size v (gcdS n E : Int) ∧ Below w.heap.size w w' := by
  obtain ⟨a, cap, rfl, hcap⟩ := hx.slice
  have hnb := hx.le_n
  obtain ⟨W, hW⟩ : ∃ W, W = (w.alloc (.cells #[.bool false, .slice none 0 0] 49)).alloc (.cells #[.bool false, .slice none 0 0] 49) := ⟨_, rfl⟩
  obtain ⟨⟨x0, x1, y0, y1, v0, v1⟩, hb, hsz⟩ := boxes2 w (.bool false) (.slice none 0 0) (.bool false) (.slice none 0 0) 49
  have k2 := two_cells w (.bool false) (.slice none 0 0) 49
  have x2 : W.frozen? ⟨w.heap.size, 0, none⟩ = false := by rw [hW]; exact froz_stays (bl_alloc _ _) k2.1 k2.2.2.1
  have x3 : W.frozen? ⟨w.heap.size, 1, none⟩ = false := by rw [hW]; exact froz_stays (bl_alloc _ _) k2.2.1 k2.2.2.2
  rw [← hW] at x0 x1 y0 y1 v0 v1 hb hsz
  have hZ : ∀ k, k ≤ n → ZB 274877906944 (gcdS k E : Int) := fun k hk => gcdS_zb fun c hc => by
    obtain ⟨b, o, s, m, -, -, -, hz⟩ := hx.get (show c < n by omega)
    exact hz.zb
  have HX := Lib.hid hx
  have HZ := Lib.hid hZ
  have HBW := Lib.hid hb
  have HSZ := Lib.hid hsz
  clear hx hZ hb hsz k2
  go_enter Try.func62, Try.ntmps62
  go_upto_region 2 with fail
  rw [← hW]
  clear hW
  go_wp2_with fail
  go_loopw [8] (fun kv wr => ∃ (k : Nat) (am : Option Addr) (an ac : Nat), k ≤ n ∧ kv = .int .i64 k ∧ Below (w.heap.size + 1) W wr ∧
    (wr.cell? ⟨w.heap.size + 1, 0, none⟩ = some (.bool (decide ((gcdS k E : Int) < 0))) ∧ wr.cell? ⟨w.heap.size + 1, 1, none⟩ = some (.slice am an ac) ∧ wr.frozen? ⟨w.heap.size + 1, 0, none⟩ = false ∧ wr.frozen? ⟨w.heap.size + 1, 1, none⟩ = false) ∧
    FrZ wr (w.heap.size + 2) (.agg #[.bool (decide ((gcdS k E : Int) < 0)), .slice am an ac]) (gcdS k E : Int) ∧ w.heap.size + 2 ≤ wr.heap.size) (fun kv _ => n - (intOf kv).toNat)
  case atStart => exact ⟨0, none, 0, 0, Nat.zero_le _, rfl, Below.refl _ _, ⟨y0, y1, v0, v1⟩, frz_nil _ _, by rw [HSZ.out]; exact Nat.le_refl _⟩
  case round =>
    clear y0 y1 v0 v1
    obtain ⟨k, am, an, ac, hkn, rfl, hbl, ⟨y0, y1, v0, v1⟩, hf, hs⟩ := hrel
    have hbw := HBW.out.trans (hbl.mono (Nat.le_succ _))
    by_cases hk : k < n
    · have hz := hf.rd (HZ.out k hkn) (by omega)
      obtain ⟨z, hzz⟩ : ∃ z, z = (gcdS k E : Int) := ⟨_, rfl⟩
      have hz' : (gcdS (k + 1) E : Int) = (Int.gcd z (E k) : Int) := by rw [hzz]; rfl
      rw [← hzz] at hz y0
      obtain ⟨sg, hsg⟩ : ∃ sg, sg = decide (z < 0) := ⟨_, rfl⟩
      rw [← hsg] at hz y0
      have hk1 : (k : Int) < (n : Int) := by omega
      obtain ⟨b, o, s, m, rfl, c0, c1, hzk⟩ := (HX.out.below hbw).get hk
      obtain ⟨amk, ank, ack, rfl⟩ := hzk.agg
      obtain ⟨q0, q1, -, -⟩ := two_cells wr (.bool s) (.slice amk ank ack) 49
      have hba := bl_alloc wr (.cells #[.bool s, .slice amk ank ack] 49)
      obtain ⟨qb, hqb⟩ : ∃ qb, qb = wr.heap.size := ⟨_, rfl⟩
      rw [← hqb] at q0 q1
      have y2 := cell_stays hba y0
      have y3 := cell_stays hba y1
      have u0 := froz_stays hba y0 v0
      have u1 := froz_stays hba y1 v1
      have HCA := Lib.hid (bGcd_any _ _ z (E k) _ (hz.below hba) (hzk.below hba))
      have HS4 := Lib.hid (show w.heap.size + 2 ≤ (wr.alloc (.cells #[.bool s, .slice amk ank ack] 49)).heap.size from Nat.le_trans hs hba.size)
      have HBA := Lib.hid (hbl.trans (hba.mono (by omega)))
      rw [← hz'] at HCA
      obtain ⟨z1, hz1⟩ : ∃ z1, z1 = (gcdS (k + 1) E : Int) := ⟨_, rfl⟩
      rw [← hz1] at HCA
      have HZ1 := Lib.hid hz1
      clear hz1 hz' hz hf hbl hbw hzz hsg hzk hba hs
      go_upto_region 5 with fail
      rw [← hqb]
      clear hqb y0 y1 v0 v1 c0 c1
      generalize wr.alloc (.cells #[.bool s, .slice amk ank ack] 49) = w4 at *
      go_wp2_with fail
      (refine HCA.out.mono ?_)
      rintro e w5 ⟨v, rfl, hf5, hb5⟩
      replace u0 := froz_stays hb5 y2 u0
      replace u1 := froz_stays hb5 y3 u1
      replace y2 := cell_stays hb5 y2
      replace y3 := cell_stays hb5 y3
      obtain ⟨am5, an5, ac5, rfl, -⟩ := (hf5.mono (show w.heap.size + 1 + 1 ≤ w4.heap.size from HS4.out)).stored
      have hg5 := stored2_gb w5 (w.heap.size + 1) (.bool (decide (z1 < 0))) (.slice am5 an5 ac5)
      have HF6 := Lib.hid ((hf5.mono (show w.heap.size + 2 ≤ w4.heap.size from HS4.out)).far hg5 (by omega))
      have hs5 := hb5.size
      have hs4 := HS4.out
      have HB6 := Lib.hid ((HBA.out.trans (hb5.mono (by omega))).grown hg5 (by omega) (fun k hk => by injection hk with hk; omega))
      have HS6 := Lib.hid (show w.heap.size + 2 ≤ (stored2 w5 (w.heap.size + 1) (.bool (decide (z1 < 0))) (.slice am5 an5 ac5)).heap.size from Nat.le_trans (by omega) hg5.size)
      obtain ⟨n0, n1⟩ := two_own (x0 := .bool (decide (z1 < 0))) (x1 := .slice am5 an5 ac5) y2 y3
      have n2 : (stored2 w5 (w.heap.size + 1) (.bool (decide (z1 < 0))) (.slice am5 an5 ac5)).frozen? ⟨w.heap.size + 1, 0, none⟩ = false := by unfold stored2; rw [World.frozen?_setCell, World.frozen?_setCell]; exact u0
      have n3 : (stored2 w5 (w.heap.size + 1) (.bool (decide (z1 < 0))) (.slice am5 an5 ac5)).frozen? ⟨w.heap.size + 1, 1, none⟩ = false := by unfold stored2; rw [World.frozen?_setCell, World.frozen?_setCell]; exact u1
      have HN := Lib.hid (And.intro n0 (And.intro n1 (And.intro n2 n3)))
      have wk : IntKind.i64.wrap ((k : Int) + 1) = (k : Int) + 1 := IntWalk.i64_in _ (by omega)
      clear hf5 hb5 hg5 hs5 n0 n1 n2 n3 HCA HBA q0 q1
      go_wp2_with fail
      go_roundw
      case rel => exact ⟨k + 1, am5, an5, ac5, by omega, by go_num, HB6.out, by rw [← HZ1.out]; exact HN.out, by rw [← HZ1.out]; exact HF6.out, HS6.out⟩
      case measure => simp [intOf]; omega
    · obtain rfl : k = n := by omega
      obtain ⟨z1, hz1⟩ : ∃ z1, z1 = (gcdS k E : Int) := ⟨_, rfl⟩
      rw [← hz1] at hf y0
      have HZ1 := Lib.hid hz1
      clear hz1
      replace x2 := (hbl.frozen (p := ⟨w.heap.size, 0, none⟩) (by show w.heap.size < _; omega)).trans x2
      replace x3 := (hbl.frozen (p := ⟨w.heap.size, 1, none⟩) (by show w.heap.size < _; omega)).trans x3
      replace x0 := below_keep hbl (by omega) x0
      replace x1 := below_keep hbl (by omega) x1
      obtain ⟨am', an', ac', he, f1, f2⟩ := det_fin (b := w.heap.size) (w := w) hf (by omega) (Nat.le_refl _) hbw
      injection he with he
      injection he with he
      injection he with _ he
      injection he with he
      injection he with e1 e2 e3
      subst e1 e2 e3
      have F1 := Lib.hid f1
      have F2 := Lib.hid f2
      clear hf hbw hbl f1 f2 HX
      go_wp2_with fail
      refine bodyPost_ret (v := .agg #[.bool (decide (z1 < 0)), .slice am an ac]) ?_ rfl ⟨_, rfl, by rw [← HZ1.out]; exact F1.out, F2.out⟩
      simp [results, Try.results62, go_sem, x0, x1]
end Go.Proofs.Ytejliecmdkmgiaa
namespace Go.Proofs.Ytejliecmdkmgiaa
open Go.RowKit Go.Shelf
end Go.Proofs.Ytejliecmdkmgiaa
namespace Go.Proofs.Ytejliecmdkmgiaa
open Go.RowKit Go.Shelf
end Go.Proofs.Ytejliecmdkmgiaa
namespace Go.Proofs.Ytejliecmdkmgiaa
open Go.RowKit Go.Shelf
theorem tagRel : 49 ≠ 108 := by decide
theorem MBox.grow {w w' : World} {mb : Nat} {r c : Int} {v : Value} (h : MBox w mb r c v) {o : Option Nat} (hg : w.grownBy w' o) (hd : ∀ d, o = some d → mb ≠ d) : MBox w' mb r c v := by
  cases o with
  | none => exact h.below ⟨hg.os, hg.tape, hg.output, hg.size, fun k hk => hg.block k hk (by simp)⟩
  | some d => exact h.grown hg (hd d rfl)
theorem PaE.rel {w : World} {base lb n k B N : Nat} {D : Nat → Prop} {E : Nat → Int} {sv : Value} {xs : List Value} (h : PaE w base D lb n k E) (ho : w.ownsRow B 108 2 sv N xs) : sv.ownBlock ≠ some lb := by
  obtain ⟨cur, hc, -⟩ := h.blk
  exact own_tag ho hc tagRel
structure LsR (w wr : World) (n L mb lM : Nat) (sl sv : Value) (D : Nat → Prop) (k : Nat) (B : Nat → Nat) (R : Nat → Nat → Int) (hd : Nat → Nat) (G : Nat → Int) : Prop where
  below : Below w.heap.size w wr
  mbw : w.heap.size < mb ∧ mb < wr.heap.size
  a : MBox wr w.heap.size n n sl
  m : MBox wr mb n n (.slice (some ⟨lM, 0, none⟩) (n * n) (n * n))
  own : wr.ownsRow (mb + 1) 108 2 sv k (flatI (fun i => .slice (some ⟨B i, 0, none⟩) L L) (fun i => .int .i64 (hd i)) k)
  row : ∀ i, i < k → PaE wr (w.heap.size + 1) D (B i) L L (R i) ∧ D (B i) ∧ mb ≠ B i
  g : PaE wr (w.heap.size + 1) D lM (n * n) (n * n) G
  dm : D mb ∧ D lM ∧ mb ≠ lM
  dsv : ∀ b, sv.ownBlock = some b → D b
  dl : ∀ b, D b → b < wr.heap.size
structure LsW (w wr : World) (n L mb lM : Nat) (sl sv : Value) (D : Nat → Prop) (k : Nat) (B : Nat → Nat) (R : Nat → Nat → Int) (hd : Nat → Nat) (G : Nat → Int) (lv : Nat) (V : Nat → Int) : Prop where
  r : LsR w wr n L mb lM sl sv D k B R hd G
  v : PaE wr (w.heap.size + 1) D lv L L V
  dv : D lv ∧ mb ≠ lv ∧ lM ≠ lv ∧ ∀ i, i < k → B i ≠ lv
section
variable {w wr w' W1 : World} {n L mb lM k lv : Nat} {sl sv : Value} {D : Nat → Prop} {B hd : Nat → Nat} {R : Nat → Nat → Int} {G V : Nat → Int}
theorem LsR.on (h : LsR w wr n L mb lM sl sv D k B R hd G) (hb : Below wr.heap.size wr w') : LsR w w' n L mb lM sl sv D k B R hd G :=
  ⟨below_via h.below hb, ⟨h.mbw.1, Nat.lt_of_lt_of_le h.mbw.2 hb.size⟩, h.a.below hb, h.m.below hb, own_below h.own hb, fun i hi => ⟨(h.row i hi).1.below hb, (h.row i hi).2⟩, h.g.below hb, h.dm, h.dsv, fun b hd => Nat.lt_of_lt_of_le (h.dl b hd) hb.size⟩
theorem LsW.on (h : LsW w wr n L mb lM sl sv D k B R hd G lv V) (hb : Below wr.heap.size wr w') : LsW w w' n L mb lM sl sv D k B R hd G lv V := ⟨h.r.on hb, h.v.below hb, h.dv⟩
theorem LsW.congr (h : LsW w wr n L mb lM sl sv D k B R hd G lv V) {V' : Nat → Int} (e : ∀ c, c < L → V c = V' c) : LsW w wr n L mb lM sl sv D k B R hd G lv V' := ⟨h.r, h.v.congr e, h.dv⟩
theorem LsR.congr (h : LsR w wr n L mb lM sl sv D k B R hd G) {G' : Nat → Int} (e : ∀ c, c < n * n → G c = G' c) : LsR w wr n L mb lM sl sv D k B R hd G' := { h with g := h.g.congr e }
theorem LsW.turn (h : LsW w wr n L mb lM sl sv D k B R hd G lv V) (hg : wr.grownBy w' (some lv)) {V' : Nat → Int} (hv : PaE w' (w.heap.size + 1) D lv L L V') : LsW w w' n L mb lM sl sv D k B R hd G lv V' := by
  have ho := h.v.own
  obtain ⟨d1, d2, d3, d4⟩ := h.dv
  refine ⟨⟨h.r.below.grown hg h.r.below.size (fun k hk => by injection hk with hk; omega), ⟨h.r.mbw.1, Nat.lt_of_lt_of_le h.r.mbw.2 hg.size⟩, h.r.a.grown hg (by omega), h.r.m.grown hg d2, h.r.own.kept hg (Or.inr (h.v.rel h.r.own)), fun i hi => ⟨(h.r.row i hi).1.grown hg (d4 i hi) d1, (h.r.row i hi).2⟩, h.r.g.grown hg d3 d1, h.r.dm, h.r.dsv, fun b hb => Nat.lt_of_lt_of_le (h.r.dl b hb) hg.size⟩, hv, h.dv⟩
theorem LsW.push (h : LsW w wr n L mb lM sl sv D k B R hd G lv V) {q g cap : Nat} 
    (ho : w'.ownsRow (mb + 1) 108 2 (.slice (some ⟨g, 0, none⟩) (k + 1) cap) (k + 1) (flatI (fun i => .slice (some ⟨B i, 0, none⟩) L L) (fun i => .int .i64 (hd i)) k ++ [.slice (some ⟨lv, 0, none⟩) L L, .int .i64 q]))
    (hg : wr.grownBy w' sv.ownBlock) (hat : sv.ownBlock = some g ∨ wr.heap.size ≤ g) (hlt : g < w'.heap.size) :
    LsR w w' n L mb lM sl (.slice (some ⟨g, 0, none⟩) (k + 1) cap) (fun b => D b ∨ b = g) (k + 1) (fun i => if i = k then lv else B i) (fun i => if i = k then V else R i) (fun i => if i = k then q else hd i) G := by
  have hol := h.r.own.lt
  have ht : ∀ b, b < wr.heap.size → ¬ D b → ¬ (D b ∨ b = g) := fun b hb hn hd => hd.elim hn (fun e => by
    rcases hat with e2 | e2
    · exact hn (h.r.dsv b (e ▸ e2))
    · omega)
  have hgr : ∀ {lb N : Nat} {E : Nat → Int}, PaE wr (w.heap.size + 1) D lb N N E → PaE w' (w.heap.size + 1) (fun b => D b ∨ b = g) lb N N E := fun hp => (hp.turnD ht).grow hg (fun d hd => ⟨fun e => hp.rel h.r.own (by rw [hd, e]), Or.inl (h.r.dsv d hd)⟩)
  refine ⟨h.r.below.grown hg h.r.below.size (fun k hk => by have := hol k hk; have := h.r.mbw; omega), ⟨h.r.mbw.1, Nat.lt_of_lt_of_le h.r.mbw.2 hg.size⟩, h.r.a.grow hg (fun d hd => by have := hol d hd; have := h.r.mbw; omega), h.r.m.grow hg (fun d hd => by have := hol d hd; omega), ?_, fun i hi => ?_, hgr h.r.g, ⟨Or.inl h.r.dm.1, Or.inl h.r.dm.2.1, h.r.dm.2.2⟩, fun b hb => Or.inr (by simpa [Value.ownBlock] using hb.symm), fun b hb => hb.elim (fun e => Nat.lt_of_lt_of_le (h.r.dl b e) hg.size) (fun e => e ▸ hlt)⟩
  · show w'.ownsRow _ _ 2 _ (k + 1) (flatI _ _ k ++ [_, _])
    rw [flatI_congr (b' := fun i => .slice (some ⟨B i, 0, none⟩) L L) (m' := fun i => .int .i64 (hd i)) (fun i hi => ⟨by simp only [if_neg (Nat.ne_of_lt hi)], by simp only [if_neg (Nat.ne_of_lt hi)]⟩)]
    simp only [if_true]
    exact ho
  · by_cases e : i = k
    · simp only [if_pos e]
      exact ⟨hgr h.v, Or.inl h.dv.1, h.dv.2.1⟩
    · simp only [if_neg e]
      obtain ⟨r1, r2, r3⟩ := h.r.row i (by omega)
      exact ⟨hgr r1, Or.inl r2, r3⟩
theorem LsR.mul (h : LsR w wr n L mb lM sl sv D k B R hd G) {l2 : Nat} {G' : Nat → Int} (hb : Below wr.heap.size wr W1) (hf : FrE W1 wr.heap.size (fun b => b ≤ l2) l2 (n * n) G') :
    LsR w (stored3 W1 mb (.int .i64 n) (.int .i64 n) (.slice (some ⟨l2, 0, none⟩) (n * n) (n * n))) n L mb l2 sl sv (fun b => D b ∨ b = l2) k B R hd G' := by
  have hg := stored3_gb W1 mb (.int .i64 n) (.int .i64 n) (.slice (some ⟨l2, 0, none⟩) (n * n) (n * n))
  have hl := hf.own
  have hl2 := hf.lt
  have hbw := below_via h.below hb
  have hmw := h.mbw
  have ht : ∀ b, b < wr.heap.size → ¬ D b → ¬ (D b ∨ b = l2) := fun b hb hn hd => hd.elim hn (fun e => by omega)
  refine ⟨hbw.grown hg hbw.size (fun k hk => by injection hk with hk; omega), ⟨hmw.1, Nat.lt_of_lt_of_le hmw.2 (Nat.le_trans hb.size hg.size)⟩, (h.a.below hb).grown hg (by omega), (h.m.below hb).store, (own_below h.own hb).kept hg (Or.inr fun e => by have := h.own.lt _ e; omega), fun i hi => ⟨(((h.row i hi).1.turnD ht).below hb).grown hg (fun e => (h.row i hi).2.2 e.symm) (Or.inl h.dm.1), Or.inl (h.row i hi).2.1, (h.row i hi).2.2⟩, ?_, ⟨Or.inl h.dm.1, Or.inr rfl, by omega⟩, fun b hb => Or.inl (h.dsv b hb), fun b hd => Nat.lt_of_lt_of_le (hd.elim (fun e => Nat.lt_of_lt_of_le (h.dl b e) hb.size) (fun e => e ▸ hl2)) hg.size⟩
  refine PaE.grown ?_ hg (by omega) (Or.inl h.dm.1)
  exact (hf.mono (show w.heap.size + 1 ≤ wr.heap.size by omega)).turnD (D' := fun b => D b ∨ b = l2) (fun b _ hn hd => hn (hd.elim (fun e => by have := h.dl b e; omega) (fun e => by omega)))
theorem LsR.start {w6 w7 : World} {lb : Nat} (h6 : Below w.heap.size w w6) (hs6 : w.heap.size < w6.heap.size) (a6 : MBox w6 w.heap.size n n sl) (h7 : Below w6.heap.size w6 w7) (f7 : FrE w7 w6.heap.size (fun b => b ≤ lb) lb (n * n) G) :
    LsR w (w7.alloc (.cells #[.int .i64 n, .int .i64 n, .slice (some ⟨lb, 0, none⟩) (n * n) (n * n)] 24)) n L w7.heap.size lb sl (.slice none 0 0) (fun b => b = w7.heap.size ∨ b = lb) 0 B R hd G := by
  have hb8 := bl_alloc w7 (.cells #[.int .i64 n, .int .i64 n, .slice (some ⟨lb, 0, none⟩) (n * n) (n * n)] 24)
  have hs8 : (w7.alloc (.cells #[.int .i64 n, .int .i64 n, .slice (some ⟨lb, 0, none⟩) (n * n) (n * n)] 24)).heap.size = w7.heap.size + 1 := by simp
  have hl2 := f7.own
  have hl3 := f7.lt
  have hs7 := h7.size
  have h68 := below_via h7 hb8
  refine ⟨below_via h6 h68, ⟨by omega, by omega⟩, a6.below h68, MBox.new w7 n n _, World.ownsRow_nil _ _ _ _, fun i hi => absurd hi (by omega), PaE.below ?_ hb8, ⟨Or.inl rfl, Or.inr rfl, by omega⟩, fun b hb => by simp [Value.ownBlock] at hb, fun b hb => by omega⟩
  exact (f7.mono (show w.heap.size + 1 ≤ w6.heap.size by omega)).turnD (fun b hbl hn hd => by
    rcases hd with hd | hd
    · omega
    · exact hn (by omega))
end
end Go.Proofs.Ytejliecmdkmgiaa
namespace Go.Proofs.Ytejliecmdkmgiaa
open Go.RowKit Go.Shelf
end Go.Proofs.Ytejliecmdkmgiaa
