/- The walk of minors.Inverse for a square matrix. minors.Inverse for a square matrix, and the law's inverts. -/
import Derived.Test.YtejliecmdkmgiaaGY
import Derived.Test.YtejliecmdkmgiaaGH
set_option linter.unusedVariables false
set_option linter.unusedSimpArgs false
namespace Go.Proofs.Ytejliecmdkmgiaa
open Go.RowKit Go.Shelf

section
variable {w wr w' u w0 : World} {b d base : Nat} {s : Bool} {v : Value} {z : Int} {am : Option Addr} {an ac : Nat}
/-- an integer of the call's own in a box -/
structure KBox (w : World) (b : Nat) (z : Int) (a : Option Addr) (n c : Nat) : Prop where
  b2 : ZBox w b (decide (z < 0)) (.slice a n c)
  fr : FrZ w 0 (.agg #[.bool (decide (z < 0)), .slice a n c]) z
theorem FrZ.apart {m : Value} (h : FrZ w base (.agg #[.bool s, m]) z) (hg : w.grownBy w' (some d)) (hd : m.ownBlock ≠ some d) : FrZ w' base (.agg #[.bool s, m]) z := by
  obtain ⟨m', n, f, e, h1, h2⟩ := h
  simp only [Value.agg.injEq, Array.mk.injEq, List.cons.injEq, and_true] at e
  obtain ⟨e1, rfl⟩ := e
  refine ⟨m, n, f, by rw [e1], h1.grown hg (Or.inr hd), h2⟩
/-- where a new number's words lie -/
theorem FrZ.own_base {m : Value} (h : FrZ w base (.agg #[.bool s, m]) z) {k : Nat} (e : m.ownBlock = some k) : base ≤ k ∧ k < w.heap.size := by
  obtain ⟨a', n', c', e2, ho⟩ := h.agg
  simp only [Value.agg.injEq, Array.mk.injEq, List.cons.injEq, and_true] at e2
  rw [e2.2] at e
  exact ho _ e
theorem KBox.new (h : FrZ w base (.agg #[.bool (decide (z < 0)), .slice am an ac]) z) : KBox (w.alloc (.cells #[.bool (decide (z < 0)), .slice am an ac] 49)) w.heap.size z am an ac :=
  ⟨ZBox.new w _ _, (h.mono (Nat.zero_le _)).below (bl_alloc _ _)⟩
theorem KBox.below (h : KBox w b z am an ac) (hb : Below w.heap.size w w') : KBox w' b z am an ac := ⟨h.b2.below hb, h.fr.below hb⟩
theorem KBox.gb (h : KBox w b z am an ac) (hg : w.grownBy w' (some d)) (hd : b ≠ d) (ho : (Value.slice am an ac).ownBlock ≠ some d) : KBox w' b z am an ac := ⟨h.b2.grown hg hd, h.fr.apart hg ho⟩
theorem ZBox.iput (h : ZBox w b s v) (hf : FrZ w base (.agg #[.bool (decide (z < 0)), .slice am an ac]) z) (hs : (Value.slice am an ac).ownBlock ≠ some b) : KBox (stored2 w b (.bool (decide (z < 0))) (.slice am an ac)) b z am an ac :=
  ⟨h.store, (hf.mono (Nat.zero_le _)).apart (stored2_gb w b _ _) hs⟩
theorem KBox.rd {S : Nat} (h : KBox w b z am an ac) (hz : ZB S z) (hS : S ≤ 274877906944) : RdZ w (.agg #[.bool (decide (z < 0)), .slice am an ac]) z := h.fr.rd hz hS
/-- the box that came out of a region that draws -/
theorem BoxZ.ibox (h : BoxZ w0 w b z) : Below w0.heap.size w0 w ∧ w0.heap.size ≤ b ∧ b < w.heap.size ∧ ∃ am an ac, KBox w b z am an ac ∧ ∀ k, (Value.slice am an ac).ownBlock = some k → w0.heap.size ≤ k := by
  obtain ⟨h1, h2, h3, am, an, ac, ⟨h4, h5⟩, ⟨h6, h7⟩, h8⟩ := h
  exact ⟨h1, h2, h3, am, an, ac, ⟨⟨h4, h5, h6, h7⟩, h8.mono (Nat.zero_le _)⟩, fun k hk => (h8.own_base hk).1⟩
end
/-- the loop of Inverse -/
structure IvR (w wr : World) (n : Int) (N ab gb lb : Nat) (d g : Int) (ad : Option Addr) (nd cd : Nat) (ag : Option Addr) (ng cg : Nat) (F : Nat → Int) : Prop where
  below : Below w.heap.size w wr
  r : MBox wr (w.heap.size + 1) 0 0 (.slice none 0 0)
  z : KBox wr (w.heap.size + 2) d ad nd cd
  a : MBox wr ab n n (.slice (some ⟨lb, 0, none⟩) N N)
  g : KBox wr gb g ag ng cg
  p : PaE wr w.heap.size (fun b => b ≤ lb ∨ b = gb) lb N N F
  lr : w.heap.size + 2 < lb
  la : lb < ab
  lg : lb < gb
  ane : ab ≠ gb
  oz : (Value.slice ad nd cd).ownBlock ≠ some lb
  og : (Value.slice ag ng cg).ownBlock ≠ some lb
  ozg : (Value.slice ad nd cd).ownBlock ≠ some gb
section
variable {w wr w' : World} {n : Int} {N ab gb lb : Nat} {d g : Int} {ad ag : Option Addr} {nd cd ng cg : Nat} {F F' : Nat → Int}
theorem IvR.on (h : IvR w wr n N ab gb lb d g ad nd cd ag ng cg F) (hb : Below wr.heap.size wr w') : IvR w w' n N ab gb lb d g ad nd cd ag ng cg F :=
  { h with below := below_via h.below hb, r := h.r.below hb, z := h.z.below hb, a := h.a.below hb, g := h.g.below hb, p := h.p.below hb }
theorem IvR.congr (h : IvR w wr n N ab gb lb d g ad nd cd ag ng cg F) (e : ∀ j, j < N → F j = F' j) : IvR w wr n N ab gb lb d g ad nd cd ag ng cg F' := { h with p := h.p.congr e }
theorem IvR.turn (h : IvR w wr n N ab gb lb d g ad nd cd ag ng cg F) (hg : wr.grownBy w' (some lb)) (hp : PaE w' w.heap.size (fun b => b ≤ lb ∨ b = gb) lb N N F') : IvR w w' n N ab gb lb d g ad nd cd ag ng cg F' :=
  { h with below := h.below.grown hg h.below.size (fun k hk => by injection hk with hk; have := h.lr; omega), r := h.r.grown hg (by have := h.lr; omega), z := h.z.gb hg (by have := h.lr; omega) h.oz, a := h.a.grown hg (by have := h.la; omega), g := h.g.gb hg (by have := h.lg; omega) h.og, p := hp }
/-- the least number's sign turned in its box -/
theorem IvR.neg {ag' : Option Addr} {ng' cg' base : Nat} {g' : Int} (h : IvR w wr n N ab gb lb d g ad nd cd ag ng cg F) (hf : FrZ wr base (.agg #[.bool (decide (g' < 0)), .slice ag' ng' cg']) g') (hb : gb < base) :
    IvR w (stored2 wr gb (.bool (decide (g' < 0))) (.slice ag' ng' cg')) n N ab gb lb d g' ad nd cd ag' ng' cg' F := by
  have hg := stored2_gb wr gb (.bool (decide (g' < 0))) (.slice ag' ng' cg')
  have h1 := h.lr
  have h2 := h.lg
  have ho : ∀ k, (Value.slice ag' ng' cg').ownBlock = some k → base ≤ k := fun k e => (hf.own_base e).1
  exact { h with
    below := h.below.grown hg h.below.size (fun k hk => by injection hk with hk; omega)
    r := h.r.grown hg (by omega)
    z := h.z.gb hg (by omega) h.ozg
    a := h.a.grown hg h.ane
    g := h.g.b2.iput hf (fun e => by have := ho _ e; omega)
    p := h.p.grown hg (by omega) (Or.inr rfl)
    og := fun e => by have := ho _ e; omega }
theorem IvR.out {am : Option Addr} {an ac base : Nat} {d' : Int} (h : IvR w wr n N ab gb lb d g ad nd cd ag ng cg F) (hf : FrZ wr base (.agg #[.bool (decide (d' < 0)), .slice am an ac]) d') (hb : lb < base) :
    ZBox (stored2 wr (w.heap.size + 2) (.bool (decide (d' < 0))) (.slice am an ac)) (w.heap.size + 2) (decide (d' < 0)) (.slice am an ac) ∧ MBox (stored2 wr (w.heap.size + 2) (.bool (decide (d' < 0))) (.slice am an ac)) (w.heap.size + 1) 0 0 (.slice none 0 0) ∧
    MBox (stored2 wr (w.heap.size + 2) (.bool (decide (d' < 0))) (.slice am an ac)) ab n n (.slice (some ⟨lb, 0, none⟩) N N) ∧
    FrE (stored2 wr (w.heap.size + 2) (.bool (decide (d' < 0))) (.slice am an ac)) w.heap.size (fun b => b ≤ lb) lb N F ∧
    FrZ (stored2 wr (w.heap.size + 2) (.bool (decide (d' < 0))) (.slice am an ac)) base (.agg #[.bool (decide (d' < 0)), .slice am an ac]) d' ∧
    Below w.heap.size w (stored2 wr (w.heap.size + 2) (.bool (decide (d' < 0))) (.slice am an ac)) := by
  have hg := stored2_gb wr (w.heap.size + 2) (.bool (decide (d' < 0))) (.slice am an ac)
  have h1 := h.lr
  have h2 := h.la
  exact ⟨h.z.b2.store, h.r.grown hg (by omega), h.a.grown hg (by omega), (h.p.grown hg (by omega) (Or.inl (by omega))).turnD (fun b _ hn hd => hn (Or.inl hd)), hf.far hg (by omega), h.below.grown hg h.below.size (fun k hk => by injection hk with hk; omega)⟩
theorem inv_end {wD : World} {am : Option Addr} {an ac base : Nat} {d' : Int} {s : Value} (hz : ZBox wD (w.heap.size + 2) (decide (d' < 0)) (.slice am an ac)) (hr : MBox wD (w.heap.size + 1) 0 0 s)
    (hp : FrE wD w.heap.size (fun b => b ≤ lb) lb N F) (hf : FrZ wD base (.agg #[.bool (decide (d' < 0)), .slice am an ac]) d') (hb : Below w.heap.size w wD) (h1 : w.heap.size + 2 < lb) (h2 : lb < base) :
    MBox (stored2 (stored3 wD (w.heap.size + 1) (.int .i64 n) (.int .i64 n) (.slice (some ⟨lb, 0, none⟩) N N)) (w.heap.size + 2) (.bool (decide (d' < 0))) (.slice am an ac)) (w.heap.size + 1) n n (.slice (some ⟨lb, 0, none⟩) N N) ∧
    ZBox (stored3 wD (w.heap.size + 1) (.int .i64 n) (.int .i64 n) (.slice (some ⟨lb, 0, none⟩) N N)) (w.heap.size + 2) (decide (d' < 0)) (.slice am an ac) ∧
    ZBox (stored2 (stored3 wD (w.heap.size + 1) (.int .i64 n) (.int .i64 n) (.slice (some ⟨lb, 0, none⟩) N N)) (w.heap.size + 2) (.bool (decide (d' < 0))) (.slice am an ac)) (w.heap.size + 2) (decide (d' < 0)) (.slice am an ac) ∧
    FrE (stored2 (stored3 wD (w.heap.size + 1) (.int .i64 n) (.int .i64 n) (.slice (some ⟨lb, 0, none⟩) N N)) (w.heap.size + 2) (.bool (decide (d' < 0))) (.slice am an ac)) w.heap.size (fun b => b ≤ lb) lb N F ∧
    FrZ (stored2 (stored3 wD (w.heap.size + 1) (.int .i64 n) (.int .i64 n) (.slice (some ⟨lb, 0, none⟩) N N)) (w.heap.size + 2) (.bool (decide (d' < 0))) (.slice am an ac)) w.heap.size (.agg #[.bool (decide (d' < 0)), .slice am an ac]) d' ∧
    Below w.heap.size w (stored2 (stored3 wD (w.heap.size + 1) (.int .i64 n) (.int .i64 n) (.slice (some ⟨lb, 0, none⟩) N N)) (w.heap.size + 2) (.bool (decide (d' < 0))) (.slice am an ac)) := by
  have hg1 := stored3_gb wD (w.heap.size + 1) (.int .i64 n) (.int .i64 n) (.slice (some ⟨lb, 0, none⟩) N N)
  have hg2 := stored2_gb (stored3 wD (w.heap.size + 1) (.int .i64 n) (.int .i64 n) (.slice (some ⟨lb, 0, none⟩) N N)) (w.heap.size + 2) (.bool (decide (d' < 0))) (.slice am an ac)
  have hz1 := hz.grown hg1 (by omega)
  have hb1 := hb.grown hg1 hb.size (fun k hk => by injection hk with hk; omega)
  exact ⟨hr.store.grown hg2 (by omega), hz1, hz1.store, (hp.grown hg1 (by omega) (by omega)).grown hg2 (by omega) (by omega), ((hf.far hg1 (by omega)).far hg2 (by omega)).mono (by omega), hb1.grown hg2 hb1.size (fun k hk => by injection hk with hk; omega)⟩
end

set_option maxHeartbeats 8000000 in
set_option maxRecDepth 100000 in
theorem Inverse_sing (n N : Nat) (a : Option Addr) (cap : Nat) (d : Int) (hd : d = 0) (w : World)
    (hdet : ∀ u, Below w.heap.size w u → Calls Try.prog 48 #[.agg #[.int .i64 n, .int .i64 n, .slice a N cap]] u fun e w' => ∃ v, e = .returned (.tuple #[v, .int .i64 0]) ∧ FrZ w' u.heap.size v d ∧ Below u.heap.size u w') :
    Calls Try.prog 113 #[.agg #[.int .i64 n, .int .i64 n, .slice a N cap]] w fun e w' => e = .returned (.tuple #[.agg #[.int .i64 0, .int .i64 0, .slice none 0 0], .agg #[.bool false, .slice none 0 0], .int .i64 6]) ∧ Below w.heap.size w w' := by
  have HZD := Lib.hid (show ZB 0 d by rw [hd]; exact zb_nil 0)
  have hsd : sgZ d = 0 := by rw [hd]; rfl
  have HSD := Lib.hid hsd
  clear hsd hd
  obtain ⟨hm, hr, hz, hb, hs⟩ := boxes_mmi w n n (.slice a N cap)
  have HM := Lib.hid hm
  have HR := Lib.hid hr
  have HZ := Lib.hid hz
  have HB := Lib.hid hb
  have HS := Lib.hid hs
  have HDT := Lib.hid hdet
  have x0 := hm.m0
  have x1 := hm.m1
  have x2 := hm.m2
  clear hm hr hz hb hs hdet
  go_enter Try.func113, Try.ntmps113
  go_upto_region 1 with fail
  generalize ((w.alloc (.cells #[.int .i64 n, .int .i64 n, .slice a N cap] 24)).alloc (.cells #[.int .i64 0, .int .i64 0, .slice none 0 0] 24)).alloc (.cells #[.bool false, .slice none 0 0] 49) = W at *
  go_wp2_with fail
  (refine (HDT.out W HB.out).mono ?_)
  rintro e w3 ⟨v, rfl, hf3, hb3⟩
  obtain ⟨ad, nd, cd, rfl, hod⟩ := hf3.agg
  rw [HS.out] at hod
  replace HB := Lib.hid (below_via HB.out hb3)
  replace HM := Lib.hid (HM.out.below hb3)
  replace HR := Lib.hid (HR.out.below hb3)
  replace HZ := Lib.hid (HZ.out.below hb3)
  have HF := Lib.hid hf3
  have HOD := Lib.hid hod
  have HSZ := Lib.hid (show w.heap.size + 3 ≤ w3.heap.size by have := HS.out; have := hb3.size; omega)
  have z0 := HZ.out.m0
  have z1 := HZ.out.m1
  have y0 := HZ.out.f0
  have y1 := HZ.out.f1
  clear hb3 hf3 hod HDT HS x0 x1 x2
  go_upto_region 2 with fail
  have hg := stored2_gb w3 (w.heap.size + 2) (.bool (decide (d < 0))) (.slice ad nd cd)
  have hnd : (Value.slice ad nd cd).ownBlock ≠ some (w.heap.size + 2) := fun e => by have := HOD.out _ e; omega
  obtain ⟨w4, hw4⟩ : ∃ w4, w4 = (w3.setCell ⟨w.heap.size + 2, 0, none⟩ (.bool (decide (d < 0)))).setCell ⟨w.heap.size + 2, 1, none⟩ (.slice ad nd cd) := ⟨_, rfl⟩
  have HJ := Lib.hid (show KBox w4 (w.heap.size + 2) d ad nd cd by rw [hw4]; exact HZ.out.iput HF.out hnd)
  replace hg : w3.grownBy w4 (some (w.heap.size + 2)) := by rw [hw4]; exact hg
  replace HR := Lib.hid (HR.out.grown hg (by omega))
  replace HM := Lib.hid (HM.out.grown hg (by omega))
  have hb0 := HB.out
  replace HB := Lib.hid (hb0.grown hg hb0.size (fun k hk => by injection hk with hk; omega))
  replace HOD := Lib.hid (show ∀ k, (Value.slice ad nd cd).ownBlock = some k → k < w4.heap.size from fun k hk => Nat.lt_of_lt_of_le (HOD.out k hk).2 hg.size)
  replace HSZ := Lib.hid (Nat.le_trans HSZ.out hg.size)
  rw [← hw4]
  clear hw4 hg hb0 HZ HF hnd z0 z1 y0 y1
  have z0 := HJ.out.b2.m0
  have z1 := HJ.out.b2.m1
  have HSG := Lib.hid (zSign_any _ d w4 (HJ.out.rd HZD.out (by omega)))
  go_wp2_with fail
  (refine HSG.out.mono ?_)
  rintro e w5 ⟨rfl, hb5⟩
  rw [HSD.out]
  replace HB := Lib.hid (below_via HB.out hb5)
  replace HR := Lib.hid (HR.out.below hb5)
  replace HJ := Lib.hid (HJ.out.below hb5)
  clear HSG hb5 z0 z1 HM HOD HSZ
  have x0 := HR.out.m0
  have x1 := HR.out.m1
  have x2 := HR.out.m2
  have v0 := HR.out.f0
  have v1 := HR.out.f1
  have v2 := HR.out.f2
  have hg1 := stored3_gb w5 (w.heap.size + 1) (.int .i64 0) (.int .i64 0) (.slice none 0 0)
  have hz5 := HJ.out.b2.grown hg1 (by omega)
  have z0 := hz5.m0
  have z1 := hz5.m1
  have y0 := hz5.f0
  have y1 := hz5.f1
  unfold stored3 at z0 z1 y0 y1
  have hb6 := HB.out.grown hg1 HB.out.size (fun k hk => by injection hk with hk; omega)
  have hg2 := stored2_gb (stored3 w5 (w.heap.size + 1) (.int .i64 0) (.int .i64 0) (.slice none 0 0)) (w.heap.size + 2) (.bool false) (.slice none 0 0)
  have HBF := Lib.hid (hb6.grown hg2 hb6.size (fun k hk => by injection hk with hk; omega))
  have hmf := (HR.out.store (r' := 0) (c' := 0) (v' := .slice none 0 0)).grown hg2 (by omega)
  have hzf := hz5.store (s' := false) (v' := .slice none 0 0)
  have p0 := hmf.m0
  have p1 := hmf.m1
  have p2 := hmf.m2
  have q0 := hzf.m0
  have q1 := hzf.m1
  unfold stored2 stored3 at p0 p1 p2 q0 q1
  clear hg1 hg2 hz5 hb6 hmf hzf HJ
  go_wp2_with fail
  refine bodyPost_ret (v := .tuple #[.agg #[.int .i64 0, .int .i64 0, .slice none 0 0], .agg #[.bool false, .slice none 0 0], .int .i64 6]) ?_ rfl ⟨rfl, HBF.out⟩
  simp [results, Try.results113, go_sem, p0, p1, p2, q0, q1]

set_option maxHeartbeats 8000000 in
set_option maxRecDepth 100000 in
theorem Inverse_pos (n N T : Nat) (a : Option Addr) (cap : Nat) (d g : Int) (G : Nat → Int) (w : World) (hN4 : N ≤ 4096) (hT : T ≤ 274877906944) (hd : 0 < d) (hdz : ZB T d) (hGz : ∀ q, q < N → ZB T (G q)) (hg : (Int.gcd d (gcdS N G : Int) : Int) = g)
    (hdet : ∀ u, Below w.heap.size w u → Calls Try.prog 48 #[.agg #[.int .i64 n, .int .i64 n, .slice a N cap]] u fun e w' => ∃ v, e = .returned (.tuple #[v, .int .i64 0]) ∧ FrZ w' u.heap.size v d ∧ Below u.heap.size u w')
    (hadj : ∀ u, Below w.heap.size w u → Calls Try.prog 49 #[.agg #[.int .i64 n, .int .i64 n, .slice a N cap]] u fun e w' => ∃ lb, e = .returned (.tuple #[.agg #[.int .i64 n, .int .i64 n, .slice (some ⟨lb, 0, none⟩) N N], .int .i64 0]) ∧ FrE w' u.heap.size (fun b => b ≤ lb) lb N G ∧ Below u.heap.size u w') :
    Calls Try.prog 113 #[.agg #[.int .i64 n, .int .i64 n, .slice a N cap]] w fun e w' => ∃ lb v, e = .returned (.tuple #[.agg #[.int .i64 n, .int .i64 n, .slice (some ⟨lb, 0, none⟩) N N], v, .int .i64 0]) ∧ FrE w' w.heap.size (fun b => b ≤ lb) lb N (fun q => G q / g) ∧ FrZ w' w.heap.size v (d / g) ∧ Below w.heap.size w w' := by
  have hmix : Try.prog.follows .mixedOrders = true := by kernel_rfl
  have HSD := Lib.hid (show sgZ d = 1 by unfold sgZ; rw [if_neg (by omega)]; first | rw [if_neg (by omega)] | rw [if_pos (by omega)])
  have HDZ := Lib.hid hdz
  have HGZ := Lib.hid hGz
  have HT := Lib.hid hT
  have HAD := Lib.hid hadj
  have hgp := Int.gcd_pos_of_ne_zero_left (b := (gcdS N G : Int)) (show d ≠ 0 by omega)
  have hg0 : 0 < g := by rw [← hg]; omega
  have hgd : g ∣ d := by rw [← hg]; exact Int.gcd_dvd_left ..
  have hgG : ∀ q, q < N → g ∣ G q := fun q hq => Int.dvd_trans (by rw [← hg]; exact Int.gcd_dvd_right ..) (gcdS_dvd hq)
  have hgz : ZB T g := zb_le hdz (Nat.le_of_dvd (by omega) (Int.natAbs_dvd_natAbs.2 hgd))
  have HG0 := Lib.hid (show g ≠ 0 by omega)
  have HDD := Lib.hid hgd
  have HGD := Lib.hid hgG
  have HGG := Lib.hid hgz
  have HEG := Lib.hid hg
  clear hdz hGz hT hadj hgp hg0 hgd hgG hgz hd hg
  obtain ⟨hm, hr, hz, hb, hs⟩ := boxes_mmi w n n (.slice a N cap)
  have HM := Lib.hid hm
  have HR := Lib.hid hr
  have HZ := Lib.hid hz
  have HB := Lib.hid hb
  have HS := Lib.hid hs
  have HDT := Lib.hid hdet
  have x0 := hm.m0
  have x1 := hm.m1
  have x2 := hm.m2
  clear hm hr hz hb hs hdet
  go_enter Try.func113, Try.ntmps113
  go_upto_region 1 with fail
  generalize ((w.alloc (.cells #[.int .i64 n, .int .i64 n, .slice a N cap] 24)).alloc (.cells #[.int .i64 0, .int .i64 0, .slice none 0 0] 24)).alloc (.cells #[.bool false, .slice none 0 0] 49) = W at *
  go_wp2_with fail
  (refine (HDT.out W HB.out).mono ?_)
  rintro e w3 ⟨v, rfl, hf3, hb3⟩
  obtain ⟨ad, nd, cd, rfl, hod⟩ := hf3.agg
  rw [HS.out] at hod
  replace HB := Lib.hid (below_via HB.out hb3)
  replace HM := Lib.hid (HM.out.below hb3)
  replace HR := Lib.hid (HR.out.below hb3)
  replace HZ := Lib.hid (HZ.out.below hb3)
  have HF := Lib.hid hf3
  have HOD := Lib.hid hod
  have HSZ := Lib.hid (show w.heap.size + 3 ≤ w3.heap.size by have := HS.out; have := hb3.size; omega)
  have z0 := HZ.out.m0
  have z1 := HZ.out.m1
  have y0 := HZ.out.f0
  have y1 := HZ.out.f1
  clear hb3 hf3 hod HDT HS x0 x1 x2
  go_upto_region 2 with fail
  have hg := stored2_gb w3 (w.heap.size + 2) (.bool (decide (d < 0))) (.slice ad nd cd)
  have hnd : (Value.slice ad nd cd).ownBlock ≠ some (w.heap.size + 2) := fun e => by have := HOD.out _ e; omega
  obtain ⟨w4, hw4⟩ : ∃ w4, w4 = (w3.setCell ⟨w.heap.size + 2, 0, none⟩ (.bool (decide (d < 0)))).setCell ⟨w.heap.size + 2, 1, none⟩ (.slice ad nd cd) := ⟨_, rfl⟩
  have HJ := Lib.hid (show KBox w4 (w.heap.size + 2) d ad nd cd by rw [hw4]; exact HZ.out.iput HF.out hnd)
  replace hg : w3.grownBy w4 (some (w.heap.size + 2)) := by rw [hw4]; exact hg
  replace HR := Lib.hid (HR.out.grown hg (by omega))
  replace HM := Lib.hid (HM.out.grown hg (by omega))
  have hb0 := HB.out
  replace HB := Lib.hid (hb0.grown hg hb0.size (fun k hk => by injection hk with hk; omega))
  replace HOD := Lib.hid (show ∀ k, (Value.slice ad nd cd).ownBlock = some k → k < w4.heap.size from fun k hk => Nat.lt_of_lt_of_le (HOD.out k hk).2 hg.size)
  replace HSZ := Lib.hid (Nat.le_trans HSZ.out hg.size)
  rw [← hw4]
  clear hw4 hg hb0 HZ HF hnd z0 z1 y0 y1
  have z0 := HJ.out.b2.m0
  have z1 := HJ.out.b2.m1
  have HSG := Lib.hid (zSign_any _ d w4 (HJ.out.rd HDZ.out HT.out))
  rw [HSD.out] at HSG
  go_wp2_with fail
  (refine HSG.out.mono ?_)
  rintro e w5 ⟨rfl, hb5⟩
  replace HB := Lib.hid (below_via HB.out hb5)
  replace HM := Lib.hid (HM.out.below hb5)
  replace HR := Lib.hid (HR.out.below hb5)
  replace HJ := Lib.hid (HJ.out.below hb5)
  replace HOD := Lib.hid (show ∀ k, (Value.slice ad nd cd).ownBlock = some k → k < w5.heap.size from fun k hk => Nat.lt_of_lt_of_le (HOD.out k hk) hb5.size)
  replace HSZ := Lib.hid (Nat.le_trans HSZ.out hb5.size)
  clear HSG hb5 z0 z1
  have x0 := HM.out.m0
  have x1 := HM.out.m1
  have x2 := HM.out.m2
  go_wp2_with fail
  (refine (HAD.out w5 HB.out).mono ?_)
  rintro e w6 ⟨lb, rfl, hf6, hb6⟩
  have hba := bl_alloc w6 (.cells #[.int .i64 n, .int .i64 n, .slice (some ⟨lb, 0, none⟩) N N] 24)
  have hb7 := below_via hb6 hba
  have hl6 := hf6.own
  have hl7 := hf6.lt
  have HLR := Lib.hid (show w.heap.size + 2 < lb by have := HSZ.out; omega)
  have HNZ := Lib.hid (show (Value.slice ad nd cd).ownBlock ≠ some lb from fun e => by have := HOD.out _ e; omega)
  have HP := Lib.hid ((hf6.mono HB.out.size).below hba)
  have HAM := Lib.hid (MBox.new w6 n n (.slice (some ⟨lb, 0, none⟩) N N))
  replace HOD := Lib.hid (show ∀ k, (Value.slice ad nd cd).ownBlock = some k → k < (w6.alloc (.cells #[.int .i64 n, .int .i64 n, .slice (some ⟨lb, 0, none⟩) N N] 24)).heap.size from fun k hk => Nat.lt_of_lt_of_le (HOD.out k hk) hb7.size)
  replace HB := Lib.hid (below_via HB.out hb7)
  replace HR := Lib.hid (HR.out.below hb7)
  replace HJ := Lib.hid (HJ.out.below hb7)
  have HLA := Lib.hid (show lb < w6.heap.size ∧ w6.heap.size < (w6.alloc (.cells #[.int .i64 n, .int .i64 n, .slice (some ⟨lb, 0, none⟩) N N] 24)).heap.size from ⟨hl7, by simp⟩)
  clear hf6 hb6 hba hb7 hl6 hl7 HAD HM HSZ x0 x1 x2
  go_upto_region 8 with fail
  obtain ⟨ab, hab⟩ : ∃ ab, ab = w6.heap.size := ⟨_, rfl⟩
  rw [← hab] at HAM HLA ⊢
  clear hab
  generalize w6.alloc (.cells #[.int .i64 n, .int .i64 n, .slice (some ⟨lb, 0, none⟩) N N] 24) = w7 at *
  go_cut [6] (fun v wx => ∃ q, v = .pointer (some ⟨q, 0, none⟩) ∧ BoxZ w7 wx q g)
  case first =>
    have d0 := HJ.out.b2.m0
    have d1 := HJ.out.b2.m1
    have a2 := HAM.out.m2
    have hSK : ∀ u, Below w7.heap.size w7 u → (u.cell? ⟨w.heap.size + 2, 0, none⟩ = some (.bool (decide (d < 0))) ∧ u.cell? ⟨w.heap.size + 2, 1, none⟩ = some (.slice ad nd cd) ∧ u.cell? ⟨ab, 2, none⟩ = some (.slice (some ⟨lb, 0, none⟩) N N)) := fun u hu => ⟨cell_stays hu d0, cell_stays hu d1, cell_stays hu a2⟩
    have HSK := Lib.hid hSK
    have HK1 := Lib.hid (fun (u : World) (hu : Below w7.heap.size w7 u) => GcdAll_any _ N G u ((HP.out.rd (Nat.le_refl _) (by omega)).below hu))
    have hk2 := fun (u : World) (v : Value) (hu : Below w7.heap.size w7 u) (hv : RdZ u v (gcdS N G : Int)) => bGcd_any _ v d (gcdS N G : Int) u ((HJ.out.rd HDZ.out HT.out).below hu) hv
    rw [HEG.out] at hk2
    have HK2 := Lib.hid hk2
    have HG := Lib.hid (gcdS_zb HGZ.out)
    have HGT := HT
    clear hSK hk2
    refine region_early (fun u => u.cell? ⟨w.heap.size + 2, 0, none⟩ = some (.bool (decide (d < 0))) ∧ u.cell? ⟨w.heap.size + 2, 1, none⟩ = some (.slice ad nd cd) ∧ u.cell? ⟨ab, 2, none⟩ = some (.slice (some ⟨lb, 0, none⟩) N N)) 6 [0, 1, 2] 4 hmix (by kernel_rfl) rfl (by kernel_rfl) (fun _ _ d _ _ h => by cases d <;> exact h) ⟨d0, d1, a2⟩ ?_
    iterate 3 (refine early_take rfl (by rfl) ?_; apply Exists.intro; refine ⟨fun u hu => ?_, ?_⟩; (obtain ⟨u_1, u_2, u_3⟩ := hu; go_simp; rfl); simp only [Act.put, List.getElem_toArray, List.getElem_cons_zero, List.getElem_cons_succ, List.setIfInBounds_toArray, List.set_cons_zero, List.set_cons_succ])
    refine early_done ?_
    simp only [marked]
    have HBW := Lib.hid (bl_drew w7)
    clear d0 d1 a2
    refine anyL_two (i := 3) (j := 5) (by kernel_rfl) rfl (by rfl) rfl (by rfl) (fun J hJ => ?_) (fun J hJ => ?_)
    · go_simp
      refine (HK1.out _ HBW.out).mono ?_
      rintro e ug1 ⟨vg, rfl, hfg, hbg⟩
      have HRG := Lib.hid (hfg.rd HG.out HGT.out)
      replace HBW := Lib.hid (below_via HBW.out hbg)
      have HQW1 := Lib.hid HBW.out.size
      refine hJ _ _ (fun _ => HSK.out _ HBW.out) ?_
      clear hJ J hfg hbg
      refine anyL_two (i := 4) (j := 5) (by kernel_rfl) rfl (by rfl) rfl (by rfl) (fun J hJ => ?_) (fun J hJ => ?_)
      · go_simp
        refine (HK2.out _ _ HBW.out HRG.out).mono ?_
        rintro e ug2 ⟨vz, rfl, hfz, hbz⟩
        obtain ⟨az, nz, cz, rfl, -⟩ := hfz.agg
        have HFZ := Lib.hid hfz
        replace HBW := Lib.hid (below_via HBW.out hbz)
        have HFB := Lib.hid HQW1.out
        refine hJ _ _ (fun _ => HSK.out _ HBW.out) ?_
        clear hJ J hfz hbz
        refine anyL_one (i := 5) (by kernel_rfl) rfl (by rfl) fun J hJ => ?_
        go_simp
        have hbo := bl_alloc ug2 (.cells #[.bool false, .slice none 0 0] 49)
        have HQ := Lib.hid (ZBox.new ug2 false (.slice none 0 0))
        have HQW := Lib.hid (show w7.heap.size ≤ ug2.heap.size from HBW.out.size)
        have HQU := Lib.hid (show ug2.heap.size < (ug2.alloc (.cells #[.bool false, .slice none 0 0] 49)).heap.size by simp)
        have HFZ2 := Lib.hid ((HFZ.out.mono HFB.out).offb hbo (Nat.le_refl _))
        replace HBW := Lib.hid (below_via HBW.out hbo)
        obtain ⟨q, hq⟩ : ∃ q, q = ug2.heap.size := ⟨_, rfl⟩
        rw [← hq] at HQ HQW HQU ⊢
        rw [← hq] at HFZ2
        generalize ug2.alloc (.cells #[.bool false, .slice none 0 0] 49) = ug3 at *
        clear hq
        refine hJ _ _ (fun _ => HSK.out _ HBW.out) ?_
        clear hJ J hbo
        have z0 := HQ.out.m0
        have z1 := HQ.out.m1
        have y0 := HQ.out.f0
        have y1 := HQ.out.f1
        refine anyL_one (i := 6) (by kernel_rfl) rfl (by rfl) fun J hJ => ?_
        go_simp
        refine hJ _ _ (fun e => absurd e (by decide)) ?_
        clear hJ J
        refine anyL_done (by kernel_rfl) ?_ _
        go_wp2_with fail
        go_meet
        exact ⟨q, rfl, boxZ_mk HBW.out HQW.out HQ.out (HFZ2.out _ (stored2_gb _ _ _ _)) HQU.out⟩
      · go_simp
        have hbo := bl_alloc ug1 (.cells #[.bool false, .slice none 0 0] 49)
        have HQ := Lib.hid (ZBox.new ug1 false (.slice none 0 0))
        have HQW := Lib.hid (show w7.heap.size ≤ ug1.heap.size from HBW.out.size)
        have HQU := Lib.hid (show ug1.heap.size < (ug1.alloc (.cells #[.bool false, .slice none 0 0] 49)).heap.size by simp)
        replace HRG := Lib.hid (HRG.out.below hbo)
        replace HBW := Lib.hid (below_via HBW.out hbo)
        obtain ⟨q, hq⟩ : ∃ q, q = ug1.heap.size := ⟨_, rfl⟩
        rw [← hq] at HQ HQW HQU ⊢
        generalize ug1.alloc (.cells #[.bool false, .slice none 0 0] 49) = ug4 at *
        clear hq
        refine hJ _ _ (fun _ => HSK.out _ HBW.out) ?_
        clear hJ J hbo
        refine anyL_one (i := 4) (by kernel_rfl) rfl (by rfl) fun J hJ => ?_
        go_simp
        refine (HK2.out _ _ HBW.out HRG.out).mono ?_
        rintro e ug5 ⟨vz, rfl, hfz, hbz⟩
        obtain ⟨az, nz, cz, rfl, -⟩ := hfz.agg
        have HFZ := Lib.hid hfz
        replace HBW := Lib.hid (below_via HBW.out hbz)
        have HFB := Lib.hid HQU.out
        have HQ' := Lib.hid (HQ.out.below hbz)
        replace HQU := Lib.hid (Nat.lt_of_lt_of_le HQU.out hbz.size)
        clear HQ
        have HQ := HQ'
        clear HQ'
        refine hJ _ _ (fun _ => HSK.out _ HBW.out) ?_
        clear hJ J hfz hbz
        have z0 := HQ.out.m0
        have z1 := HQ.out.m1
        have y0 := HQ.out.f0
        have y1 := HQ.out.f1
        refine anyL_one (i := 6) (by kernel_rfl) rfl (by rfl) fun J hJ => ?_
        go_simp
        refine hJ _ _ (fun e => absurd e (by decide)) ?_
        clear hJ J
        refine anyL_done (by kernel_rfl) ?_ _
        go_wp2_with fail
        go_meet
        exact ⟨q, rfl, boxZ_mk HBW.out HQW.out HQ.out ((HFZ.out.far (stored2_gb _ _ _ _) HFB.out).mono (Nat.le_trans HQW.out (Nat.le_of_lt HFB.out))) HQU.out⟩
    · go_simp
      have hbo := below_via (bl_alloc w7 (.cells #[.bool false, .slice none 0 0] 49)) (bl_drew _)
      have HQ := Lib.hid ((ZBox.new w7 false (.slice none 0 0)).below (bl_drew _))
      have HQW := Lib.hid (Nat.le_refl w7.heap.size)
      have HQU := Lib.hid (show w7.heap.size < ((w7.alloc (.cells #[.bool false, .slice none 0 0] 49)).drew).heap.size by show _ < (w7.alloc (.cells #[.bool false, .slice none 0 0] 49)).heap.size; simp)
      replace HBW := Lib.hid hbo
      obtain ⟨q, hq⟩ : ∃ q, q = w7.heap.size := ⟨_, rfl⟩
      have HQQ := Lib.hid (show w7.heap.size ≤ q by omega)
      have hqr : w7.heap.size = q := hq.symm
      replace HQ := Lib.hid (hqr ▸ HQ.out)
      replace HQU := Lib.hid (hqr ▸ HQU.out)
      rw [hqr]
      replace HQW := HQQ
      clear hqr HQQ hq
      generalize (w7.alloc (.cells #[.bool false, .slice none 0 0] 49)).drew = ug9 at *
      refine hJ _ _ (fun _ => HSK.out _ HBW.out) ?_
      clear hJ J hbo
      refine anyL_one (i := 3) (by kernel_rfl) rfl (by rfl) fun J hJ => ?_
      go_simp
      refine (HK1.out _ HBW.out).mono ?_
      rintro e ug6 ⟨vg, rfl, hfg, hbg⟩
      have HRG := Lib.hid (hfg.rd HG.out HGT.out)
      replace HBW := Lib.hid (below_via HBW.out hbg)
      have HQ' := Lib.hid (HQ.out.below hbg)
      replace HQU := Lib.hid (Nat.lt_of_lt_of_le HQU.out hbg.size)
      clear HQ
      have HQ := HQ'
      clear HQ'
      refine hJ _ _ (fun _ => HSK.out _ HBW.out) ?_
      clear hJ J hfg hbg
      refine anyL_one (i := 4) (by kernel_rfl) rfl (by rfl) fun J hJ => ?_
      go_simp
      refine (HK2.out _ _ HBW.out HRG.out).mono ?_
      rintro e ug7 ⟨vz, rfl, hfz, hbz⟩
      obtain ⟨az, nz, cz, rfl, -⟩ := hfz.agg
      have HFZ := Lib.hid hfz
      replace HBW := Lib.hid (below_via HBW.out hbz)
      have HFB := Lib.hid HQU.out
      have HQ' := Lib.hid (HQ.out.below hbz)
      replace HQU := Lib.hid (Nat.lt_of_lt_of_le HQU.out hbz.size)
      clear HQ
      have HQ := HQ'
      clear HQ'
      refine hJ _ _ (fun _ => HSK.out _ HBW.out) ?_
      clear hJ J hfz hbz
      have z0 := HQ.out.m0
      have z1 := HQ.out.m1
      have y0 := HQ.out.f0
      have y1 := HQ.out.f1
      refine anyL_one (i := 6) (by kernel_rfl) rfl (by rfl) fun J hJ => ?_
      go_simp
      refine hJ _ _ (fun e => absurd e (by decide)) ?_
      clear hJ J
      refine anyL_done (by kernel_rfl) ?_ _
      go_wp2_with fail
      go_meet
      exact ⟨q, rfl, boxZ_mk HBW.out HQW.out HQ.out ((HFZ.out.far (stored2_gb _ _ _ _) HFB.out).mono (Nat.le_trans HQW.out (Nat.le_of_lt HFB.out))) HQU.out⟩
  case rest =>
  obtain ⟨gb, rfl, hbz⟩ := hcut
  obtain ⟨w8, hw8⟩ : ∃ x, x = wc := ⟨_, rfl⟩
  subst hw8
  obtain ⟨hb8, hq8, hq9, ag, ng, cg, hib, hog⟩ := hbz.ibox
  have hla := HLA.out
  have HST := Lib.hid (show IvR w w8 n N ab gb lb d g ad nd cd ag ng cg G from
    { below := below_via HB.out hb8, r := HR.out.below hb8, z := HJ.out.below hb8, a := HAM.out.below hb8, g := hib
      p := (HP.out.turnD (D' := fun b => b ≤ lb ∨ b = gb) (fun b hb hn hd => by rcases hd with hd | hd; exact hn hd; omega)).below hb8
      lr := HLR.out, la := hla.1, lg := by omega, ane := by omega, oz := HNZ.out, og := fun e => by have := hog _ e; omega
      ozg := fun e => by have := HOD.out _ e; omega })
  have HGB := Lib.hid hq9
  clear hbz hb8 hq8 hq9 hib hog hla HB HR HJ HAM HP HLR HNZ HOD HLA
  have HSG := Lib.hid (zSign_any _ d w8 (HST.out.z.rd HDZ.out HT.out))
  rw [HSD.out] at HSG
  have z0 := HST.out.z.b2.m0
  have z1 := HST.out.z.b2.m1
  go_wp2_with fail
  (refine HSG.out.mono ?_)
  rintro e w9 ⟨rfl, hb9⟩
  replace HST := Lib.hid (HST.out.on hb9)
  replace HGB := Lib.hid (Nat.lt_of_lt_of_le HGB.out hb9.size)
  clear hb9 HSG z0 z1
  have a2s := HST.out.a.m2
  go_wp2_with fail
  clear a2s
  go_loopw [47] (fun iv wr => ∃ i : Nat, i ≤ N ∧ iv = .int .i64 i ∧ IvR w wr n N ab gb lb d g ad nd cd ag ng cg (fun q => if q < i then G q / g else G q)) (fun iv _ => N - (intOf iv).toNat)
  case atStart => exact ⟨0, Nat.zero_le _, rfl, HST.out.congr (fun q _ => by rw [if_neg (Nat.not_lt_zero q)])⟩
  case round =>
    clear HST
    obtain ⟨i, hi, rfl, hrel⟩ := hrel
    by_cases hiN : i < N
    · have hi1 : (i : Int) < (N : Int) := by omega
      have wk : IntKind.i64.wrap ((i : Int) + 1) = (i : Int) + 1 := IntWalk.i64_in _ (by omega)
      obtain ⟨s1, m1, c1, c2, c3, c4⟩ := hrel.p.cells i hiN
      obtain ⟨a1, n1, p1, rfl⟩ := c3.agg
      have c5 : RdZ wr (.agg #[.bool s1, .slice a1 n1 p1]) (G i) := by
        have := c3.1
        rwa [if_neg (Nat.lt_irrefl i)] at this
      have hbx := bl_alloc wr (.cells #[.bool s1, .slice a1 n1 p1] 49)
      obtain ⟨x0, x1, -, -⟩ := two_cells wr (.bool s1) (.slice a1 n1 p1) 49
      have HX := Lib.hid (c5.below hbx)
      have HREL := Lib.hid (hrel.on hbx)
      clear hrel c3 c4 c5 hbx
      go_upto_region 15 with fail
      obtain ⟨xb, hxb⟩ : ∃ xb, xb = wr.heap.size := ⟨_, rfl⟩
      rw [← hxb] at x0 x1 ⊢
      clear hxb c1 c2
      generalize wr.alloc (.cells #[.bool s1, .slice a1 n1 p1] 49) = wq at *
      have a2 := HREL.out.a.m2
      have g0 := HREL.out.g.b2.m0
      have g1 := HREL.out.g.b2.m1
      have HLT := Lib.hid (World.block_lt_of_cell? _ _ g0)
      refine region_early (fun u => u.cell? ⟨ab, 2, none⟩ = some (.slice (some ⟨lb, 0, none⟩) N N) ∧ u.cell? ⟨xb, 0, none⟩ = some (.bool s1) ∧ u.cell? ⟨xb, 1, none⟩ = some (.slice a1 n1 p1) ∧ u.cell? ⟨gb, 0, none⟩ = some (.bool (decide (g < 0))) ∧ u.cell? ⟨gb, 1, none⟩ = some (.slice ag ng cg)) 9 [0, 1, 2, 3, 4] 6 hmix (by kernel_rfl) rfl (by kernel_rfl) (fun _ _ d _ _ h => by cases d <;> exact h) ⟨a2, x0, x1, g0, g1⟩ ?_
      iterate 5 (refine early_take rfl (by rfl) ?_; apply Exists.intro; refine ⟨fun u hu => ?_, ?_⟩; (obtain ⟨u_1, u_2, u_3, u_4, u_5⟩ := hu; go_simp; rfl); simp only [Act.put, List.getElem_toArray, List.getElem_cons_zero, List.getElem_cons_succ, List.setIfInBounds_toArray, List.set_cons_zero, List.set_cons_succ])
      refine early_done ?_
      simp only [marked]
      refine anyL_one (i := 5) (by kernel_rfl) rfl (by rfl) fun J hJ => ?_
      go_simp
      refine (zExact_any _ _ (G i) (g) wq.drew HG0.out (HGD.out i hiN) (HX.out.below (bl_drew _)) ((HREL.out.g.rd HGG.out HT.out).below (bl_drew _))).mono ?_
      rintro e wt ⟨v, rfl, hf, hb⟩
      have hb' := below_via (bl_drew wq) hb
      have hS := And.intro (cell_stays hb' a2) (And.intro (cell_stays hb' x0) (And.intro (cell_stays hb' x1) (And.intro (cell_stays hb' g0) (cell_stays hb' g1))))
      have hrel2 := HREL.out.on hb'
      obtain ⟨u1, u2, y0, y1, y2, y3⟩ := hrel2.p.ready hiN
      obtain ⟨s7, a7, n7, p7, rfl, hp7⟩ := hrel2.p.putz hiN (Or.inl (Nat.le_refl _)) hf (div_zb HG0.out (HGD.out i hiN) (HGZ.out i hiN)) HT.out (fun b h1 h2 h3 => by
        have h4 : wq.heap.size ≤ b := h1
        have h5 : gb < wq.heap.size := HLT.out
        have h6 := HREL.out.lg
        rcases h3 with h3 | h3 <;> omega)
      refine hJ _ _ (fun _ => hS) ?_
      have HREL3 := Lib.hid ((hrel2.turn (gb_two wt lb (i * 2) (i * 2 + 1) (.bool s7) (.slice a7 n7 p7)) hp7).congr (F' := fun q => if q < i + 1 then G q / g else G q) (fun q _ => by
        by_cases e : q = i
        · rw [if_pos e, if_pos (by omega), e]
        · rw [if_neg e]
          by_cases e2 : q < i
          · rw [if_pos e2, if_pos (by omega)]
          · rw [if_neg e2, if_neg (by omega)]))
      clear hJ J hf hb hb' hrel2 hp7 HX HREL a2 x0 x1 g0 g1
      refine anyL_yield (i := 6) rfl (by kernel_rfl) (by kernel_rfl) (by kernel_rfl) (by kernel_rfl) (fun _ _ d _ _ h => by cases d <;> exact h) (by rfl) hS ?_
      apply Exists.intro
      refine ⟨fun u => ?_, ?_⟩
      · go_simp
        rfl
      simp only [Act.put, List.getElem_toArray, List.getElem_cons_zero, List.getElem_cons_succ, List.setIfInBounds_toArray, List.set_cons_zero, List.set_cons_succ]
      refine anyL_yield (i := 7) rfl (by kernel_rfl) (by kernel_rfl) (by kernel_rfl) (by kernel_rfl) (fun _ _ d _ _ h => by cases d <;> exact h) (by rfl) hS ?_
      apply Exists.intro
      refine ⟨fun u => ?_, ?_⟩
      · go_simp
        rfl
      simp only [Act.put, List.getElem_toArray, List.getElem_cons_zero, List.getElem_cons_succ, List.setIfInBounds_toArray, List.set_cons_zero, List.set_cons_succ]
      refine anyL_yield (i := 8) rfl (by kernel_rfl) (by kernel_rfl) (by kernel_rfl) (by kernel_rfl) (fun _ _ d _ _ h => by cases d <;> exact h) (by rfl) hS ?_
      apply Exists.intro
      refine ⟨fun u => ?_, ?_⟩
      · go_simp
        rfl
      simp only [Act.put, List.getElem_toArray, List.getElem_cons_zero, List.getElem_cons_succ, List.setIfInBounds_toArray, List.set_cons_zero, List.set_cons_succ]
      refine anyL_one (i := 9) (by kernel_rfl) rfl (by rfl) fun J hJ => ?_
      go_simp
      refine hJ _ _ (fun e => absurd e (by decide)) ?_
      clear hJ J
      refine anyL_one (i := 10) (by kernel_rfl) rfl (by rfl) fun J hJ => ?_
      go_simp
      refine hJ _ _ (fun e => absurd e (by decide)) ?_
      clear hJ J
      refine anyL_done (by kernel_rfl) ?_ _
      clear hS y2 y3 y0 y1
      go_wp2_with fail
      go_roundw
      case rel => exact ⟨i + 1, by omega, by go_num, HREL3.out⟩
      case measure => simp [intOf]; omega
    · obtain rfl : N = i := by omega
      have HREL := Lib.hid (hrel.congr (F' := fun q => G q / g) (fun q hq => by rw [if_pos hq]))
      clear hrel
      have z0 := HREL.out.z.b2.m0
      have z1 := HREL.out.z.b2.m1
      have g0 := HREL.out.g.b2.m0
      have g1 := HREL.out.g.b2.m1
      have y0 := HREL.out.z.b2.f0
      have y1 := HREL.out.z.b2.f1
      go_wp2_with fail
      (refine (zExact_any _ _ d (g) wr HG0.out HDD.out (HREL.out.z.rd HDZ.out HT.out) (HREL.out.g.rd HGG.out HT.out)).mono ?_)
      rintro e wt ⟨v, rfl, hf, hb⟩
      obtain ⟨am, an, ac, rfl, -⟩ := hf.agg
      obtain ⟨q1, q2, q3, q4, q5, q6⟩ := (HREL.out.on hb).out hf (Nat.lt_trans HREL.out.lg (World.block_lt_of_cell? _ _ g0))
      have h7 : w.heap.size + 2 < lb ∧ lb < wr.heap.size := ⟨HREL.out.lr, Nat.lt_trans HREL.out.lg (World.block_lt_of_cell? _ _ g0)⟩
      have HN := Lib.hid h7
      replace y0 := froz_stays hb z0 y0
      replace y1 := froz_stays hb z1 y1
      replace z0 := cell_stays hb z0
      replace z1 := cell_stays hb z1
      unfold stored2 at q1 q2 q3 q4 q5 q6
      have HQ := Lib.hid (And.intro q4 (And.intro q5 q6))
      have HQ1 := Lib.hid q1
      have HQ2 := Lib.hid q2
      have HQ3 := Lib.hid q3
      clear q1 q2 q3 q4 q5 q6 h7 hf hb HREL g0 g1
      go_upto_region 18 with fail
      generalize (wt.setCell ⟨w.heap.size + 2, 0, none⟩ (.bool (decide (d / g < 0)))).setCell ⟨w.heap.size + 2, 1, none⟩ (.slice am an ac) = wu at *
      clear z0 z1 y0 y1
      refine region_early (fun _ => True) 0 [] 5 hmix (by kernel_rfl) rfl (by kernel_rfl) (fun _ _ d _ _ h => by cases d <;> exact h) trivial ?_
      refine early_done ?_
      simp only [marked]
      have hbd := bl_drew wu
      have HF := Lib.hid (inv_end (n := n) (HQ1.out.below hbd) (HQ2.out.below hbd) (HQ.out.1.below hbd) (HQ.out.2.1.below hbd) (below_via HQ.out.2.2 hbd) HN.out.1 HN.out.2)
      have s0 := (HQ3.out.below hbd).m0
      have s1 := (HQ3.out.below hbd).m1
      have s2 := (HQ3.out.below hbd).m2
      have x0 := (HQ2.out.below hbd).m0
      have x1 := (HQ2.out.below hbd).m1
      have x2 := (HQ2.out.below hbd).m2
      have v0 := (HQ2.out.below hbd).f0
      have v1 := (HQ2.out.below hbd).f1
      have v2 := (HQ2.out.below hbd).f2
      have t0 := (HQ1.out.below hbd).m0
      have t1 := (HQ1.out.below hbd).m1
      clear HQ HQ1 HQ2 HQ3 hbd
      generalize wu.drew = wD at *
      have z0 := HF.out.2.1.m0
      have z1 := HF.out.2.1.m1
      have y0 := HF.out.2.1.f0
      have y1 := HF.out.2.1.f1
      have p0 := HF.out.1.m0
      have p1 := HF.out.1.m1
      have p2 := HF.out.1.m2
      have q0 := HF.out.2.2.1.m0
      have q1 := HF.out.2.2.1.m1
      unfold stored3 at z0 z1 y0 y1
      unfold stored2 stored3 at p0 p1 p2 q0 q1
      refine anyL_two (i := 0) (j := 1) (by kernel_rfl) rfl (by rfl) rfl (by rfl) (fun J hJ => ?_) (fun J hJ => ?_)
      · go_simp
        refine hJ _ _ (fun e => absurd e (by decide)) ?_
        clear hJ J
        refine anyL_two (i := 1) (j := 2) (by kernel_rfl) rfl (by rfl) rfl (by rfl) (fun J hJ => ?_) (fun J hJ => ?_)
        · go_simp
          refine hJ _ _ (fun e => absurd e (by decide)) ?_
          clear hJ J
          refine anyL_one (i := 2) (by kernel_rfl) rfl (by rfl) fun J hJ => ?_
          go_simp
          refine hJ _ _ (fun e => absurd e (by decide)) ?_
          clear hJ J
          refine anyL_one (i := 3) (by kernel_rfl) rfl (by rfl) fun J hJ => ?_
          go_simp
          refine hJ _ _ (fun e => absurd e (by decide)) ?_
          clear hJ J
          refine anyL_one (i := 4) (by kernel_rfl) rfl (by rfl) fun J hJ => ?_
          go_simp
          refine hJ _ _ (fun e => absurd e (by decide)) ?_
          clear hJ J
          refine anyL_done (by kernel_rfl) ?_ _
          go_wp2_with fail
          refine bodyPost_ret (v := .tuple #[.agg #[.int .i64 n, .int .i64 n, .slice (some ⟨lb, 0, none⟩) N N], .agg #[.bool (decide (d / g < 0)), .slice am an ac], .int .i64 0]) ?_ rfl ⟨lb, _, rfl, HF.out.2.2.2.1, HF.out.2.2.2.2.1, HF.out.2.2.2.2.2⟩
          simp [results, Try.results113, go_sem, p0, p1, p2, q0, q1]
        · go_simp
          refine hJ _ _ (fun e => absurd e (by decide)) ?_
          clear hJ J
          refine anyL_one (i := 1) (by kernel_rfl) rfl (by rfl) fun J hJ => ?_
          go_simp
          refine hJ _ _ (fun e => absurd e (by decide)) ?_
          clear hJ J
          refine anyL_one (i := 3) (by kernel_rfl) rfl (by rfl) fun J hJ => ?_
          go_simp
          refine hJ _ _ (fun e => absurd e (by decide)) ?_
          clear hJ J
          refine anyL_one (i := 4) (by kernel_rfl) rfl (by rfl) fun J hJ => ?_
          go_simp
          refine hJ _ _ (fun e => absurd e (by decide)) ?_
          clear hJ J
          refine anyL_done (by kernel_rfl) ?_ _
          go_wp2_with fail
          refine bodyPost_ret (v := .tuple #[.agg #[.int .i64 n, .int .i64 n, .slice (some ⟨lb, 0, none⟩) N N], .agg #[.bool (decide (d / g < 0)), .slice am an ac], .int .i64 0]) ?_ rfl ⟨lb, _, rfl, HF.out.2.2.2.1, HF.out.2.2.2.2.1, HF.out.2.2.2.2.2⟩
          simp [results, Try.results113, go_sem, p0, p1, p2, q0, q1]
      · go_simp
        refine hJ _ _ (fun e => absurd e (by decide)) ?_
        clear hJ J
        refine anyL_one (i := 0) (by kernel_rfl) rfl (by rfl) fun J hJ => ?_
        go_simp
        refine hJ _ _ (fun e => absurd e (by decide)) ?_
        clear hJ J
        refine anyL_one (i := 2) (by kernel_rfl) rfl (by rfl) fun J hJ => ?_
        go_simp
        refine hJ _ _ (fun e => absurd e (by decide)) ?_
        clear hJ J
        refine anyL_one (i := 3) (by kernel_rfl) rfl (by rfl) fun J hJ => ?_
        go_simp
        refine hJ _ _ (fun e => absurd e (by decide)) ?_
        clear hJ J
        refine anyL_one (i := 4) (by kernel_rfl) rfl (by rfl) fun J hJ => ?_
        go_simp
        refine hJ _ _ (fun e => absurd e (by decide)) ?_
        clear hJ J
        refine anyL_done (by kernel_rfl) ?_ _
        go_wp2_with fail
        refine bodyPost_ret (v := .tuple #[.agg #[.int .i64 n, .int .i64 n, .slice (some ⟨lb, 0, none⟩) N N], .agg #[.bool (decide (d / g < 0)), .slice am an ac], .int .i64 0]) ?_ rfl ⟨lb, _, rfl, HF.out.2.2.2.1, HF.out.2.2.2.2.1, HF.out.2.2.2.2.2⟩
        simp [results, Try.results113, go_sem, p0, p1, p2, q0, q1]

set_option maxHeartbeats 8000000 in
set_option maxRecDepth 100000 in
theorem Inverse_neg (n N T : Nat) (a : Option Addr) (cap : Nat) (d g γ : Int) (G : Nat → Int) (w : World) (hN4 : N ≤ 4096) (hT : T ≤ 274877906944) (hd : d < 0) (hdz : ZB T d) (hGz : ∀ q, q < N → ZB T (G q)) (hg : (Int.gcd d (gcdS N G : Int) : Int) = g) (hγ : -g = γ)
    (hdet : ∀ u, Below w.heap.size w u → Calls Try.prog 48 #[.agg #[.int .i64 n, .int .i64 n, .slice a N cap]] u fun e w' => ∃ v, e = .returned (.tuple #[v, .int .i64 0]) ∧ FrZ w' u.heap.size v d ∧ Below u.heap.size u w')
    (hadj : ∀ u, Below w.heap.size w u → Calls Try.prog 49 #[.agg #[.int .i64 n, .int .i64 n, .slice a N cap]] u fun e w' => ∃ lb, e = .returned (.tuple #[.agg #[.int .i64 n, .int .i64 n, .slice (some ⟨lb, 0, none⟩) N N], .int .i64 0]) ∧ FrE w' u.heap.size (fun b => b ≤ lb) lb N G ∧ Below u.heap.size u w') :
    Calls Try.prog 113 #[.agg #[.int .i64 n, .int .i64 n, .slice a N cap]] w fun e w' => ∃ lb v, e = .returned (.tuple #[.agg #[.int .i64 n, .int .i64 n, .slice (some ⟨lb, 0, none⟩) N N], v, .int .i64 0]) ∧ FrE w' w.heap.size (fun b => b ≤ lb) lb N (fun q => G q / γ) ∧ FrZ w' w.heap.size v (d / γ) ∧ Below w.heap.size w w' := by
  have hmix : Try.prog.follows .mixedOrders = true := by kernel_rfl
  have HSD := Lib.hid (show sgZ d = -1 by unfold sgZ; rw [if_neg (by omega)]; first | rw [if_neg (by omega)] | rw [if_pos (by omega)])
  have HDZ := Lib.hid hdz
  have HGZ := Lib.hid hGz
  have HT := Lib.hid hT
  have HAD := Lib.hid hadj
  have hgp := Int.gcd_pos_of_ne_zero_left (b := (gcdS N G : Int)) (show d ≠ 0 by omega)
  have hg0 : 0 < g := by rw [← hg]; omega
  have hgd : g ∣ d := by rw [← hg]; exact Int.gcd_dvd_left ..
  have hgG : ∀ q, q < N → g ∣ G q := fun q hq => Int.dvd_trans (by rw [← hg]; exact Int.gcd_dvd_right ..) (gcdS_dvd hq)
  have hgz : ZB T g := zb_le hdz (Nat.le_of_dvd (by omega) (Int.natAbs_dvd_natAbs.2 hgd))
  have HG1 := Lib.hid hgz
  have HG0 := Lib.hid (show γ ≠ 0 by omega)
  have HDD := Lib.hid (show γ ∣ d by rw [← hγ]; exact Int.neg_dvd.2 hgd)
  have HGD := Lib.hid (show ∀ q, q < N → γ ∣ G q by rw [← hγ]; exact fun q hq => Int.neg_dvd.2 (hgG q hq))
  have HGG := Lib.hid (show ZB T γ by rw [← hγ]; exact hgz.neg)
  have HGA := Lib.hid hγ
  clear hγ
  have HEG := Lib.hid hg
  clear hdz hGz hT hadj hgp hg0 hgd hgG hgz hd hg
  obtain ⟨hm, hr, hz, hb, hs⟩ := boxes_mmi w n n (.slice a N cap)
  have HM := Lib.hid hm
  have HR := Lib.hid hr
  have HZ := Lib.hid hz
  have HB := Lib.hid hb
  have HS := Lib.hid hs
  have HDT := Lib.hid hdet
  have x0 := hm.m0
  have x1 := hm.m1
  have x2 := hm.m2
  clear hm hr hz hb hs hdet
  go_enter Try.func113, Try.ntmps113
  go_upto_region 1 with fail
  generalize ((w.alloc (.cells #[.int .i64 n, .int .i64 n, .slice a N cap] 24)).alloc (.cells #[.int .i64 0, .int .i64 0, .slice none 0 0] 24)).alloc (.cells #[.bool false, .slice none 0 0] 49) = W at *
  go_wp2_with fail
  (refine (HDT.out W HB.out).mono ?_)
  rintro e w3 ⟨v, rfl, hf3, hb3⟩
  obtain ⟨ad, nd, cd, rfl, hod⟩ := hf3.agg
  rw [HS.out] at hod
  replace HB := Lib.hid (below_via HB.out hb3)
  replace HM := Lib.hid (HM.out.below hb3)
  replace HR := Lib.hid (HR.out.below hb3)
  replace HZ := Lib.hid (HZ.out.below hb3)
  have HF := Lib.hid hf3
  have HOD := Lib.hid hod
  have HSZ := Lib.hid (show w.heap.size + 3 ≤ w3.heap.size by have := HS.out; have := hb3.size; omega)
  have z0 := HZ.out.m0
  have z1 := HZ.out.m1
  have y0 := HZ.out.f0
  have y1 := HZ.out.f1
  clear hb3 hf3 hod HDT HS x0 x1 x2
  go_upto_region 2 with fail
  have hg := stored2_gb w3 (w.heap.size + 2) (.bool (decide (d < 0))) (.slice ad nd cd)
  have hnd : (Value.slice ad nd cd).ownBlock ≠ some (w.heap.size + 2) := fun e => by have := HOD.out _ e; omega
  obtain ⟨w4, hw4⟩ : ∃ w4, w4 = (w3.setCell ⟨w.heap.size + 2, 0, none⟩ (.bool (decide (d < 0)))).setCell ⟨w.heap.size + 2, 1, none⟩ (.slice ad nd cd) := ⟨_, rfl⟩
  have HJ := Lib.hid (show KBox w4 (w.heap.size + 2) d ad nd cd by rw [hw4]; exact HZ.out.iput HF.out hnd)
  replace hg : w3.grownBy w4 (some (w.heap.size + 2)) := by rw [hw4]; exact hg
  replace HR := Lib.hid (HR.out.grown hg (by omega))
  replace HM := Lib.hid (HM.out.grown hg (by omega))
  have hb0 := HB.out
  replace HB := Lib.hid (hb0.grown hg hb0.size (fun k hk => by injection hk with hk; omega))
  replace HOD := Lib.hid (show ∀ k, (Value.slice ad nd cd).ownBlock = some k → k < w4.heap.size from fun k hk => Nat.lt_of_lt_of_le (HOD.out k hk).2 hg.size)
  replace HSZ := Lib.hid (Nat.le_trans HSZ.out hg.size)
  rw [← hw4]
  clear hw4 hg hb0 HZ HF hnd z0 z1 y0 y1
  have z0 := HJ.out.b2.m0
  have z1 := HJ.out.b2.m1
  have HSG := Lib.hid (zSign_any _ d w4 (HJ.out.rd HDZ.out HT.out))
  rw [HSD.out] at HSG
  go_wp2_with fail
  (refine HSG.out.mono ?_)
  rintro e w5 ⟨rfl, hb5⟩
  replace HB := Lib.hid (below_via HB.out hb5)
  replace HM := Lib.hid (HM.out.below hb5)
  replace HR := Lib.hid (HR.out.below hb5)
  replace HJ := Lib.hid (HJ.out.below hb5)
  replace HOD := Lib.hid (show ∀ k, (Value.slice ad nd cd).ownBlock = some k → k < w5.heap.size from fun k hk => Nat.lt_of_lt_of_le (HOD.out k hk) hb5.size)
  replace HSZ := Lib.hid (Nat.le_trans HSZ.out hb5.size)
  clear HSG hb5 z0 z1
  have x0 := HM.out.m0
  have x1 := HM.out.m1
  have x2 := HM.out.m2
  go_wp2_with fail
  (refine (HAD.out w5 HB.out).mono ?_)
  rintro e w6 ⟨lb, rfl, hf6, hb6⟩
  have hba := bl_alloc w6 (.cells #[.int .i64 n, .int .i64 n, .slice (some ⟨lb, 0, none⟩) N N] 24)
  have hb7 := below_via hb6 hba
  have hl6 := hf6.own
  have hl7 := hf6.lt
  have HLR := Lib.hid (show w.heap.size + 2 < lb by have := HSZ.out; omega)
  have HNZ := Lib.hid (show (Value.slice ad nd cd).ownBlock ≠ some lb from fun e => by have := HOD.out _ e; omega)
  have HP := Lib.hid ((hf6.mono HB.out.size).below hba)
  have HAM := Lib.hid (MBox.new w6 n n (.slice (some ⟨lb, 0, none⟩) N N))
  replace HOD := Lib.hid (show ∀ k, (Value.slice ad nd cd).ownBlock = some k → k < (w6.alloc (.cells #[.int .i64 n, .int .i64 n, .slice (some ⟨lb, 0, none⟩) N N] 24)).heap.size from fun k hk => Nat.lt_of_lt_of_le (HOD.out k hk) hb7.size)
  replace HB := Lib.hid (below_via HB.out hb7)
  replace HR := Lib.hid (HR.out.below hb7)
  replace HJ := Lib.hid (HJ.out.below hb7)
  have HLA := Lib.hid (show lb < w6.heap.size ∧ w6.heap.size < (w6.alloc (.cells #[.int .i64 n, .int .i64 n, .slice (some ⟨lb, 0, none⟩) N N] 24)).heap.size from ⟨hl7, by simp⟩)
  clear hf6 hb6 hba hb7 hl6 hl7 HAD HM HSZ x0 x1 x2
  go_upto_region 8 with fail
  obtain ⟨ab, hab⟩ : ∃ ab, ab = w6.heap.size := ⟨_, rfl⟩
  rw [← hab] at HAM HLA ⊢
  clear hab
  generalize w6.alloc (.cells #[.int .i64 n, .int .i64 n, .slice (some ⟨lb, 0, none⟩) N N] 24) = w7 at *
  go_cut [6] (fun v wx => ∃ q, v = .pointer (some ⟨q, 0, none⟩) ∧ BoxZ w7 wx q g)
  case first =>
    have d0 := HJ.out.b2.m0
    have d1 := HJ.out.b2.m1
    have a2 := HAM.out.m2
    have hSK : ∀ u, Below w7.heap.size w7 u → (u.cell? ⟨w.heap.size + 2, 0, none⟩ = some (.bool (decide (d < 0))) ∧ u.cell? ⟨w.heap.size + 2, 1, none⟩ = some (.slice ad nd cd) ∧ u.cell? ⟨ab, 2, none⟩ = some (.slice (some ⟨lb, 0, none⟩) N N)) := fun u hu => ⟨cell_stays hu d0, cell_stays hu d1, cell_stays hu a2⟩
    have HSK := Lib.hid hSK
    have HK1 := Lib.hid (fun (u : World) (hu : Below w7.heap.size w7 u) => GcdAll_any _ N G u ((HP.out.rd (Nat.le_refl _) (by omega)).below hu))
    have hk2 := fun (u : World) (v : Value) (hu : Below w7.heap.size w7 u) (hv : RdZ u v (gcdS N G : Int)) => bGcd_any _ v d (gcdS N G : Int) u ((HJ.out.rd HDZ.out HT.out).below hu) hv
    rw [HEG.out] at hk2
    have HK2 := Lib.hid hk2
    have HG := Lib.hid (gcdS_zb HGZ.out)
    have HGT := HT
    clear hSK hk2
    refine region_early (fun u => u.cell? ⟨w.heap.size + 2, 0, none⟩ = some (.bool (decide (d < 0))) ∧ u.cell? ⟨w.heap.size + 2, 1, none⟩ = some (.slice ad nd cd) ∧ u.cell? ⟨ab, 2, none⟩ = some (.slice (some ⟨lb, 0, none⟩) N N)) 6 [0, 1, 2] 4 hmix (by kernel_rfl) rfl (by kernel_rfl) (fun _ _ d _ _ h => by cases d <;> exact h) ⟨d0, d1, a2⟩ ?_
    iterate 3 (refine early_take rfl (by rfl) ?_; apply Exists.intro; refine ⟨fun u hu => ?_, ?_⟩; (obtain ⟨u_1, u_2, u_3⟩ := hu; go_simp; rfl); simp only [Act.put, List.getElem_toArray, List.getElem_cons_zero, List.getElem_cons_succ, List.setIfInBounds_toArray, List.set_cons_zero, List.set_cons_succ])
    refine early_done ?_
    simp only [marked]
    have HBW := Lib.hid (bl_drew w7)
    clear d0 d1 a2
    refine anyL_two (i := 3) (j := 5) (by kernel_rfl) rfl (by rfl) rfl (by rfl) (fun J hJ => ?_) (fun J hJ => ?_)
    · go_simp
      refine (HK1.out _ HBW.out).mono ?_
      rintro e ug1 ⟨vg, rfl, hfg, hbg⟩
      have HRG := Lib.hid (hfg.rd HG.out HGT.out)
      replace HBW := Lib.hid (below_via HBW.out hbg)
      have HQW1 := Lib.hid HBW.out.size
      refine hJ _ _ (fun _ => HSK.out _ HBW.out) ?_
      clear hJ J hfg hbg
      refine anyL_two (i := 4) (j := 5) (by kernel_rfl) rfl (by rfl) rfl (by rfl) (fun J hJ => ?_) (fun J hJ => ?_)
      · go_simp
        refine (HK2.out _ _ HBW.out HRG.out).mono ?_
        rintro e ug2 ⟨vz, rfl, hfz, hbz⟩
        obtain ⟨az, nz, cz, rfl, -⟩ := hfz.agg
        have HFZ := Lib.hid hfz
        replace HBW := Lib.hid (below_via HBW.out hbz)
        have HFB := Lib.hid HQW1.out
        refine hJ _ _ (fun _ => HSK.out _ HBW.out) ?_
        clear hJ J hfz hbz
        refine anyL_one (i := 5) (by kernel_rfl) rfl (by rfl) fun J hJ => ?_
        go_simp
        have hbo := bl_alloc ug2 (.cells #[.bool false, .slice none 0 0] 49)
        have HQ := Lib.hid (ZBox.new ug2 false (.slice none 0 0))
        have HQW := Lib.hid (show w7.heap.size ≤ ug2.heap.size from HBW.out.size)
        have HQU := Lib.hid (show ug2.heap.size < (ug2.alloc (.cells #[.bool false, .slice none 0 0] 49)).heap.size by simp)
        have HFZ2 := Lib.hid ((HFZ.out.mono HFB.out).offb hbo (Nat.le_refl _))
        replace HBW := Lib.hid (below_via HBW.out hbo)
        obtain ⟨q, hq⟩ : ∃ q, q = ug2.heap.size := ⟨_, rfl⟩
        rw [← hq] at HQ HQW HQU ⊢
        rw [← hq] at HFZ2
        generalize ug2.alloc (.cells #[.bool false, .slice none 0 0] 49) = ug3 at *
        clear hq
        refine hJ _ _ (fun _ => HSK.out _ HBW.out) ?_
        clear hJ J hbo
        have z0 := HQ.out.m0
        have z1 := HQ.out.m1
        have y0 := HQ.out.f0
        have y1 := HQ.out.f1
        refine anyL_one (i := 6) (by kernel_rfl) rfl (by rfl) fun J hJ => ?_
        go_simp
        refine hJ _ _ (fun e => absurd e (by decide)) ?_
        clear hJ J
        refine anyL_done (by kernel_rfl) ?_ _
        go_wp2_with fail
        go_meet
        exact ⟨q, rfl, boxZ_mk HBW.out HQW.out HQ.out (HFZ2.out _ (stored2_gb _ _ _ _)) HQU.out⟩
      · go_simp
        have hbo := bl_alloc ug1 (.cells #[.bool false, .slice none 0 0] 49)
        have HQ := Lib.hid (ZBox.new ug1 false (.slice none 0 0))
        have HQW := Lib.hid (show w7.heap.size ≤ ug1.heap.size from HBW.out.size)
        have HQU := Lib.hid (show ug1.heap.size < (ug1.alloc (.cells #[.bool false, .slice none 0 0] 49)).heap.size by simp)
        replace HRG := Lib.hid (HRG.out.below hbo)
        replace HBW := Lib.hid (below_via HBW.out hbo)
        obtain ⟨q, hq⟩ : ∃ q, q = ug1.heap.size := ⟨_, rfl⟩
        rw [← hq] at HQ HQW HQU ⊢
        generalize ug1.alloc (.cells #[.bool false, .slice none 0 0] 49) = ug4 at *
        clear hq
        refine hJ _ _ (fun _ => HSK.out _ HBW.out) ?_
        clear hJ J hbo
        refine anyL_one (i := 4) (by kernel_rfl) rfl (by rfl) fun J hJ => ?_
        go_simp
        refine (HK2.out _ _ HBW.out HRG.out).mono ?_
        rintro e ug5 ⟨vz, rfl, hfz, hbz⟩
        obtain ⟨az, nz, cz, rfl, -⟩ := hfz.agg
        have HFZ := Lib.hid hfz
        replace HBW := Lib.hid (below_via HBW.out hbz)
        have HFB := Lib.hid HQU.out
        have HQ' := Lib.hid (HQ.out.below hbz)
        replace HQU := Lib.hid (Nat.lt_of_lt_of_le HQU.out hbz.size)
        clear HQ
        have HQ := HQ'
        clear HQ'
        refine hJ _ _ (fun _ => HSK.out _ HBW.out) ?_
        clear hJ J hfz hbz
        have z0 := HQ.out.m0
        have z1 := HQ.out.m1
        have y0 := HQ.out.f0
        have y1 := HQ.out.f1
        refine anyL_one (i := 6) (by kernel_rfl) rfl (by rfl) fun J hJ => ?_
        go_simp
        refine hJ _ _ (fun e => absurd e (by decide)) ?_
        clear hJ J
        refine anyL_done (by kernel_rfl) ?_ _
        go_wp2_with fail
        go_meet
        exact ⟨q, rfl, boxZ_mk HBW.out HQW.out HQ.out ((HFZ.out.far (stored2_gb _ _ _ _) HFB.out).mono (Nat.le_trans HQW.out (Nat.le_of_lt HFB.out))) HQU.out⟩
    · go_simp
      have hbo := below_via (bl_alloc w7 (.cells #[.bool false, .slice none 0 0] 49)) (bl_drew _)
      have HQ := Lib.hid ((ZBox.new w7 false (.slice none 0 0)).below (bl_drew _))
      have HQW := Lib.hid (Nat.le_refl w7.heap.size)
      have HQU := Lib.hid (show w7.heap.size < ((w7.alloc (.cells #[.bool false, .slice none 0 0] 49)).drew).heap.size by show _ < (w7.alloc (.cells #[.bool false, .slice none 0 0] 49)).heap.size; simp)
      replace HBW := Lib.hid hbo
      obtain ⟨q, hq⟩ : ∃ q, q = w7.heap.size := ⟨_, rfl⟩
      have HQQ := Lib.hid (show w7.heap.size ≤ q by omega)
      have hqr : w7.heap.size = q := hq.symm
      replace HQ := Lib.hid (hqr ▸ HQ.out)
      replace HQU := Lib.hid (hqr ▸ HQU.out)
      rw [hqr]
      replace HQW := HQQ
      clear hqr HQQ hq
      generalize (w7.alloc (.cells #[.bool false, .slice none 0 0] 49)).drew = ug9 at *
      refine hJ _ _ (fun _ => HSK.out _ HBW.out) ?_
      clear hJ J hbo
      refine anyL_one (i := 3) (by kernel_rfl) rfl (by rfl) fun J hJ => ?_
      go_simp
      refine (HK1.out _ HBW.out).mono ?_
      rintro e ug6 ⟨vg, rfl, hfg, hbg⟩
      have HRG := Lib.hid (hfg.rd HG.out HGT.out)
      replace HBW := Lib.hid (below_via HBW.out hbg)
      have HQ' := Lib.hid (HQ.out.below hbg)
      replace HQU := Lib.hid (Nat.lt_of_lt_of_le HQU.out hbg.size)
      clear HQ
      have HQ := HQ'
      clear HQ'
      refine hJ _ _ (fun _ => HSK.out _ HBW.out) ?_
      clear hJ J hfg hbg
      refine anyL_one (i := 4) (by kernel_rfl) rfl (by rfl) fun J hJ => ?_
      go_simp
      refine (HK2.out _ _ HBW.out HRG.out).mono ?_
      rintro e ug7 ⟨vz, rfl, hfz, hbz⟩
      obtain ⟨az, nz, cz, rfl, -⟩ := hfz.agg
      have HFZ := Lib.hid hfz
      replace HBW := Lib.hid (below_via HBW.out hbz)
      have HFB := Lib.hid HQU.out
      have HQ' := Lib.hid (HQ.out.below hbz)
      replace HQU := Lib.hid (Nat.lt_of_lt_of_le HQU.out hbz.size)
      clear HQ
      have HQ := HQ'
      clear HQ'
      refine hJ _ _ (fun _ => HSK.out _ HBW.out) ?_
      clear hJ J hfz hbz
      have z0 := HQ.out.m0
      have z1 := HQ.out.m1
      have y0 := HQ.out.f0
      have y1 := HQ.out.f1
      refine anyL_one (i := 6) (by kernel_rfl) rfl (by rfl) fun J hJ => ?_
      go_simp
      refine hJ _ _ (fun e => absurd e (by decide)) ?_
      clear hJ J
      refine anyL_done (by kernel_rfl) ?_ _
      go_wp2_with fail
      go_meet
      exact ⟨q, rfl, boxZ_mk HBW.out HQW.out HQ.out ((HFZ.out.far (stored2_gb _ _ _ _) HFB.out).mono (Nat.le_trans HQW.out (Nat.le_of_lt HFB.out))) HQU.out⟩
  case rest =>
  obtain ⟨gb, rfl, hbz⟩ := hcut
  obtain ⟨w8, hw8⟩ : ∃ x, x = wc := ⟨_, rfl⟩
  subst hw8
  obtain ⟨hb8, hq8, hq9, ag, ng, cg, hib, hog⟩ := hbz.ibox
  have hla := HLA.out
  have HST := Lib.hid (show IvR w w8 n N ab gb lb d g ad nd cd ag ng cg G from
    { below := below_via HB.out hb8, r := HR.out.below hb8, z := HJ.out.below hb8, a := HAM.out.below hb8, g := hib
      p := (HP.out.turnD (D' := fun b => b ≤ lb ∨ b = gb) (fun b hb hn hd => by rcases hd with hd | hd; exact hn hd; omega)).below hb8
      lr := HLR.out, la := hla.1, lg := by omega, ane := by omega, oz := HNZ.out, og := fun e => by have := hog _ e; omega
      ozg := fun e => by have := HOD.out _ e; omega })
  have HGB := Lib.hid hq9
  clear hbz hb8 hq8 hq9 hib hog hla HB HR HJ HAM HP HLR HNZ HOD HLA
  have HSG := Lib.hid (zSign_any _ d w8 (HST.out.z.rd HDZ.out HT.out))
  rw [HSD.out] at HSG
  have z0 := HST.out.z.b2.m0
  have z1 := HST.out.z.b2.m1
  go_wp2_with fail
  (refine HSG.out.mono ?_)
  rintro e w9 ⟨rfl, hb9⟩
  replace HST := Lib.hid (HST.out.on hb9)
  replace HGB := Lib.hid (Nat.lt_of_lt_of_le HGB.out hb9.size)
  clear hb9 HSG z0 z1
  have hng := zNeg_any _ g w9 (HST.out.g.rd HG1.out HT.out)
  rw [HGA.out] at hng
  have HNG := Lib.hid hng
  clear hng
  have g0 := HST.out.g.b2.m0
  have g1 := HST.out.g.b2.m1
  have y0 := HST.out.g.b2.f0
  have y1 := HST.out.g.b2.f1
  go_wp2_with fail
  (refine HNG.out.mono ?_)
  rintro e w10 ⟨v, rfl, hfn, hbn⟩
  obtain ⟨am, an, ac, rfl, -⟩ := hfn.agg
  have hst := (HST.out.on hbn).neg hfn HGB.out
  replace y0 := froz_stays hbn g0 y0
  replace y1 := froz_stays hbn g1 y1
  replace g0 := cell_stays hbn g0
  replace g1 := cell_stays hbn g1
  clear HST HGB hfn hbn
  have HST := Lib.hid hst
  clear hst
  go_upto_region 12 with fail
  unfold stored2 at HST
  generalize (w10.setCell ⟨gb, 0, none⟩ (.bool (decide (γ < 0)))).setCell ⟨gb, 1, none⟩ (.slice am an ac) = w11 at *
  clear g0 g1 y0 y1
  have a2s := HST.out.a.m2
  go_wp2_with fail
  clear a2s
  go_loopw [47] (fun iv wr => ∃ i : Nat, i ≤ N ∧ iv = .int .i64 i ∧ IvR w wr n N ab gb lb d γ ad nd cd am an ac (fun q => if q < i then G q / γ else G q)) (fun iv _ => N - (intOf iv).toNat)
  case atStart => exact ⟨0, Nat.zero_le _, rfl, HST.out.congr (fun q _ => by rw [if_neg (Nat.not_lt_zero q)])⟩
  case round =>
    clear HST
    obtain ⟨i, hi, rfl, hrel⟩ := hrel
    by_cases hiN : i < N
    · have hi1 : (i : Int) < (N : Int) := by omega
      have wk : IntKind.i64.wrap ((i : Int) + 1) = (i : Int) + 1 := IntWalk.i64_in _ (by omega)
      obtain ⟨s1, m1, c1, c2, c3, c4⟩ := hrel.p.cells i hiN
      obtain ⟨a1, n1, p1, rfl⟩ := c3.agg
      have c5 : RdZ wr (.agg #[.bool s1, .slice a1 n1 p1]) (G i) := by
        have := c3.1
        rwa [if_neg (Nat.lt_irrefl i)] at this
      have hbx := bl_alloc wr (.cells #[.bool s1, .slice a1 n1 p1] 49)
      obtain ⟨x0, x1, -, -⟩ := two_cells wr (.bool s1) (.slice a1 n1 p1) 49
      have HX := Lib.hid (c5.below hbx)
      have HREL := Lib.hid (hrel.on hbx)
      clear hrel c3 c4 c5 hbx
      go_upto_region 15 with fail
      obtain ⟨xb, hxb⟩ : ∃ xb, xb = wr.heap.size := ⟨_, rfl⟩
      rw [← hxb] at x0 x1 ⊢
      clear hxb c1 c2
      generalize wr.alloc (.cells #[.bool s1, .slice a1 n1 p1] 49) = wq at *
      have a2 := HREL.out.a.m2
      have g0 := HREL.out.g.b2.m0
      have g1 := HREL.out.g.b2.m1
      have HLT := Lib.hid (World.block_lt_of_cell? _ _ g0)
      refine region_early (fun u => u.cell? ⟨ab, 2, none⟩ = some (.slice (some ⟨lb, 0, none⟩) N N) ∧ u.cell? ⟨xb, 0, none⟩ = some (.bool s1) ∧ u.cell? ⟨xb, 1, none⟩ = some (.slice a1 n1 p1) ∧ u.cell? ⟨gb, 0, none⟩ = some (.bool (decide (γ < 0))) ∧ u.cell? ⟨gb, 1, none⟩ = some (.slice am an ac)) 9 [0, 1, 2, 3, 4] 6 hmix (by kernel_rfl) rfl (by kernel_rfl) (fun _ _ d _ _ h => by cases d <;> exact h) ⟨a2, x0, x1, g0, g1⟩ ?_
      iterate 5 (refine early_take rfl (by rfl) ?_; apply Exists.intro; refine ⟨fun u hu => ?_, ?_⟩; (obtain ⟨u_1, u_2, u_3, u_4, u_5⟩ := hu; go_simp; rfl); simp only [Act.put, List.getElem_toArray, List.getElem_cons_zero, List.getElem_cons_succ, List.setIfInBounds_toArray, List.set_cons_zero, List.set_cons_succ])
      refine early_done ?_
      simp only [marked]
      refine anyL_one (i := 5) (by kernel_rfl) rfl (by rfl) fun J hJ => ?_
      go_simp
      refine (zExact_any _ _ (G i) (γ) wq.drew HG0.out (HGD.out i hiN) (HX.out.below (bl_drew _)) ((HREL.out.g.rd HGG.out HT.out).below (bl_drew _))).mono ?_
      rintro e wt ⟨v, rfl, hf, hb⟩
      have hb' := below_via (bl_drew wq) hb
      have hS := And.intro (cell_stays hb' a2) (And.intro (cell_stays hb' x0) (And.intro (cell_stays hb' x1) (And.intro (cell_stays hb' g0) (cell_stays hb' g1))))
      have hrel2 := HREL.out.on hb'
      obtain ⟨u1, u2, y0, y1, y2, y3⟩ := hrel2.p.ready hiN
      obtain ⟨s7, a7, n7, p7, rfl, hp7⟩ := hrel2.p.putz hiN (Or.inl (Nat.le_refl _)) hf (div_zb HG0.out (HGD.out i hiN) (HGZ.out i hiN)) HT.out (fun b h1 h2 h3 => by
        have h4 : wq.heap.size ≤ b := h1
        have h5 : gb < wq.heap.size := HLT.out
        have h6 := HREL.out.lg
        rcases h3 with h3 | h3 <;> omega)
      refine hJ _ _ (fun _ => hS) ?_
      have HREL3 := Lib.hid ((hrel2.turn (gb_two wt lb (i * 2) (i * 2 + 1) (.bool s7) (.slice a7 n7 p7)) hp7).congr (F' := fun q => if q < i + 1 then G q / γ else G q) (fun q _ => by
        by_cases e : q = i
        · rw [if_pos e, if_pos (by omega), e]
        · rw [if_neg e]
          by_cases e2 : q < i
          · rw [if_pos e2, if_pos (by omega)]
          · rw [if_neg e2, if_neg (by omega)]))
      clear hJ J hf hb hb' hrel2 hp7 HX HREL a2 x0 x1 g0 g1
      refine anyL_yield (i := 6) rfl (by kernel_rfl) (by kernel_rfl) (by kernel_rfl) (by kernel_rfl) (fun _ _ d _ _ h => by cases d <;> exact h) (by rfl) hS ?_
      apply Exists.intro
      refine ⟨fun u => ?_, ?_⟩
      · go_simp
        rfl
      simp only [Act.put, List.getElem_toArray, List.getElem_cons_zero, List.getElem_cons_succ, List.setIfInBounds_toArray, List.set_cons_zero, List.set_cons_succ]
      refine anyL_yield (i := 7) rfl (by kernel_rfl) (by kernel_rfl) (by kernel_rfl) (by kernel_rfl) (fun _ _ d _ _ h => by cases d <;> exact h) (by rfl) hS ?_
      apply Exists.intro
      refine ⟨fun u => ?_, ?_⟩
      · go_simp
        rfl
      simp only [Act.put, List.getElem_toArray, List.getElem_cons_zero, List.getElem_cons_succ, List.setIfInBounds_toArray, List.set_cons_zero, List.set_cons_succ]
      refine anyL_yield (i := 8) rfl (by kernel_rfl) (by kernel_rfl) (by kernel_rfl) (by kernel_rfl) (fun _ _ d _ _ h => by cases d <;> exact h) (by rfl) hS ?_
      apply Exists.intro
      refine ⟨fun u => ?_, ?_⟩
      · go_simp
        rfl
      simp only [Act.put, List.getElem_toArray, List.getElem_cons_zero, List.getElem_cons_succ, List.setIfInBounds_toArray, List.set_cons_zero, List.set_cons_succ]
      refine anyL_one (i := 9) (by kernel_rfl) rfl (by rfl) fun J hJ => ?_
      go_simp
      refine hJ _ _ (fun e => absurd e (by decide)) ?_
      clear hJ J
      refine anyL_one (i := 10) (by kernel_rfl) rfl (by rfl) fun J hJ => ?_
      go_simp
      refine hJ _ _ (fun e => absurd e (by decide)) ?_
      clear hJ J
      refine anyL_done (by kernel_rfl) ?_ _
      clear hS y2 y3 y0 y1
      go_wp2_with fail
      go_roundw
      case rel => exact ⟨i + 1, by omega, by go_num, HREL3.out⟩
      case measure => simp [intOf]; omega
    · obtain rfl : N = i := by omega
      have HREL := Lib.hid (hrel.congr (F' := fun q => G q / γ) (fun q hq => by rw [if_pos hq]))
      clear hrel
      have z0 := HREL.out.z.b2.m0
      have z1 := HREL.out.z.b2.m1
      have g0 := HREL.out.g.b2.m0
      have g1 := HREL.out.g.b2.m1
      have y0 := HREL.out.z.b2.f0
      have y1 := HREL.out.z.b2.f1
      go_wp2_with fail
      (refine (zExact_any _ _ d (γ) wr HG0.out HDD.out (HREL.out.z.rd HDZ.out HT.out) (HREL.out.g.rd HGG.out HT.out)).mono ?_)
      rintro e wt ⟨v, rfl, hf, hb⟩
      obtain ⟨am, an, ac, rfl, -⟩ := hf.agg
      obtain ⟨q1, q2, q3, q4, q5, q6⟩ := (HREL.out.on hb).out hf (Nat.lt_trans HREL.out.lg (World.block_lt_of_cell? _ _ g0))
      have h7 : w.heap.size + 2 < lb ∧ lb < wr.heap.size := ⟨HREL.out.lr, Nat.lt_trans HREL.out.lg (World.block_lt_of_cell? _ _ g0)⟩
      have HN := Lib.hid h7
      replace y0 := froz_stays hb z0 y0
      replace y1 := froz_stays hb z1 y1
      replace z0 := cell_stays hb z0
      replace z1 := cell_stays hb z1
      unfold stored2 at q1 q2 q3 q4 q5 q6
      have HQ := Lib.hid (And.intro q4 (And.intro q5 q6))
      have HQ1 := Lib.hid q1
      have HQ2 := Lib.hid q2
      have HQ3 := Lib.hid q3
      clear q1 q2 q3 q4 q5 q6 h7 hf hb HREL g0 g1
      go_upto_region 18 with fail
      generalize (wt.setCell ⟨w.heap.size + 2, 0, none⟩ (.bool (decide (d / γ < 0)))).setCell ⟨w.heap.size + 2, 1, none⟩ (.slice am an ac) = wu at *
      clear z0 z1 y0 y1
      refine region_early (fun _ => True) 0 [] 5 hmix (by kernel_rfl) rfl (by kernel_rfl) (fun _ _ d _ _ h => by cases d <;> exact h) trivial ?_
      refine early_done ?_
      simp only [marked]
      have hbd := bl_drew wu
      have HF := Lib.hid (inv_end (n := n) (HQ1.out.below hbd) (HQ2.out.below hbd) (HQ.out.1.below hbd) (HQ.out.2.1.below hbd) (below_via HQ.out.2.2 hbd) HN.out.1 HN.out.2)
      have s0 := (HQ3.out.below hbd).m0
      have s1 := (HQ3.out.below hbd).m1
      have s2 := (HQ3.out.below hbd).m2
      have x0 := (HQ2.out.below hbd).m0
      have x1 := (HQ2.out.below hbd).m1
      have x2 := (HQ2.out.below hbd).m2
      have v0 := (HQ2.out.below hbd).f0
      have v1 := (HQ2.out.below hbd).f1
      have v2 := (HQ2.out.below hbd).f2
      have t0 := (HQ1.out.below hbd).m0
      have t1 := (HQ1.out.below hbd).m1
      clear HQ HQ1 HQ2 HQ3 hbd
      generalize wu.drew = wD at *
      have z0 := HF.out.2.1.m0
      have z1 := HF.out.2.1.m1
      have y0 := HF.out.2.1.f0
      have y1 := HF.out.2.1.f1
      have p0 := HF.out.1.m0
      have p1 := HF.out.1.m1
      have p2 := HF.out.1.m2
      have q0 := HF.out.2.2.1.m0
      have q1 := HF.out.2.2.1.m1
      unfold stored3 at z0 z1 y0 y1
      unfold stored2 stored3 at p0 p1 p2 q0 q1
      refine anyL_two (i := 0) (j := 1) (by kernel_rfl) rfl (by rfl) rfl (by rfl) (fun J hJ => ?_) (fun J hJ => ?_)
      · go_simp
        refine hJ _ _ (fun e => absurd e (by decide)) ?_
        clear hJ J
        refine anyL_two (i := 1) (j := 2) (by kernel_rfl) rfl (by rfl) rfl (by rfl) (fun J hJ => ?_) (fun J hJ => ?_)
        · go_simp
          refine hJ _ _ (fun e => absurd e (by decide)) ?_
          clear hJ J
          refine anyL_one (i := 2) (by kernel_rfl) rfl (by rfl) fun J hJ => ?_
          go_simp
          refine hJ _ _ (fun e => absurd e (by decide)) ?_
          clear hJ J
          refine anyL_one (i := 3) (by kernel_rfl) rfl (by rfl) fun J hJ => ?_
          go_simp
          refine hJ _ _ (fun e => absurd e (by decide)) ?_
          clear hJ J
          refine anyL_one (i := 4) (by kernel_rfl) rfl (by rfl) fun J hJ => ?_
          go_simp
          refine hJ _ _ (fun e => absurd e (by decide)) ?_
          clear hJ J
          refine anyL_done (by kernel_rfl) ?_ _
          go_wp2_with fail
          refine bodyPost_ret (v := .tuple #[.agg #[.int .i64 n, .int .i64 n, .slice (some ⟨lb, 0, none⟩) N N], .agg #[.bool (decide (d / γ < 0)), .slice am an ac], .int .i64 0]) ?_ rfl ⟨lb, _, rfl, HF.out.2.2.2.1, HF.out.2.2.2.2.1, HF.out.2.2.2.2.2⟩
          simp [results, Try.results113, go_sem, p0, p1, p2, q0, q1]
        · go_simp
          refine hJ _ _ (fun e => absurd e (by decide)) ?_
          clear hJ J
          refine anyL_one (i := 1) (by kernel_rfl) rfl (by rfl) fun J hJ => ?_
          go_simp
          refine hJ _ _ (fun e => absurd e (by decide)) ?_
          clear hJ J
          refine anyL_one (i := 3) (by kernel_rfl) rfl (by rfl) fun J hJ => ?_
          go_simp
          refine hJ _ _ (fun e => absurd e (by decide)) ?_
          clear hJ J
          refine anyL_one (i := 4) (by kernel_rfl) rfl (by rfl) fun J hJ => ?_
          go_simp
          refine hJ _ _ (fun e => absurd e (by decide)) ?_
          clear hJ J
          refine anyL_done (by kernel_rfl) ?_ _
          go_wp2_with fail
          refine bodyPost_ret (v := .tuple #[.agg #[.int .i64 n, .int .i64 n, .slice (some ⟨lb, 0, none⟩) N N], .agg #[.bool (decide (d / γ < 0)), .slice am an ac], .int .i64 0]) ?_ rfl ⟨lb, _, rfl, HF.out.2.2.2.1, HF.out.2.2.2.2.1, HF.out.2.2.2.2.2⟩
          simp [results, Try.results113, go_sem, p0, p1, p2, q0, q1]
      · go_simp
        refine hJ _ _ (fun e => absurd e (by decide)) ?_
        clear hJ J
        refine anyL_one (i := 0) (by kernel_rfl) rfl (by rfl) fun J hJ => ?_
        go_simp
        refine hJ _ _ (fun e => absurd e (by decide)) ?_
        clear hJ J
        refine anyL_one (i := 2) (by kernel_rfl) rfl (by rfl) fun J hJ => ?_
        go_simp
        refine hJ _ _ (fun e => absurd e (by decide)) ?_
        clear hJ J
        refine anyL_one (i := 3) (by kernel_rfl) rfl (by rfl) fun J hJ => ?_
        go_simp
        refine hJ _ _ (fun e => absurd e (by decide)) ?_
        clear hJ J
        refine anyL_one (i := 4) (by kernel_rfl) rfl (by rfl) fun J hJ => ?_
        go_simp
        refine hJ _ _ (fun e => absurd e (by decide)) ?_
        clear hJ J
        refine anyL_done (by kernel_rfl) ?_ _
        go_wp2_with fail
        refine bodyPost_ret (v := .tuple #[.agg #[.int .i64 n, .int .i64 n, .slice (some ⟨lb, 0, none⟩) N N], .agg #[.bool (decide (d / γ < 0)), .slice am an ac], .int .i64 0]) ?_ rfl ⟨lb, _, rfl, HF.out.2.2.2.1, HF.out.2.2.2.2.1, HF.out.2.2.2.2.2⟩
        simp [results, Try.results113, go_sem, p0, p1, p2, q0, q1]
end Go.Proofs.Ytejliecmdkmgiaa

namespace Go.Proofs.Ytejliecmdkmgiaa
open Go.RowKit Go.Shelf

theorem Inverse_good (n S : Nat) (sl : Value) (A : Nat → Int) (w : World) (hn : n ≤ 64) (hS : S ≤ 100000000) (hr : RdE w sl (n * n) A) (hA : ∀ q, q < n * n → ZB S (A q)) (h0 : dtE n A ≠ 0) :
    Calls Try.prog 113 #[.agg #[.int .i64 n, .int .i64 n, sl]] w fun e w' => ∃ lb v, e = .returned (.tuple #[.agg #[.int .i64 n, .int .i64 n, .slice (some ⟨lb, 0, none⟩) (n * n) (n * n)], v, .int .i64 0]) ∧
      FrE w' w.heap.size (fun b => b ≤ lb) lb (n * n) (ivE n A) ∧ FrZ w' w.heap.size v (dtE n A / gE n A) ∧ Below w.heap.size w w' := by
  obtain ⟨a, cap, rfl, hcap⟩ := hr.slice
  have hK4 : n * n ≤ 4096 := Nat.mul_le_mul hn hn
  have hdet := fun (u : World) (hu : Below w.heap.size w u) => Det_good n S _ A u hn (by omega) (hr.below hu) hA
  have hadj := fun (u : World) (hu : Below w.heap.size w u) => Adjugate_good n S _ A u hn hS (hr.below hu) hA
  have hdz := dtE_zb hn hA
  have haz := adE_zb hn hA
  by_cases h : dtE n A < 0
  · have hg : gE n A = - gcE n A := if_pos h
    exact Inverse_neg n (n * n) (64 * (S + 1) + 1) a cap (dtE n A) (gcE n A) (gE n A) (adE n A) w hK4 (by omega) h hdz haz rfl hg.symm hdet hadj
  · have hg : gE n A = gcE n A := if_neg h
    have := Inverse_pos n (n * n) (64 * (S + 1) + 1) a cap (dtE n A) (gcE n A) (adE n A) w hK4 (by omega) (by omega) hdz haz rfl hdet hadj
    rw [← hg] at this
    exact this

theorem boxes_mi (w : World) (r c : Int) (v : Value) (s : Bool) (m : Value) :
    let W := (w.alloc (.cells #[.int .i64 r, .int .i64 c, v] 24)).alloc (.cells #[.bool s, m] 49)
    MBox W w.heap.size r c v ∧ ZBox W (w.heap.size + 1) s m ∧ Below w.heap.size w W := by
  intro W
  have hz := ZBox.new (w.alloc (.cells #[.int .i64 r, .int .i64 c, v] 24)) s m
  have e : (w.alloc (.cells #[.int .i64 r, .int .i64 c, v] 24)).heap.size = w.heap.size + 1 := by simp
  rw [e] at hz
  exact ⟨(MBox.new w r c v).below (bl_alloc _ _), hz, below_via (bl_alloc _ _) (bl_alloc _ _)⟩

set_option maxHeartbeats 4000000 in
set_option maxRecDepth 100000 in
theorem inverts_err (r c : Int) (a : Option Addr) (n cap : Nat) (E : Int) (hE : E = 1 ∨ E = 2) (w : World)
    (hdet : ∀ u, Calls Try.prog 48 #[.agg #[.int .i64 r, .int .i64 c, .slice a n cap]] u fun e w' => e = .returned (.tuple #[.agg #[.bool false, .slice none 0 0], .int .i64 E]) ∧ Below u.heap.size u w') :
    Calls Try.prog 47 #[.agg #[.int .i64 r, .int .i64 c, .slice a n cap]] w fun e w' => e = .returned (.bool true) ∧ Below w.heap.size w w' := by
  have HM := Lib.hid (MBox.new w r c (.slice a n cap))
  have HB := Lib.hid (bl_alloc w (.cells #[.int .i64 r, .int .i64 c, .slice a n cap] 24))
  have HDT := Lib.hid hdet
  have HIV := Lib.hid (fun (u : World) => Inverse_err r c (.slice a n cap) rfl E hE u hdet)
  have hne : ¬ E = 0 := by omega
  clear hdet hE
  have HM_0 := HM.out.m0
  have HM_1 := HM.out.m1
  have HM_2 := HM.out.m2
  go_enter Try.func47, Try.ntmps47
  go_upto_region 1 with fail
  generalize w.alloc (.cells #[.int .i64 r, .int .i64 c, .slice a n cap] 24) = W at *
  go_wp2_with fail
  (refine (HDT.out W).mono ?_)
  rintro e w1 ⟨rfl, hb⟩
  have hbx := below_via hb (bl_alloc w1 (.cells #[.bool false, .slice none 0 0] 49))
  replace HM := Lib.hid (HM.out.below hbx)
  replace HB := Lib.hid (below_via HB.out hbx)
  clear hb hbx HDT
  clear HM_0 HM_1 HM_2
  go_upto_region 2 with fail
  generalize w1.alloc (.cells #[.bool false, .slice none 0 0] 49) = w2 at *
  have HM_0 := HM.out.m0
  have HM_1 := HM.out.m1
  have HM_2 := HM.out.m2
  go_wp2_with fail
  (refine (HIV.out w2).mono ?_)
  rintro e w3 ⟨rfl, hb⟩
  obtain ⟨-, -, h3⟩ := boxes_mi w3 0 0 (.slice none 0 0) false (.slice none 0 0)
  have hbx := below_via hb h3
  replace HB := Lib.hid (below_via HB.out hbx)
  clear hb hbx h3 HIV HM
  clear HM_0 HM_1 HM_2
  go_upto_region 3 with fail
  generalize (w3.alloc (.cells #[.int .i64 0, .int .i64 0, .slice none 0 0] 24)).alloc (.cells #[.bool false, .slice none 0 0] 49) = w4 at *
  go_wp2_with fail
  refine bodyPost_ret (v := .bool true) ?_ rfl ⟨rfl, HB.out⟩
  simp [results, Try.results47, go_sem]

set_option maxHeartbeats 4000000 in
set_option maxRecDepth 100000 in
theorem inverts_sing (n N : Nat) (a : Option Addr) (cap : Nat) (d : Int) (hd : d = 0) (w : World)
    (hdet : ∀ u, Below w.heap.size w u → Calls Try.prog 48 #[.agg #[.int .i64 n, .int .i64 n, .slice a N cap]] u fun e w' => ∃ v, e = .returned (.tuple #[v, .int .i64 0]) ∧ FrZ w' u.heap.size v d ∧ Below u.heap.size u w') :
    Calls Try.prog 47 #[.agg #[.int .i64 n, .int .i64 n, .slice a N cap]] w fun e w' => e = .returned (.bool true) ∧ Below w.heap.size w w' := by
  have HM := Lib.hid (MBox.new w n n (.slice a N cap))
  have HB := Lib.hid (bl_alloc w (.cells #[.int .i64 n, .int .i64 n, .slice a N cap] 24))
  have HDT := Lib.hid hdet
  have HIV := Lib.hid (fun (u : World) (hu : Below w.heap.size w u) => Inverse_sing n N a cap d hd u (fun u' hu' => hdet u' (hu.trans (hu'.mono hu.size))))
  have HZD := Lib.hid (show ZB 0 d by rw [hd]; exact zb_nil 0)
  have hsd : sgZ d = 0 := by rw [hd]; rfl
  have HSD := Lib.hid hsd
  clear hdet hsd hd
  have HM_0 := HM.out.m0
  have HM_1 := HM.out.m1
  have HM_2 := HM.out.m2
  go_enter Try.func47, Try.ntmps47
  go_upto_region 1 with fail
  generalize w.alloc (.cells #[.int .i64 n, .int .i64 n, .slice a N cap] 24) = W at *
  go_wp2_with fail
  (refine (HDT.out W HB.out).mono ?_)
  rintro e w1 ⟨v, rfl, hf, hb⟩
  obtain ⟨ad, nd, cd, rfl, -⟩ := hf.agg
  have hba := bl_alloc w1 (.cells #[.bool (decide (d < 0)), .slice ad nd cd] 49)
  have hbx := below_via hb hba
  have HD := Lib.hid (KBox.new hf)
  replace HM := Lib.hid (HM.out.below hbx)
  replace HB := Lib.hid (below_via HB.out hbx)
  clear hf hb hba hbx HDT
  clear HM_0 HM_1 HM_2
  go_upto_region 2 with fail
  obtain ⟨db, hdb⟩ : ∃ db, db = w1.heap.size := ⟨_, rfl⟩
  rw [← hdb] at HD ⊢
  clear hdb
  generalize w1.alloc (.cells #[.bool (decide (d < 0)), .slice ad nd cd] 49) = w2 at *
  have HM_0 := HM.out.m0
  have HM_1 := HM.out.m1
  have HM_2 := HM.out.m2
  go_wp2_with fail
  (refine (HIV.out w2 HB.out).mono ?_)
  rintro e w3 ⟨rfl, hb⟩
  obtain ⟨h1, h2, h3⟩ := boxes_mi w3 0 0 (.slice none 0 0) false (.slice none 0 0)
  have hbx := below_via hb h3
  replace HM := Lib.hid (HM.out.below hbx)
  replace HD := Lib.hid (HD.out.below hbx)
  replace HB := Lib.hid (below_via HB.out hbx)
  have HN := Lib.hid h1
  have HI := Lib.hid h2
  clear hb hbx h1 h2 h3 HIV
  clear HM_0 HM_1 HM_2
  go_upto_region 3 with fail
  obtain ⟨nb, hnb⟩ : ∃ nb, nb = w3.heap.size := ⟨_, rfl⟩
  rw [← hnb] at HN HI ⊢
  clear hnb
  generalize (w3.alloc (.cells #[.int .i64 0, .int .i64 0, .slice none 0 0] 24)).alloc (.cells #[.bool false, .slice none 0 0] 49) = w4 at *
  have HD_0 := HD.out.b2.m0
  have HD_1 := HD.out.b2.m1
  go_wp2_with fail
  (refine (zSign_any _ d w4 (HD.out.rd HZD.out (by omega))).mono ?_)
  rintro e w5 ⟨rfl, hb⟩
  rw [HSD.out]
  replace HN := Lib.hid (HN.out.below hb)
  replace HI := Lib.hid (HI.out.below hb)
  replace HB := Lib.hid (below_via HB.out hb)
  clear hb HD
  clear HD_0 HD_1
  have HN_0 := HN.out.m0
  have HN_1 := HN.out.m1
  have HN_2 := HN.out.m2
  have i0 := HI.out.m0
  have i1 := HI.out.m1
  go_wp2_with fail
  (refine (NoMat_yes w5).mono ?_)
  rintro e w6 ⟨rfl, hb⟩
  replace HI := Lib.hid (HI.out.below hb)
  replace HB := Lib.hid (below_via HB.out hb)
  clear hb i0 i1
  clear HN_0 HN_1 HN_2
  have i0 := HI.out.m0
  have i1 := HI.out.m1
  go_wp2_with fail
  (refine (zSign_any _ 0 w6 (rd_zero w6)).mono ?_)
  rintro e w7 ⟨rfl, hb⟩
  rw [sgZ_zero]
  replace HB := Lib.hid (below_via HB.out hb)
  clear hb i0 i1 HI HN
  go_wp2_with fail
  refine bodyPost_ret (v := .bool true) ?_ rfl ⟨rfl, HB.out⟩
  simp [results, Try.results47, go_sem]

set_option maxHeartbeats 8000000 in
set_option maxRecDepth 100000 in
theorem inverts_reg (n S : Nat) (sl : Value) (A : Nat → Int) (w : World) (hn : n ≤ 64) (hS : S ≤ 4000000) (hr : RdE w sl (n * n) A) (hA : ∀ q, q < n * n → ZB S (A q)) (h0 : dtE n A ≠ 0) :
    Calls Try.prog 47 #[.agg #[.int .i64 n, .int .i64 n, sl]] w fun e w' => e = .returned (.bool true) ∧ Below w.heap.size w w' := by
  have hmix : Try.prog.follows .mixedOrders = true := by kernel_rfl
  have hK4 : n * n ≤ 4096 := Nat.mul_le_mul hn hn
  obtain ⟨a, cap, rfl, hcap⟩ := hr.slice
  obtain ⟨T, hT⟩ : ∃ T, T = 64 * (S + 1) + 1 := ⟨_, rfl⟩
  have hT2 : T ≤ 256000065 := by omega
  have hdz := dtE_zb hn hA
  have haz := adE_zb hn hA
  have hg0 := gE_ne h0
  have hiz := div_zb hg0 (gE_dt n A) hdz
  have hvz := fun q (hq : q < n * n) => div_zb hg0 (gE_ad A hq) (haz q hq)
  rw [← hT] at hdz hiz hvz
  obtain ⟨N, hN⟩ : ∃ N, N = n * n := ⟨_, rfl⟩
  have hdet := fun (u : World) (hu : Below w.heap.size w u) => Det_good n S _ A u hn (by omega) (hr.below hu) hA
  have hinv := fun (u : World) (hu : Below w.heap.size w u) => Inverse_good n S _ A u hn (by omega) (hr.below hu) hA h0
  have hmul := fun (u : World) (v : Value) (hu : Below w.heap.size w u) (hv : RdE u v (n * n) (ivE n A)) => Mul_good n n n S T _ v A (ivE n A) u hn hn hn (by omega) (hr.below hu) hv hA hvz
  have hivr := iv_r h0
  have hprm := inv_prm h0
  have hip := idE_pos h0
  have hleast := fun (u : World) (v : Value) (hv : LeE u v (n * n) (ivE n A)) => LeastMat_yes n n v (ivE n A) u hn hn hv
  have hsc := fun (u : World) (x v : Value) (hx : RdZ u x (dtE n A / gE n A)) (hv : RdE u v (n * n) (fun q => unitE (q / n) (q % n))) => Scale_good n 1 T x v (dtE n A / gE n A) _ u hn (by omega) hx hiz hv (fun q _ => by unfold unitE; split; exact zb_ones; exact zb_nil 1)
  have hun := fun (u : World) => Unit_good n u hn
  rw [← hN] at hK4 hvz hr hA hdet hinv hmul hivr hprm hleast hsc hun ⊢
  change ∀ u, Below w.heap.size w u → Calls Try.prog 48 _ u fun e w' => ∃ v, e = .returned (.tuple #[v, .int .i64 0]) ∧ FrZ w' u.heap.size v (dtE n A) ∧ Below u.heap.size u w' at hdet
  obtain ⟨D, hD⟩ : ∃ D, D = dtE n A := ⟨_, rfl⟩
  rw [← hD] at hdz h0 hdet
  obtain ⟨ι, hι⟩ : ∃ ι, ι = dtE n A / gE n A := ⟨_, rfl⟩
  rw [← hι] at hiz hinv hivr hprm hip hsc
  obtain ⟨V, hV⟩ : ∃ V, V = ivE n A := ⟨_, rfl⟩
  have hvz' : ∀ q, q < N → ZB T (V q) := fun q hq => by rw [hV]; exact hvz q hq
  rw [← hV] at hinv hmul hivr hprm hleast
  have HM := Lib.hid (MBox.new w n n (.slice a N cap))
  have HB := Lib.hid (bl_alloc w (.cells #[.int .i64 n, .int .i64 n, .slice a N cap] 24))
  have HDT := Lib.hid hdet
  have HIV := Lib.hid hinv
  have HMU := Lib.hid hmul
  have HSC := Lib.hid hsc
  have HUN := Lib.hid hun
  have HLM := Lib.hid hleast
  have HDZ := Lib.hid hdz
  have HIZ := Lib.hid hiz
  have HVZ := Lib.hid hvz'
  have HIR := Lib.hid hivr
  have HPR := Lib.hid hprm
  have hs1 : sgZ D = 1 ∨ sgZ D = -1 := by unfold sgZ; rw [if_neg h0]; split; exact Or.inr rfl; exact Or.inl rfl
  obtain ⟨sd, hsd⟩ : ∃ sd, sd = sgZ D := ⟨_, rfl⟩
  have hs2 : ¬ sd = 0 := by omega
  have hs3 : (sd == 0) = false := by rw [beq_eq_false_iff_ne]; exact hs2
  have hs4 : sgZ ι = 1 := by unfold sgZ; rw [if_neg (by omega), if_neg (by omega)]
  have HSD := Lib.hid hsd
  have HSI := Lib.hid hs4
  clear hdz haz hg0 hiz hvz hvz' hdet hinv hmul hivr hprm hip hleast hsc hun hr hA h0 hD hι hV hN hs1 hsd hs4 hT hcap hS
  have HM_0 := HM.out.m0
  have HM_1 := HM.out.m1
  have HM_2 := HM.out.m2
  go_enter Try.func47, Try.ntmps47
  go_upto_region 1 with fail
  generalize w.alloc (.cells #[.int .i64 n, .int .i64 n, .slice a N cap] 24) = W at *
  go_wp2_with fail
  (refine (HDT.out W HB.out).mono ?_)
  rintro e w1 ⟨v, rfl, hf, hb⟩
  obtain ⟨ad, nd, cd, rfl, -⟩ := hf.agg
  have hba := bl_alloc w1 (.cells #[.bool (decide (D < 0)), .slice ad nd cd] 49)
  have hbx := below_via hb hba
  have HD := Lib.hid (KBox.new hf)
  replace HM := Lib.hid (HM.out.below hbx)
  replace HB := Lib.hid (below_via HB.out hbx)
  clear hf hb hba hbx HDT
  clear HM_0 HM_1 HM_2
  go_upto_region 2 with fail
  obtain ⟨db, hdb⟩ : ∃ db, db = w1.heap.size := ⟨_, rfl⟩
  rw [← hdb] at HD ⊢
  clear hdb
  generalize w1.alloc (.cells #[.bool (decide (D < 0)), .slice ad nd cd] 49) = w2 at *
  have HM_0 := HM.out.m0
  have HM_1 := HM.out.m1
  have HM_2 := HM.out.m2
  go_wp2_with fail
  (refine (HIV.out w2 HB.out).mono ?_)
  rintro e w3 ⟨lv, v, rfl, hfe, hf, hb⟩
  obtain ⟨ai, ni, ci, rfl, -⟩ := hf.agg
  obtain ⟨h1, h2, h3⟩ := boxes_mi w3 n n (.slice (some ⟨lv, 0, none⟩) N N) (decide (ι < 0)) (.slice ai ni ci)
  have hbx := below_via hb h3
  replace HM := Lib.hid (HM.out.below hbx)
  replace HD := Lib.hid (HD.out.below hbx)
  replace HB := Lib.hid (below_via HB.out hbx)
  have HN := Lib.hid h1
  have HI := Lib.hid (KBox.mk h2 ((hf.mono (Nat.zero_le _)).below h3))
  have HL := Lib.hid ((hfe.lee (Nat.le_refl _) (Nat.le_refl _) (by omega)).below h3)
  clear hb hbx h1 h2 h3 hf hfe HIV
  clear HM_0 HM_1 HM_2
  go_upto_region 3 with fail
  obtain ⟨nb, hnb⟩ : ∃ nb, nb = w3.heap.size := ⟨_, rfl⟩
  rw [← hnb] at HN HI ⊢
  clear hnb
  generalize (w3.alloc (.cells #[.int .i64 n, .int .i64 n, .slice (some ⟨lv, 0, none⟩) N N] 24)).alloc (.cells #[.bool (decide (ι < 0)), .slice ai ni ci] 49) = w4 at *
  have HD_0 := HD.out.b2.m0
  have HD_1 := HD.out.b2.m1
  go_wp2_with fail
  (refine (zSign_any _ D w4 (HD.out.rd HDZ.out (by omega))).mono ?_)
  rintro e w5 ⟨rfl, hb⟩
  rw [← HSD.out]
  replace HM := Lib.hid (HM.out.below hb)
  replace HN := Lib.hid (HN.out.below hb)
  replace HI := Lib.hid (HI.out.below hb)
  replace HL := Lib.hid (HL.out.below hb)
  replace HB := Lib.hid (below_via HB.out hb)
  clear hb HD
  clear HD_0 HD_1
  go_upto_region 7 with fail
  have HM_0 := HM.out.m0
  have HM_1 := HM.out.m1
  have HM_2 := HM.out.m2
  have HC1 := Lib.hid (HUN.out w5)
  go_wp2_with fail
  (refine HC1.out.mono ?_)
  rintro e w6 ⟨lu, rfl, hf, hb⟩
  have hba := bl_alloc w6 (.cells #[.int .i64 n, .int .i64 n, .slice (some ⟨lu, 0, none⟩) N N] 24)
  have hbx := below_via hb hba
  replace HM := Lib.hid (HM.out.below hbx)
  replace HN := Lib.hid (HN.out.below hbx)
  replace HI := Lib.hid (HI.out.below hbx)
  replace HL := Lib.hid (HL.out.below hbx)
  replace HB := Lib.hid (below_via HB.out hbx)
  have HU := Lib.hid (MBox.new w6 n n (.slice (some ⟨lu, 0, none⟩) N N))
  have HUL := Lib.hid ((hf.lee (Nat.le_refl _) (Nat.le_refl _) (by omega)).below hba)
  clear hf hb hba hbx HC1
  go_upto_region 8 with fail
  obtain ⟨ub, hq⟩ : ∃ q, q = w6.heap.size := ⟨_, rfl⟩
  rw [← hq] at HU ⊢
  clear hq
  generalize w6.alloc (.cells #[.int .i64 n, .int .i64 n, .slice (some ⟨lu, 0, none⟩) N N] 24) = w7 at *
  clear HM_0 HM_1 HM_2
  have HU_0 := HU.out.m0
  have HU_1 := HU.out.m1
  have HU_2 := HU.out.m2
  have HI_0 := HI.out.b2.m0
  have HI_1 := HI.out.b2.m1
  have HC2 := Lib.hid (HSC.out w7 _ _ (HI.out.rd HIZ.out (by omega)) HUL.out.rd)
  go_wp2_with fail
  (refine HC2.out.mono ?_)
  rintro e w8 ⟨ls, rfl, hf, hb⟩
  have hba := bl_alloc w8 (.cells #[.int .i64 n, .int .i64 n, .slice (some ⟨ls, 0, none⟩) N N] 24)
  have hbx := below_via hb hba
  replace HM := Lib.hid (HM.out.below hbx)
  replace HN := Lib.hid (HN.out.below hbx)
  replace HI := Lib.hid (HI.out.below hbx)
  replace HL := Lib.hid (HL.out.below hbx)
  replace HB := Lib.hid (below_via HB.out hbx)
  have HS := Lib.hid (MBox.new w8 n n (.slice (some ⟨ls, 0, none⟩) N N))
  have HSL := Lib.hid ((hf.lee (Nat.le_refl _) (Nat.le_refl _) (by omega)).below hba)
  clear hf hb hba hbx HC2
  go_upto_region 9 with fail
  obtain ⟨sb, hq⟩ : ∃ q, q = w8.heap.size := ⟨_, rfl⟩
  rw [← hq] at HS ⊢
  clear hq
  generalize w8.alloc (.cells #[.int .i64 n, .int .i64 n, .slice (some ⟨ls, 0, none⟩) N N] 24) = w9 at *
  clear HU_0 HU_1 HU_2
  clear HI_0 HI_1
  have HM_0 := HM.out.m0
  have HM_1 := HM.out.m1
  have HM_2 := HM.out.m2
  have HN_0 := HN.out.m0
  have HN_1 := HN.out.m1
  have HN_2 := HN.out.m2
  have HC3 := Lib.hid (HMU.out w9 _ HB.out HL.out.rd)
  go_wp2_with fail
  (refine HC3.out.mono ?_)
  rintro e w10 ⟨lp, rfl, hf, hb⟩
  have hba := bl_alloc w10 (.cells #[.int .i64 n, .int .i64 n, .slice (some ⟨lp, 0, none⟩) N N] 24)
  have hbx := below_via hb hba
  replace HN := Lib.hid (HN.out.below hbx)
  replace HI := Lib.hid (HI.out.below hbx)
  replace HL := Lib.hid (HL.out.below hbx)
  replace HS := Lib.hid (HS.out.below hbx)
  replace HSL := Lib.hid (HSL.out.below hbx)
  replace HB := Lib.hid (below_via HB.out hbx)
  have HP := Lib.hid (MBox.new w10 n n (.slice (some ⟨lp, 0, none⟩) N N))
  have HPL := Lib.hid ((hf.lee (Nat.le_refl _) (Nat.le_refl _) (by omega)).below hba)
  clear hf hb hba hbx HC3
  go_upto_region 10 with fail
  obtain ⟨pb, hq⟩ : ∃ q, q = w10.heap.size := ⟨_, rfl⟩
  rw [← hq] at HP ⊢
  clear hq
  generalize w10.alloc (.cells #[.int .i64 n, .int .i64 n, .slice (some ⟨lp, 0, none⟩) N N] 24) = w11 at *
  clear HM_0 HM_1 HM_2 HN_0 HN_1 HN_2
  replace HPL := Lib.hid (HPL.out.congr HIR.out)
  have HP_0 := HP.out.m0
  have HP_1 := HP.out.m1
  have HP_2 := HP.out.m2
  have HS_0 := HS.out.m0
  have HS_1 := HS.out.m1
  have HS_2 := HS.out.m2
  have HN_0 := HN.out.m0
  have HN_1 := HN.out.m1
  have HN_2 := HN.out.m2
  have HI_0 := HI.out.b2.m0
  have HI_1 := HI.out.b2.m1
  go_wp2_with fail
  (refine (LikeMat_yes n n _ _ N _ w11 HPL.out HSL.out).mono ?_)
  rintro e w12 ⟨rfl, hb⟩
  clear HP_0 HP_1 HP_2 HS_0 HS_1 HS_2 HN_0 HN_1 HN_2
  clear HI_0 HI_1
  replace HN := Lib.hid (HN.out.below hb)
  replace HI := Lib.hid (HI.out.below hb)
  replace HL := Lib.hid (HL.out.below hb)
  replace HB := Lib.hid (below_via HB.out hb)
  clear hb HP HS HPL HSL
  have HN_0 := HN.out.m0
  have HN_1 := HN.out.m1
  have HN_2 := HN.out.m2
  have HI_0 := HI.out.b2.m0
  have HI_1 := HI.out.b2.m1
  go_wp2_with fail
  (refine (zSign_any _ ι w12 (HI.out.rd HIZ.out (by omega))).mono ?_)
  rintro e w13 ⟨rfl, hb⟩
  rw [HSI.out]
  clear HN_0 HN_1 HN_2
  clear HI_0 HI_1
  replace HN := Lib.hid (HN.out.below hb)
  replace HI := Lib.hid (HI.out.below hb)
  replace HL := Lib.hid (HL.out.below hb)
  replace HB := Lib.hid (below_via HB.out hb)
  clear hb
  have HN_0 := HN.out.m0
  have HN_1 := HN.out.m1
  have HN_2 := HN.out.m2
  have HI_0 := HI.out.b2.m0
  have HI_1 := HI.out.b2.m1
  go_wp2_with fail
  (refine (HLM.out w13 _ HL.out).mono ?_)
  rintro e w14 ⟨rfl, hb⟩
  clear HN_0 HN_1 HN_2
  clear HI_0 HI_1
  replace HN := Lib.hid (HN.out.below hb)
  replace HI := Lib.hid (HI.out.below hb)
  replace HL := Lib.hid (HL.out.below hb)
  replace HB := Lib.hid (below_via HB.out hb)
  clear hb
  obtain ⟨o, ho⟩ : ∃ o : Int, o = 1 := ⟨_, rfl⟩
  go_upto_region 12 with fail
  go_cut [14] (fun v wx => ∃ q, v = .pointer (some ⟨q, 0, none⟩) ∧ BoxZ w14 wx q o)
  case first =>
    have d0 := HI.out.b2.m0
    have d1 := HI.out.b2.m1
    have a2 := HN.out.m2
    have hSK : ∀ u, Below w14.heap.size w14 u → (u.cell? ⟨nb + 1, 0, none⟩ = some (.bool (decide (ι < 0))) ∧ u.cell? ⟨nb + 1, 1, none⟩ = some (.slice ai ni ci) ∧ u.cell? ⟨nb, 2, none⟩ = some (.slice (some ⟨lv, 0, none⟩) N N)) := fun u hu => ⟨cell_stays hu d0, cell_stays hu d1, cell_stays hu a2⟩
    have HSK := Lib.hid hSK
    have HK1 := Lib.hid (fun (u : World) (hu : Below w14.heap.size w14 u) => GcdAll_any _ N V u (HL.out.rd.below hu))
    have hk2 := fun (u : World) (v : Value) (hu : Below w14.heap.size w14 u) (hv : RdZ u v (gcdS N V : Int)) => bGcd_any _ v ι (gcdS N V : Int) u ((HI.out.rd HIZ.out (by omega)).below hu) hv
    rw [show (Int.gcd ι (gcdS N V : Int) : Int) = o by rw [HPR.out, ho]; rfl] at hk2
    have HK2 := Lib.hid hk2
    have HG := Lib.hid (gcdS_zb HVZ.out)
    have HGT := Lib.hid (show T ≤ 274877906944 by omega)
    clear hSK hk2 ho
    refine region_early (fun u => u.cell? ⟨nb + 1, 0, none⟩ = some (.bool (decide (ι < 0))) ∧ u.cell? ⟨nb + 1, 1, none⟩ = some (.slice ai ni ci) ∧ u.cell? ⟨nb, 2, none⟩ = some (.slice (some ⟨lv, 0, none⟩) N N)) 6 [0, 1, 2] 4 hmix (by kernel_rfl) rfl (by kernel_rfl) (fun _ _ d _ _ h => by cases d <;> exact h) ⟨d0, d1, a2⟩ ?_
    iterate 3 (refine early_take rfl (by rfl) ?_; apply Exists.intro; refine ⟨fun u hu => ?_, ?_⟩; (obtain ⟨u_1, u_2, u_3⟩ := hu; go_simp; rfl); simp only [Act.put, List.getElem_toArray, List.getElem_cons_zero, List.getElem_cons_succ, List.setIfInBounds_toArray, List.set_cons_zero, List.set_cons_succ])
    refine early_done ?_
    simp only [marked]
    have HBW := Lib.hid (bl_drew w14)
    clear d0 d1 a2
    refine anyL_two (i := 3) (j := 5) (by kernel_rfl) rfl (by rfl) rfl (by rfl) (fun J hJ => ?_) (fun J hJ => ?_)
    · go_simp
      refine (HK1.out _ HBW.out).mono ?_
      rintro e ug1 ⟨vg, rfl, hfg, hbg⟩
      have HRG := Lib.hid (hfg.rd HG.out HGT.out)
      replace HBW := Lib.hid (below_via HBW.out hbg)
      have HQW1 := Lib.hid HBW.out.size
      refine hJ _ _ (fun _ => HSK.out _ HBW.out) ?_
      clear hJ J hfg hbg
      refine anyL_two (i := 4) (j := 5) (by kernel_rfl) rfl (by rfl) rfl (by rfl) (fun J hJ => ?_) (fun J hJ => ?_)
      · go_simp
        refine (HK2.out _ _ HBW.out HRG.out).mono ?_
        rintro e ug2 ⟨vz, rfl, hfz, hbz⟩
        obtain ⟨az, nz, cz, rfl, -⟩ := hfz.agg
        have HFZ := Lib.hid hfz
        replace HBW := Lib.hid (below_via HBW.out hbz)
        have HFB := Lib.hid HQW1.out
        refine hJ _ _ (fun _ => HSK.out _ HBW.out) ?_
        clear hJ J hfz hbz
        refine anyL_one (i := 5) (by kernel_rfl) rfl (by rfl) fun J hJ => ?_
        go_simp
        have hbo := bl_alloc ug2 (.cells #[.bool false, .slice none 0 0] 49)
        have HQ := Lib.hid (ZBox.new ug2 false (.slice none 0 0))
        have HQW := Lib.hid (show w14.heap.size ≤ ug2.heap.size from HBW.out.size)
        have HQU := Lib.hid (show ug2.heap.size < (ug2.alloc (.cells #[.bool false, .slice none 0 0] 49)).heap.size by simp)
        have HFZ2 := Lib.hid ((HFZ.out.mono HFB.out).offb hbo (Nat.le_refl _))
        replace HBW := Lib.hid (below_via HBW.out hbo)
        obtain ⟨q, hq⟩ : ∃ q, q = ug2.heap.size := ⟨_, rfl⟩
        rw [← hq] at HQ HQW HQU ⊢
        rw [← hq] at HFZ2
        generalize ug2.alloc (.cells #[.bool false, .slice none 0 0] 49) = ug3 at *
        clear hq
        refine hJ _ _ (fun _ => HSK.out _ HBW.out) ?_
        clear hJ J hbo
        have z0 := HQ.out.m0
        have z1 := HQ.out.m1
        have y0 := HQ.out.f0
        have y1 := HQ.out.f1
        refine anyL_one (i := 6) (by kernel_rfl) rfl (by rfl) fun J hJ => ?_
        go_simp
        refine hJ _ _ (fun e => absurd e (by decide)) ?_
        clear hJ J
        refine anyL_done (by kernel_rfl) ?_ _
        go_wp2_with fail
        go_meet
        exact ⟨q, rfl, boxZ_mk HBW.out HQW.out HQ.out (HFZ2.out _ (stored2_gb _ _ _ _)) HQU.out⟩
      · go_simp
        have hbo := bl_alloc ug1 (.cells #[.bool false, .slice none 0 0] 49)
        have HQ := Lib.hid (ZBox.new ug1 false (.slice none 0 0))
        have HQW := Lib.hid (show w14.heap.size ≤ ug1.heap.size from HBW.out.size)
        have HQU := Lib.hid (show ug1.heap.size < (ug1.alloc (.cells #[.bool false, .slice none 0 0] 49)).heap.size by simp)
        replace HRG := Lib.hid (HRG.out.below hbo)
        replace HBW := Lib.hid (below_via HBW.out hbo)
        obtain ⟨q, hq⟩ : ∃ q, q = ug1.heap.size := ⟨_, rfl⟩
        rw [← hq] at HQ HQW HQU ⊢
        generalize ug1.alloc (.cells #[.bool false, .slice none 0 0] 49) = ug4 at *
        clear hq
        refine hJ _ _ (fun _ => HSK.out _ HBW.out) ?_
        clear hJ J hbo
        refine anyL_one (i := 4) (by kernel_rfl) rfl (by rfl) fun J hJ => ?_
        go_simp
        refine (HK2.out _ _ HBW.out HRG.out).mono ?_
        rintro e ug5 ⟨vz, rfl, hfz, hbz⟩
        obtain ⟨az, nz, cz, rfl, -⟩ := hfz.agg
        have HFZ := Lib.hid hfz
        replace HBW := Lib.hid (below_via HBW.out hbz)
        have HFB := Lib.hid HQU.out
        have HQ' := Lib.hid (HQ.out.below hbz)
        replace HQU := Lib.hid (Nat.lt_of_lt_of_le HQU.out hbz.size)
        clear HQ
        have HQ := HQ'
        clear HQ'
        refine hJ _ _ (fun _ => HSK.out _ HBW.out) ?_
        clear hJ J hfz hbz
        have z0 := HQ.out.m0
        have z1 := HQ.out.m1
        have y0 := HQ.out.f0
        have y1 := HQ.out.f1
        refine anyL_one (i := 6) (by kernel_rfl) rfl (by rfl) fun J hJ => ?_
        go_simp
        refine hJ _ _ (fun e => absurd e (by decide)) ?_
        clear hJ J
        refine anyL_done (by kernel_rfl) ?_ _
        go_wp2_with fail
        go_meet
        exact ⟨q, rfl, boxZ_mk HBW.out HQW.out HQ.out ((HFZ.out.far (stored2_gb _ _ _ _) HFB.out).mono (Nat.le_trans HQW.out (Nat.le_of_lt HFB.out))) HQU.out⟩
    · go_simp
      have hbo := below_via (bl_alloc w14 (.cells #[.bool false, .slice none 0 0] 49)) (bl_drew _)
      have HQ := Lib.hid ((ZBox.new w14 false (.slice none 0 0)).below (bl_drew _))
      have HQW := Lib.hid (Nat.le_refl w14.heap.size)
      have HQU := Lib.hid (show w14.heap.size < ((w14.alloc (.cells #[.bool false, .slice none 0 0] 49)).drew).heap.size by show _ < (w14.alloc (.cells #[.bool false, .slice none 0 0] 49)).heap.size; simp)
      replace HBW := Lib.hid hbo
      obtain ⟨q, hq⟩ : ∃ q, q = w14.heap.size := ⟨_, rfl⟩
      have HQQ := Lib.hid (show w14.heap.size ≤ q by omega)
      have hqr : w14.heap.size = q := hq.symm
      replace HQ := Lib.hid (hqr ▸ HQ.out)
      replace HQU := Lib.hid (hqr ▸ HQU.out)
      rw [hqr]
      replace HQW := HQQ
      clear hqr HQQ hq
      generalize (w14.alloc (.cells #[.bool false, .slice none 0 0] 49)).drew = ug9 at *
      refine hJ _ _ (fun _ => HSK.out _ HBW.out) ?_
      clear hJ J hbo
      refine anyL_one (i := 3) (by kernel_rfl) rfl (by rfl) fun J hJ => ?_
      go_simp
      refine (HK1.out _ HBW.out).mono ?_
      rintro e ug6 ⟨vg, rfl, hfg, hbg⟩
      have HRG := Lib.hid (hfg.rd HG.out HGT.out)
      replace HBW := Lib.hid (below_via HBW.out hbg)
      have HQ' := Lib.hid (HQ.out.below hbg)
      replace HQU := Lib.hid (Nat.lt_of_lt_of_le HQU.out hbg.size)
      clear HQ
      have HQ := HQ'
      clear HQ'
      refine hJ _ _ (fun _ => HSK.out _ HBW.out) ?_
      clear hJ J hfg hbg
      refine anyL_one (i := 4) (by kernel_rfl) rfl (by rfl) fun J hJ => ?_
      go_simp
      refine (HK2.out _ _ HBW.out HRG.out).mono ?_
      rintro e ug7 ⟨vz, rfl, hfz, hbz⟩
      obtain ⟨az, nz, cz, rfl, -⟩ := hfz.agg
      have HFZ := Lib.hid hfz
      replace HBW := Lib.hid (below_via HBW.out hbz)
      have HFB := Lib.hid HQU.out
      have HQ' := Lib.hid (HQ.out.below hbz)
      replace HQU := Lib.hid (Nat.lt_of_lt_of_le HQU.out hbz.size)
      clear HQ
      have HQ := HQ'
      clear HQ'
      refine hJ _ _ (fun _ => HSK.out _ HBW.out) ?_
      clear hJ J hfz hbz
      have z0 := HQ.out.m0
      have z1 := HQ.out.m1
      have y0 := HQ.out.f0
      have y1 := HQ.out.f1
      refine anyL_one (i := 6) (by kernel_rfl) rfl (by rfl) fun J hJ => ?_
      go_simp
      refine hJ _ _ (fun e => absurd e (by decide)) ?_
      clear hJ J
      refine anyL_done (by kernel_rfl) ?_ _
      go_wp2_with fail
      go_meet
      exact ⟨q, rfl, boxZ_mk HBW.out HQW.out HQ.out ((HFZ.out.far (stored2_gb _ _ _ _) HFB.out).mono (Nat.le_trans HQW.out (Nat.le_of_lt HFB.out))) HQU.out⟩
  case rest =>
  obtain ⟨gb, rfl, hbz⟩ := hcut
  obtain ⟨w15, hw15⟩ : ∃ x, x = wc := ⟨_, rfl⟩
  subst hw15
  obtain ⟨hb15, -, -, ag, ng, cg, hib, -⟩ := hbz.ibox
  have HGI := Lib.hid hib
  replace HB := Lib.hid (below_via HB.out hb15)
  have g0 := hib.b2.m0
  have g1 := hib.b2.m1
  have hcm : cmpZ o 1 = 0 := by rw [ho]; rfl
  have hoz : ZB 1 o := by rw [ho]; exact zb_ones
  clear hbz hb15 hib ho HN HI HL
  go_upto_region 13 with fail
  refine region_early (fun u => u.cell? ⟨gb, 0, none⟩ = some (.bool (decide (o < 0))) ∧ u.cell? ⟨gb, 1, none⟩ = some (.slice ag ng cg)) 4 [0] 4 hmix (by kernel_rfl) rfl (by kernel_rfl) (fun _ _ d _ _ h => by cases d <;> exact h) ⟨g0, g1⟩ ?_
  iterate 1 (refine early_take rfl (by rfl) ?_; apply Exists.intro; refine ⟨fun u hu => ?_, ?_⟩; (obtain ⟨u_1, u_2⟩ := hu; go_simp; rfl); simp only [Act.put, List.getElem_toArray, List.getElem_cons_zero, List.getElem_cons_succ, List.setIfInBounds_toArray, List.set_cons_zero, List.set_cons_succ])
  refine early_done ?_
  simp only [marked]
  refine anyL_one (i := 1) (by kernel_rfl) rfl (by rfl) fun J hJ => ?_
  go_simp
  refine (zOf_fr 1 (by omega) (by omega) w15.drew).mono ?_
  rintro e w16 ⟨v, rfl, hf, hb⟩
  have hb' := below_via (bl_drew w15) hb
  have hS := And.intro (cell_stays hb' g0) (cell_stays hb' g1)
  have HV := Lib.hid (hf.rd zb_ones (by omega))
  replace HGI := Lib.hid (HGI.out.below hb')
  replace HB := Lib.hid (below_via HB.out hb')
  refine hJ _ _ (fun _ => hS) ?_
  clear hJ J hf hb hb' g0 g1
  refine anyL_one (i := 2) (by kernel_rfl) rfl (by rfl) fun J hJ => ?_
  go_simp
  refine (zCmp_any _ _ o 1 w16 (HGI.out.rd hoz (by omega)) HV.out).mono ?_
  rintro e w17 ⟨rfl, hb⟩
  rw [hcm]
  have hS2 := And.intro (cell_stays hb hS.1) (cell_stays hb hS.2)
  replace HB := Lib.hid (below_via HB.out hb)
  refine hJ _ _ (fun _ => hS2) ?_
  clear hJ J hb hS HV HGI
  refine anyL_yield (i := 3) rfl (by kernel_rfl) (by kernel_rfl) (by kernel_rfl) (by kernel_rfl) (fun _ _ d _ _ h => by cases d <;> exact h) (by rfl) hS2 ?_
  apply Exists.intro
  refine ⟨fun u => ?_, ?_⟩
  · go_simp
    rfl
  simp only [Act.put, List.getElem_toArray, List.getElem_cons_zero, List.getElem_cons_succ, List.setIfInBounds_toArray, List.set_cons_zero, List.set_cons_succ]
  refine anyL_one (i := 4) (by kernel_rfl) rfl (by rfl) fun J hJ => ?_
  go_simp
  refine hJ _ _ (fun e => absurd e (by decide)) ?_
  clear hJ J
  refine anyL_done (by kernel_rfl) ?_ _
  clear hS2
  go_wp2_with fail
  refine bodyPost_ret (v := .bool true) ?_ rfl ⟨rfl, HB.out⟩
  simp [results, Try.results47, go_sem]
end Go.Proofs.Ytejliecmdkmgiaa
