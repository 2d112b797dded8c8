/- The answers of plays and wants as a function of what is read modulo p. The law's roomy: a list of integers in memory of its own, each with marked room behind its words. Printed by gen_m12.py. The walks of the law's kept (where it answers yes) and with. The walk of the law's with. plays, its two lists never both there; what a box holds that an answer was put in. The book of one call's lists: each in memory of its own. The numbers of a call's list written over in place; what stays, and what is read then. -/
import Derived.Test.YtdlpemmoobbgnaaGT
import Derived.Test.YtdlpemmoobbgnaaGS
import Derived.Test.YtdlpemmoobbgnaaGQ
import Derived.Lib.QuietBelow
import Derived.BigQuiet
set_option linter.unusedVariables false
set_option linter.unusedSimpArgs false
namespace Go.Proofs.Ytdlpemmoobbgnaa
open Go.RowKit

def zR : Nat → Raw := fun _ => small 0
def MatD.ans (D : MatD) : AnsD := ⟨D.rr, D.cc, D.nn, D.X, 0, zR, 0, 0, false, D.E⟩
/-- the answer of the call of the kind k, 3 to 9 -/
def ansF (k r c p : Int) (n : Nat) (x : Nat → Raw) (nb : Nat) (b : Nat → Raw) : AnsD :=
  if k = 3 then (redD r c p n x).ans else if k = 4 then ⟨0, 0, 0, zR, 0, zR, detV r c n x p, 0, false, detE r c n p⟩ else if k = 5 then ⟨0, 0, 0, zR, 0, zR, 0, rankV r c n x p, false, openE r c n p true⟩
  else if k = 6 then (echD r c p n x).ans else if k = 7 then (invD r c p n x).ans else if k = 8 then (kerD r c p n x).ans else ⟨0, 0, 0, zR, solN r c n nb x b p, solX r c n nb x b p, 0, 0, false, solE r c n nb x b p⟩

section
variable (k r c p : Int) (hk : 3 ≤ k ∧ k ≤ 9) (hp : 0 ≤ p) (s : Value) (n : Nat) (x : Nat → Raw) (sb : Value) (nb : Nat) (b : Nat → Raw) (w : World) (hr : RdL w s n x) (hrb : RdL w sb nb b)
include hk hp hr hrb
theorem wants_ansF : Calls Try.prog 59 #[.agg #[.int .i64 k, .int .i64 r, .int .i64 c, s, sb, .int .u64 p]] w fun e w' => (ansF k r c p n x nb b).post FrL w.heap.size e w' ∧ Below w.heap.size w w' := by
  have : k = 3 ∨ k = 4 ∨ k = 5 ∨ k = 6 ∨ k = 7 ∨ k = 8 ∨ k = 9 := by omega
  rcases this with rfl | rfl | rfl | rfl | rfl | rfl | rfl
  · exact wants12_3 FrL.keep r c p s n x sb nb b w hr hrb _ _ _ _ _ fun V hV => wa_Reduce r c p hp s n x V (hr.below hV)
  · exact wants12_4 FrL.keep r c p s n x sb nb b w hr hrb _ _ fun V hV => wa_Det r c p hp s n x V (hr.below hV)
  · exact wants12_5 FrL.keep r c p s n x sb nb b w hr hrb _ _ fun V hV => wa_Rank r c p hp s n x V (hr.below hV)
  · exact wants12_6 FrL.keep r c p s n x sb nb b w hr hrb _ _ _ _ _ fun V hV => wa_Echelon r c p hp s n x V (hr.below hV)
  · exact wants12_7 FrL.keep r c p s n x sb nb b w hr hrb _ _ _ _ _ fun V hV => wa_Inverse r c p hp s n x V (hr.below hV)
  · exact wants12_8 FrL.keep r c p s n x sb nb b w hr hrb _ _ _ _ _ fun V hV => wa_Kernel r c p hp s n x V (hr.below hV)
  · exact wants12_9 FrL.keep r c p s n x sb nb b w hr hrb _ _ _ fun V hV => wa_Solve r c p hp s n x V (hr.below hV) sb nb b (hrb.below hV)
end

theorem ansF_congr {k r c p : Int} {n nb : Nat} {x x' b b' : Nat → Raw} (hx : ∀ i, resid (x i) p = resid (x' i) p) (hb : ∀ i, resid (b i) p = resid (b' i) p) : ansF k r c p n x nb b = ansF k r c p n x' nb b' := by
  have e1 : ∀ K, resG p K x = resG p K x' := fun K => by funext i j; exact hx _
  have e2 : ∀ K, besG p K x = besG p K x' := fun K => by unfold besG; rw [e1]
  have e3 : ∀ R K, besS p R K x = besS p R K x' := fun R K => by unfold besS; rw [e2]
  have e4 : ∀ R K, kerR p R K x = kerR p R K x' := fun R K => by unfold kerR; rw [e3]
  have e5 : ∀ R K, kerG p R K x = kerG p R K x' := fun R K => by unfold kerG; rw [e3, e4]
  have e6 : ∀ R K, kerS p R K x = kerS p R K x' := fun R K => by unfold kerS; rw [e4, e5]
  have e7 : ∀ K, sol0 p K b = sol0 p K b' := fun K => by funext j; unfold sol0; rw [hb]
  have e8 : ∀ R K, sol1 p R K x b = sol1 p R K x' b' := fun R K => by unfold sol1; rw [e3, e7]
  have e9 : ∀ R K, sol2 p R K x b = sol2 p R K x' b' := fun R K => by unfold sol2; rw [e8]
  have e10 : ∀ R K, sol3 p R K x b = sol3 p R K x' b' := fun R K => by unfold sol3; rw [e6, e9]
  have e11 : ∀ R, detM p R x = detM p R x' := fun R => by unfold detM; rw [e1]
  have e12 : invE r c n x p = invE r c n x' p := by unfold invE; rw [e3]
  have e13 : solE r c n nb x b p = solE r c n nb x' b' p := by unfold solE; rw [e8]
  unfold ansF redD echD invD kerD detV rankV solN solX
  simp only [e1, e3, e4, e6, e10, e11, e12, e13]

/-- beyond the first n places all alike -/
def trunc (n : Nat) (x : Nat → Raw) : Nat → Raw := fun i => if i < n then x i else small 0
theorem RdL.trunc {w : World} {v : Value} {n : Nat} {x : Nat → Raw} (h : RdL w v n x) : RdL w v n (Go.Proofs.Ytdlpemmoobbgnaa.trunc n x) := by
  obtain ⟨a, cap, rfl, h1, h2, h3⟩ := h
  refine ⟨a, cap, rfl, h1, h2, fun h0 => ?_⟩
  obtain ⟨b, o, rfl, hc⟩ := h3 h0
  refine ⟨b, o, rfl, fun i hi => ?_⟩
  rw [show Go.Proofs.Ytdlpemmoobbgnaa.trunc n x i = x i from if_pos hi]
  exact hc i hi
/-- the answer, of the first n and nb places alone -/
def ansT (k r c p : Int) (n : Nat) (x : Nat → Raw) (nb : Nat) (b : Nat → Raw) : AnsD := ansF k r c p n (trunc n x) nb (trunc nb b)
theorem ansT_congr {k r c p : Int} {n nb : Nat} {x x' b b' : Nat → Raw} (hx : ∀ i, i < n → resid (x i) p = resid (x' i) p) (hb : ∀ i, i < nb → resid (b i) p = resid (b' i) p) : ansT k r c p n x nb b = ansT k r c p n x' nb b' := by
  refine ansF_congr (fun i => ?_) (fun i => ?_)
  · unfold trunc; split
    · exact hx i ‹_›
    · rfl
  · unfold trunc; split
    · exact hb i ‹_›
    · rfl
theorem wants_ans (k r c p : Int) (hk : 3 ≤ k ∧ k ≤ 9) (hp : 0 ≤ p) (s : Value) (n : Nat) (x : Nat → Raw) (sb : Value) (nb : Nat) (b : Nat → Raw) (w : World) (hr : RdL w s n x) (hrb : RdL w sb nb b) :
    Calls Try.prog 59 #[.agg #[.int .i64 k, .int .i64 r, .int .i64 c, s, sb, .int .u64 p]] w fun e w' => (ansT k r c p n x nb b).post FrL w.heap.size e w' ∧ Below w.heap.size w w' :=
  wants_ansF k r c p hk hp s n _ sb nb _ w hr.trunc hrb.trunc
/-- numbers of the same value read the same modulo p -/
theorem resid_val {a b : Raw} {p : Int} (hp : 0 < p) (h : a.val = b.val) : resid a p = resid b p := by rw [resid_eq _ hp, resid_eq _ hp, h]
end Go.Proofs.Ytdlpemmoobbgnaa

namespace Go.Proofs.Ytdlpemmoobbgnaa
open Go.RowKit

theorem mk_roomL (n : Nat) (hn : n ≤ 1048576) (u : World) : (Instr.makeSlice 32 (.int .i64 0) (.int .i64 n)).run Try.prog u =
    .ok (.slice (some ⟨u.heap.size, 0, none⟩) 0 n) (u.alloc (.cells (madeCells #[.bool false, .slice none 0 0] (n * 2)) 56)) := by
  obtain ⟨i0, hi, hz0, hz1, hz2⟩ := info_parts infoI
  have h := run_make (P := Try.prog) u 32 56 i0 (.agg #[.bool false, .slice none 0 0]) Try.underlying32 hi hz0 .i64 .i64 (0 : Int) (n : Int) (by omega) (by omega) (by rw [hz2]; omega) (by omega)
  rw [Int.toNat_natCast, Int.toNat_zero] at h
  simpa only [hz1, Value.cells] using h
theorem room_ownL (w : World) (n : Nat) (hn : n ≤ 1048576) : (w.alloc (.cells (madeCells #[.bool false, .slice none 0 0] (n * 2)) 56)).ownsRow w.heap.size 56 2 (.slice (some ⟨w.heap.size, 0, none⟩) 0 n) 0 [] := by
  refine ⟨rfl, Or.inr ⟨_, n, _, rfl, Nat.le_refl _, heap_alloc_new w _, Nat.zero_le _, by unfold maxLen; omega, ?_, ?_⟩⟩
  · simp [madeCells]; try omega
  · rfl
theorem news2 (w : World) (u v : Value) (t : TypeId) : ∀ j x, [u, v][j]? = some x → (w.alloc (.cells #[u, v] t)).cell? (Addr.add ⟨w.heap.size, 0, none⟩ j) = some x := fun j x hj => by
  have h := (cells2 w u v t j x hj).1
  rw [Addr.add_lit]
  simpa using h
theorem tagIW : 56 ≠ 54 := by decide
theorem tagWW : 22 ≠ 54 := by decide

/-- the integers of the list, and 80 marked ones -/
def roomZ (N : Nat) (X : Nat → Raw) : Nat → Raw := fun i => if i < N then X i else ⟨((i : Int) % 2 == 0), 1, fun _ => (i : Int) + 1099511627776⟩
/-- integer i of the full list: its words with room behind, in the block b -/
def romV (b : Nat) (z : Raw) : Value := .slice (some ⟨b, 0, none⟩) z.n (z.n + 80)
def romW (b : Nat) (z : Raw) : Value := .slice (some ⟨b, 0, none⟩) (z.n + 80) (z.n + 80)

/-- the state of roomy: iF integers stand in the full list, iM lists of words -/
structure RoR (w wr : World) (B : Nat) (vF : Value) (iF : Nat) (vM : Value) (iM : Nat) (R : Nat → Nat) (Z : Nat → Raw) : Prop where
  oF : wr.ownsRow B 56 2 vF iF (flatI (fun i => .bool (Z i).neg) (fun i => romV (R i) (Z i)) iF)
  oM : wr.ownsRow B 54 1 vM iM ((List.range iM).map fun i => romW (R i) (Z i))
  ws : ∀ k, k < iM → Blk wr (R k) ((Z k).n + 80) 22 ∧ RowAt .u64 wr (R k) 0 ((Z k).n + 80) (roomF (Z k).n (Z k).f) ∧ B ≤ R k
  ap : ∀ k l, k < iM → l < iM → k ≠ l → R k ≠ R l
  below : Below B w wr
  size : B ≤ wr.heap.size

section
variable {w wr w1 w2 w3 w' : World} {B iF iM : Nat} {vF vM v' : Value} {R : Nat → Nat} {Z : Nat → Raw}
theorem RoR.after (h : RoR w wr B vF iF vM iM R Z) (hb : Below wr.heap.size wr w') : RoR w w' B vF iF vM iM R Z :=
  ⟨own_below h.oF hb, own_below h.oM hb, fun k hk => by obtain ⟨a, b, c⟩ := h.ws k hk; exact ⟨a.grown (gb_below hb none) (by simp), b.below hb, c⟩, h.ap, h.below.trans (hb.mono h.size), Nat.le_trans h.size hb.size⟩
theorem RoR.farM (h : RoR w wr B vF iF vM iM R Z) : ∀ k, k < iM → some (R k) ≠ vM.ownBlock ∧ some (R k) ≠ vF.ownBlock := fun k hk => by
  obtain ⟨⟨cur, hc, -⟩, -, -⟩ := h.ws k hk
  constructor
  · intro e
    exact own_tag h.oM hc tagWW e.symm
  · intro e
    exact own_tag h.oF hc tagUI e.symm
/-- words with room are made, and put into the list of lists -/
theorem RoR.pushM (h : RoR w wr B vF iF vM iM R Z) (hle : iF ≤ iM) (hb : Below wr.heap.size wr w1) {z : Raw} (hz : Z iM = z) (hblk : Blk w2 w1.heap.size (z.n + 80) 22) (hrow : RowAt .u64 w2 w1.heap.size 0 (z.n + 80) (roomF z.n z.f)) (hb2 : Below w1.heap.size w1 w2)
    (hb3 : Below w2.heap.size w2 w3) (ho : w'.ownsRow B 54 1 v' (iM + 1) (((List.range iM).map fun i => romW (R i) (Z i)) ++ [romW w1.heap.size z])) (hg : w3.grownBy w' vM.ownBlock) :
    RoR w w' B vF iF v' (iM + 1) (fun k => if k = iM then w1.heap.size else R k) Z := by
  have hb12 := hb.trans (hb2.mono hb.size)
  have hb13 := hb12.trans (hb3.mono hb12.size)
  have h3 := h.after hb13
  have hf : ∀ k, k < iM → (if k = iM then w1.heap.size else R k) = R k := fun k hk => if_neg (by omega)
  have hne : some w1.heap.size ≠ vM.ownBlock := fun e => by have := (h.oM.lt _ e.symm).2; have := hb.size; omega
  have hs := hb.size
  refine ⟨?_, ?_, fun k hk => ?_, fun k l hk hl hkl => ?_, h3.below.grown hg h3.size (fun k hk => (h3.oM.lt k hk).1), Nat.le_trans h3.size hg.size⟩
  · rw [flatI_congr (b' := fun i => .bool (Z i).neg) (m' := fun i => romV (R i) (Z i)) (fun i hi => ⟨rfl, by rw [hf i (by omega)]⟩)]
    exact h3.oF.kept hg (own_tags h3.oF h3.oM tagIW)
  · have e : (List.range (iM + 1)).map (fun i => romW (if i = iM then w1.heap.size else R i) (Z i)) = ((List.range iM).map fun i => romW (R i) (Z i)) ++ [romW w1.heap.size z] := by
      rw [List.range_succ, List.map_append, List.map_congr_left (g := fun i => romW (R i) (Z i)) (fun k hk => by rw [hf k (by simpa using hk)])]
      simp [hz]
    rw [e]; exact ho
  · by_cases e : k = iM
    · subst e
      simp only [if_true]
      rw [hz]
      exact ⟨(hblk.grown (gb_below hb3 none) (by simp)).grown hg hne, (hrow.below hb3).gb hg hne, Nat.le_trans h.size hs⟩
    · rw [if_neg e]
      obtain ⟨a, b, c⟩ := h3.ws k (by omega)
      exact ⟨a.grown hg (h3.farM k (by omega)).1, b.gb hg (h3.farM k (by omega)).1, c⟩
  · have hlt2 : ∀ m, m < iM → R m < w1.heap.size := fun m hm => Nat.lt_of_lt_of_le (h.ws m hm).1.lt hs
    by_cases e : k = iM
    · subst e
      simp only [if_true]
      rw [if_neg (fun e => hkl e.symm)]
      have := hlt2 l (by omega); omega
    · rw [if_neg e]
      by_cases e2 : l = iM
      · subst e2
        simp only [if_true]
        have := hlt2 k (by omega); omega
      · rw [if_neg e2]
        exact h.ap k l (by omega) (by omega) hkl
/-- the integer is put into the full list -/
theorem RoR.pushF (h : RoR w wr B vF iF vM (iF + 1) R Z) (hb : Below wr.heap.size wr w1) {g : Bool} {mv : Value} (h1 : (Z iF).neg = g) (h2 : romV (R iF) (Z iF) = mv) (ho : w'.ownsRow B 56 2 v' (iF + 1) (flatI (fun i => .bool (Z i).neg) (fun i => romV (R i) (Z i)) iF ++ [.bool g, mv])) (hg : w1.grownBy w' vF.ownBlock) :
    RoR w w' B v' (iF + 1) vM (iF + 1) R Z := by
  have h3 := h.after hb
  refine ⟨?_, h3.oM.kept hg (own_tags h3.oM h3.oF (fun e => tagIW e.symm)), fun k hk => ?_, h.ap, h3.below.grown hg h3.size (fun k hk => (h3.oF.lt k hk).1), Nat.le_trans h3.size hg.size⟩
  · show w'.ownsRow B _ 2 v' (iF + 1) (flatI _ _ iF ++ [_, _])
    dsimp only
    rw [h1, h2]; exact ho
  · obtain ⟨a, b, c⟩ := h3.ws k hk
    exact ⟨a.grown hg (h3.farM k hk).2, b.gb hg (h3.farM k hk).2, c⟩
end

set_option maxHeartbeats 2000000 in
set_option maxRecDepth 100000 in
theorem roomy_any (v : Value) (N : Nat) (X : Nat → Raw) (hN : N ≤ 16384) (w : World) (hr : RdL w v N X) :
    Calls Try.prog 62 #[v] w fun e w' => ∃ vF vM R, e = .returned (.tuple #[vF, vM]) ∧ RoR w w' w.heap.size vF (N + 80) vM (N + 80) R (roomZ N X) := by
  obtain ⟨a, cap, rfl, g1, g2, g3⟩ := hr
  have G3 := Lib.hid g3
  obtain ⟨i0, hi, hz0, hz1, hz2⟩ := info_parts infoI
  have HI := Lib.hid (And.intro hi (And.intro hz0 (And.intro hz1 hz2)))
  obtain ⟨j0, hj, hj0, hj1, hj2⟩ := info_parts infoBW
  have HJ := Lib.hid (And.intro hj (And.intro hj0 (And.intro hj1 hj2)))
  have m1 := mk_roomL (N + 80) (by omega)
  have e1 : (N : Int) + 80 = ((N + 80 : Nat) : Int) := by omega
  have e2 : IntKind.i64.wrap ((N + 80 : Nat) : Int) = ((N + 80 : Nat) : Int) := IntWalk.i64_in _ (by omega)
  obtain ⟨L, hL⟩ : ∃ L, L = N + 80 := ⟨_, rfl⟩
  rw [← hL] at m1 e1 e2 ⊢
  have hst : RoR w (w.alloc (.cells (madeCells #[.bool false, .slice none 0 0] (L * 2)) 56)) w.heap.size (.slice (some ⟨w.heap.size, 0, none⟩) 0 L) 0 (.slice none 0 0) 0 (fun _ => 0) (roomZ N X) :=
    ⟨room_ownL w L (by omega), World.ownsRow_nil _ _ _ _, fun k hk => absurd hk (by omega), fun k l hk => absurd hk (by omega), (Below.refl _ _).alloc (Nat.le_refl _) _, by simp⟩
  have HST := Lib.hid hst
  have hLa : L ≤ N + 80 := by omega
  have hLb : N + 80 ≤ L := by omega
  clear g3 hi hz0 hz1 hz2 hj hj0 hj1 hj2 hL hst
  go_enter Try.func62, Try.ntmps62
  go_wp2_with fail
  generalize w.alloc (.cells (madeCells #[.bool false, .slice none 0 0] (L * 2)) 56) = W0 at HST ⊢
  go_loopw [4, 5, 6] (fun fv mv iv wr => ∃ (i : Nat) (R : Nat → Nat), i ≤ L ∧ iv = .int .i64 i ∧ RoR w wr w.heap.size fv i mv i R (roomZ N X)) (fun _ _ iv _ => L - (intOf iv).toNat)
  case atStart => exact ⟨0, _, by omega, rfl, HST.out⟩
  case round =>
    clear HST W0
    obtain ⟨i, R, i1, rfl, hrel⟩ := hrel
    obtain ⟨fa, fc, rfl⟩ := own_slice hrel.oF
    obtain ⟨ma, mc, rfl⟩ := own_slice hrel.oM
    by_cases hi : i < L
    · have e3 : IntKind.u64.wrap (i : Int) = i := IntWalk.u64_in _ (by omega)
      have e4 : IntKind.u64.wrap ((i : Int) + 1099511627776) = (i : Int) + 1099511627776 := IntWalk.u64_in _ (by omega)
      have hb0 : Below wr.heap.size wr ((wr.alloc (.cells #[.int .u64 ((i : Int) + 1099511627776)] 22)).alloc (.cells #[.bool ((i : Int) % 2 == 0), .slice (some ⟨wr.heap.size, 0, none⟩) 1 1] 56)) := ((Below.refl _ _).alloc (Nat.le_refl _) _).alloc (by simp) _
      have hn1 := heap_alloc_new wr (.cells #[.int .u64 ((i : Int) + 1099511627776)] 22)
      have hs1 : (wr.alloc (.cells #[.int .u64 ((i : Int) + 1099511627776)] 22)).heap.size = wr.heap.size + 1 := by simp
      have kk := cells2 (wr.alloc (.cells #[.int .u64 ((i : Int) + 1099511627776)] 22)) (.bool ((i : Int) % 2 == 0)) (.slice (some ⟨wr.heap.size, 0, none⟩) 1 1) 56
      have hc1 : (wr.alloc (.cells #[.int .u64 ((i : Int) + 1099511627776)] 22)).cell? ⟨wr.heap.size, 0, none⟩ = some (.int .u64 ((i : Int) + 1099511627776)) := by rw [cell_of_row _ _ _ _ _ _ hn1]; rfl
      have hb1 : Below (wr.alloc (.cells #[.int .u64 ((i : Int) + 1099511627776)] 22)).heap.size (wr.alloc (.cells #[.int .u64 ((i : Int) + 1099511627776)] 22)) ((wr.alloc (.cells #[.int .u64 ((i : Int) + 1099511627776)] 22)).alloc (.cells #[.bool ((i : Int) % 2 == 0), .slice (some ⟨wr.heap.size, 0, none⟩) 1 1] 56)) := (Below.refl _ _).alloc (Nat.le_refl _) _
      have hc2 := cell_stays hb1 hc1
      rw [hs1] at kk
      have x0 := kk 0 _ rfl
      have x1 := kk 1 _ rfl
      have HR := Lib.hid hrel
      have HB0 := Lib.hid hb0
      obtain ⟨x0, y0⟩ := x0
      obtain ⟨x1, y1⟩ := x1
      have hgB : w.heap.size ≤ wr.heap.size := hrel.size
      have hs1' := hs1
      clear hb0 hn1 hs1 kk hc1 hb1 hrel
      have g5 : (0 : Int) ≤ (i : Int) := by omega
      have g6 : (i : Int) < (L : Int) := by omega
      by_cases hin : i < N
      · obtain ⟨b, o, rfl, hc⟩ := G3.out (by omega)
        obtain ⟨mm, d1, d2, d3⟩ := hc i hin
        obtain ⟨am, cm, rfl, -⟩ := d3.1
        have hrd := d3.1
        obtain ⟨gg, hgg⟩ : ∃ gg, gg = (X i).neg := ⟨_, rfl⟩
        obtain ⟨nn, hnn0⟩ : ∃ nn, nn = (X i).n := ⟨_, rfl⟩
        obtain ⟨ff, hff⟩ : ∃ ff, ff = (X i).f := ⟨_, rfl⟩
        have HZ := Lib.hid (show roomZ N X i = ⟨gg, nn, ff⟩ by rw [hgg, hnn0, hff]; exact if_pos hin)
        rw [← hgg] at d1
        rw [← hnn0] at d2 hrd
        rw [← hff] at hrd
        obtain ⟨-, -, -, -, hle, -⟩ := id hrd
        have NN := Lib.hid (show nn ≤ 35184372088832 by omega)
        have hb8 := ((Below.refl wr.heap.size wr).alloc (Nat.le_refl _) (.cells #[.int .u64 ((i : Int) + 1099511627776)] 22)).alloc (by simp) (.cells #[.bool gg, .slice am nn cm] 56)
        have kk := cells2 (wr.alloc (.cells #[.int .u64 ((i : Int) + 1099511627776)] 22)) (.bool gg) (.slice am nn cm) 56
        rw [hs1'] at kk
        obtain ⟨z0, -⟩ := kk 0 _ rfl
        obtain ⟨z1, -⟩ := kk 1 _ rfl
        have HZZ := Lib.hid (And.intro z0 z1)
        have HRD := Lib.hid ((hrd.below HR.out.below).below hb8)
        have d1 := cell_stays HB0.out (cell_stays HR.out.below d1)
        have d2 := cell_stays HB0.out (cell_stays HR.out.below d2)
        have HB8 := Lib.hid hb8
        have g7 : (i : Int) < (N : Int) := by omega
        clear hc d3 hrd hc2 hgg hnn0 hff hle hb8 kk z0 z1
        go_wp2_with fail
        clear x0 x1 y0 y1 d1 d2 HB0
        obtain ⟨x0, x1⟩ := HZZ.out
        clear HZZ
        generalize (wr.alloc (.cells #[.int .u64 ((i : Int) + 1099511627776)] 22)).alloc (.cells #[.bool gg, .slice am nn cm] 56) = W8 at HB8 x0 x1 HRD ⊢
        (with_reducible refine (Roomy_any _ nn ff _ HRD.out).mono ?_)
        rintro e w2 ⟨rfl, hblk, hrow, hb2⟩
        have x0 := cell_stays hb2 x0
        have x1 := cell_stays hb2 x1
        have hgx := World.block_lt_of_cell? w2 _ x0
        have hnn : nn ≤ 35184372088832 := NN.out
        have HB2 := Lib.hid hb2
        have HBK := Lib.hid hblk
        have HRW := Lib.hid hrow
        have hbig := hb2.size
        have hbig0 := HB8.out.size
        have hownM := own_below (own_below HR.out.oM HB8.out) HB2.out
        clear hblk hrow hb2
        go_wp2_with (at_builtin; refine wpList_append_lies _ rfl _ _ 75 rfl w.heap.size 54 j0 (.slice none 0 0) 1 24 Try.underlying75 HJ.out.1 HJ.out.2.1 HJ.out.2.2.1 HJ.out.2.2.2 rfl (by decide) _ _ _ rfl (hownM.alloc _) ⟨w2.heap.size, 0, none⟩ 1 1 [.slice (some ⟨W8.heap.size, 0, none⟩) (nn + 80) (nn + 80)] rfl rfl (one_cell w2 _ _) ?c2 (by decide) ?c3 ?c4 ?c5 _ rfl ?_)
        case c2 => intro u hu; simp at hu; subst hu; rfl
        case c3 => unfold maxLen; omega
        case c4 => omega
        case c5 => simp; omega
        · intro g cap w4 ho hg _ _
          have hr4 := HR.out.pushM (Nat.le_refl _) HB8.out HZ.out HBK.out HRW.out HB2.out ((Below.refl _ _).alloc (Nat.le_refl _) _) ho hg
          have hne : some (wr.heap.size + 1) ≠ Value.ownBlock (.slice ma i mc) := fun e => by have := (HR.out.oM.lt _ e.symm).2; omega
          have x0 := hg.cell (cell_stays ((Below.refl _ _).alloc (Nat.le_refl _) _) x0) hne
          have x1 := hg.cell (cell_stays ((Below.refl _ _).alloc (Nat.le_refl _) _) x1) hne
          have HR4 := Lib.hid hr4
          have hnews := news2 w4.drew (.bool gg) (.slice (some ⟨W8.heap.size, 0, none⟩) nn (nn + 80)) 56
          have hmv : romV ((fun k => if k = i then W8.heap.size else R k) i) (roomZ N X i) = .slice (some ⟨W8.heap.size, 0, none⟩) nn (nn + 80) := by rw [HZ.out]; simp [romV]
          have hgz : (roomZ N X i).neg = gg := by rw [HZ.out]
          have HMV := Lib.hid hmv
          have HGZ := Lib.hid hgz
          have hsz4 := hr4.size
          have hle80 : ((nn : Nat) : Int) ≤ ((nn : Nat) : Int) + 80 := by omega
          clear hr4 hownM hg ho hne hmv hgz HR HBK HRW HB2 HB8 hbig hbig0 hgx HRD
          generalize (fun k => if k = i then W8.heap.size else R k) = R' at HR4 HMV
          have hownF := HR4.out.oF
          go_wp2_with fail
          go_region_law (refine step_append_lies _ rfl (.tmp 43) (.tmp 52) 32 rfl w.heap.size 56 i0 (.agg #[.bool false, .slice none 0 0]) 2 32 Try.underlying32 HI.out.1 HI.out.2.1 HI.out.2.2.1 HI.out.2.2.2 rfl (by decide) (.slice fa i fc) i _ (by simp [Act.eval, Act.put]) (hownF.drew.alloc _) ⟨w4.heap.size, 0, none⟩ 1 1 [.bool gg, .slice (some ⟨W8.heap.size, 0, none⟩) nn (nn + 80)] (by simp [Act.eval, Act.put]) rfl hnews (by intro u hu; simp at hu; rcases hu with rfl | rfl <;> rfl) (by decide) (by unfold maxLen; omega) (by omega) (by simp; omega) _ rfl ?_; intro g2 cap2 w9 o8 g8' o9 o10)
          all_goals
            have hN := HR4.out.pushF ((Below.refl _ _).drew.alloc (Nat.le_refl _) _) HGZ.out HMV.out o8 g8'
            have HNX := Lib.hid hN
            clear hN hownF hnews o8 o9 o10 g8' HMV HGZ HR4 x0 x1
            try clear Q
            go_wp2_with fail
            go_roundw
            case rel => exact ⟨i + 1, _, by omega, by go_num, HNX.out⟩
            case measure => simp [intOf]; omega
      · obtain ⟨gg, hgg⟩ : ∃ gg, gg = ((i : Int) % 2 == 0) := ⟨_, rfl⟩
        have HZ := Lib.hid (show roomZ N X i = ⟨gg, 1, fun _ => (i : Int) + 1099511627776⟩ by rw [hgg]; exact if_neg hin)
        obtain ⟨nn, hnn0⟩ : ∃ nn, nn = 1 := ⟨_, rfl⟩
        have HRD := Lib.hid (show RdA .u64 ((wr.alloc (.cells #[.int .u64 ((i : Int) + 1099511627776)] 22)).alloc (.cells #[.bool ((i : Int) % 2 == 0), .slice (some ⟨wr.heap.size, 0, none⟩) 1 1] 56)) (.slice (some ⟨wr.heap.size, 0, none⟩) 1 1) 1 (fun _ => (i : Int) + 1099511627776) from
          ⟨_, _, rfl, by omega, by omega, fun _ => ⟨_, 0, rfl, fun k hk => by
            obtain rfl : k = 0 := by omega
            exact hc2⟩⟩)
        have HB8 := HB0
        have g7 : ¬ ((i : Int) < (N : Int)) := by omega
        have NN := Lib.hid (show (1 : Nat) ≤ 35184372088832 by omega)
        have HEG := Lib.hid hgg
        clear hc2 hgg
        go_wp2_with fail
        clear y0 y1 HB0
        generalize (wr.alloc (.cells #[.int .u64 ((i : Int) + 1099511627776)] 22)).alloc (.cells #[.bool ((i : Int) % 2 == 0), .slice (some ⟨wr.heap.size, 0, none⟩) 1 1] 56) = W8 at HB8 x0 x1 HRD ⊢
        rw [← HEG.out] at x0
        (with_reducible refine (Roomy_any _ 1 (fun _ => (i : Int) + 1099511627776) _ HRD.out).mono ?_)
        rintro e w2 ⟨rfl, hblk, hrow, hb2⟩
        have x0 := cell_stays hb2 x0
        have x1 := cell_stays hb2 x1
        have hgx := World.block_lt_of_cell? w2 _ x0
        have hnn : 1 ≤ 35184372088832 := by omega
        have HB2 := Lib.hid hb2
        have HBK := Lib.hid hblk
        have HRW := Lib.hid hrow
        have hbig := hb2.size
        have hbig0 := HB8.out.size
        have hownM := own_below (own_below HR.out.oM HB8.out) HB2.out
        clear hblk hrow hb2
        go_wp2_with (at_builtin; refine wpList_append_lies _ rfl _ _ 75 rfl w.heap.size 54 j0 (.slice none 0 0) 1 24 Try.underlying75 HJ.out.1 HJ.out.2.1 HJ.out.2.2.1 HJ.out.2.2.2 rfl (by decide) _ _ _ rfl (hownM.alloc _) ⟨w2.heap.size, 0, none⟩ 1 1 [.slice (some ⟨W8.heap.size, 0, none⟩) (1 + 80) (1 + 80)] rfl rfl (one_cell w2 _ _) ?c2 (by decide) ?c3 ?c4 ?c5 _ rfl ?_)
        case c2 => intro u hu; simp at hu; subst hu; rfl
        case c3 => unfold maxLen; omega
        case c4 => omega
        case c5 => simp; omega
        · intro g cap w4 ho hg _ _
          have hr4 := HR.out.pushM (Nat.le_refl _) HB8.out HZ.out HBK.out HRW.out HB2.out ((Below.refl _ _).alloc (Nat.le_refl _) _) ho hg
          have hne : some (wr.heap.size + 1) ≠ Value.ownBlock (.slice ma i mc) := fun e => by have := (HR.out.oM.lt _ e.symm).2; omega
          have x0 := hg.cell (cell_stays ((Below.refl _ _).alloc (Nat.le_refl _) _) x0) hne
          have x1 := hg.cell (cell_stays ((Below.refl _ _).alloc (Nat.le_refl _) _) x1) hne
          have HR4 := Lib.hid hr4
          have hnews := news2 w4.drew (.bool gg) (.slice (some ⟨W8.heap.size, 0, none⟩) 1 (1 + 80)) 56
          have hmv : romV ((fun k => if k = i then W8.heap.size else R k) i) (roomZ N X i) = .slice (some ⟨W8.heap.size, 0, none⟩) 1 (1 + 80) := by rw [HZ.out]; simp [romV]
          have hgz : (roomZ N X i).neg = gg := by rw [HZ.out]
          have HMV := Lib.hid hmv
          have HGZ := Lib.hid hgz
          have hsz4 := hr4.size
          clear hr4 hownM hg ho hne hmv hgz HR HBK HRW HB2 HB8 hbig hbig0 hgx HRD
          generalize (fun k => if k = i then W8.heap.size else R k) = R' at HR4 HMV
          have hownF := HR4.out.oF
          go_wp2_with fail
          go_region_law (refine step_append_lies _ rfl (.tmp 43) (.tmp 52) 32 rfl w.heap.size 56 i0 (.agg #[.bool false, .slice none 0 0]) 2 32 Try.underlying32 HI.out.1 HI.out.2.1 HI.out.2.2.1 HI.out.2.2.2 rfl (by decide) (.slice fa i fc) i _ (by simp [Act.eval, Act.put]) (hownF.drew.alloc _) ⟨w4.heap.size, 0, none⟩ 1 1 [.bool gg, .slice (some ⟨W8.heap.size, 0, none⟩) 1 (1 + 80)] (by simp [Act.eval, Act.put]) rfl hnews (by intro u hu; simp at hu; rcases hu with rfl | rfl <;> rfl) (by decide) (by unfold maxLen; omega) (by omega) (by simp; omega) _ rfl ?_; intro g2 cap2 w9 o8 g8' o9 o10)
          all_goals
            have hN := HR4.out.pushF ((Below.refl _ _).drew.alloc (Nat.le_refl _) _) HGZ.out HMV.out o8 g8'
            have HNX := Lib.hid hN
            clear hN hownF hnews o8 o9 o10 g8' HMV HGZ HR4 x0 x1
            try clear Q
            go_wp2_with fail
            go_roundw
            case rel => exact ⟨i + 1, _, by omega, by go_num, HNX.out⟩
            case measure => simp [intOf]; omega
    · obtain rfl : L = i := by omega
      have HR := Lib.hid hrel
      clear hrel
      go_wp2_with fail
      go_ret2
      exact ⟨_, _, R, rfl, HR.out⟩
end Go.Proofs.Ytdlpemmoobbgnaa

namespace Go.Proofs.Ytdlpemmoobbgnaa
open Go.RowKit

/-- what roomy has made, as it reads -/
structure RoM (w : World) (vF : Value) (vM : Value) (L : Nat) (R : Nat → Nat) (Z : Nat → Raw) : Prop where
  F : ∃ b cap, vF = .slice (some ⟨b, 0, none⟩) L cap ∧ L ≤ cap ∧ ∀ k, k < L → w.cell? ⟨b, k * 2, none⟩ = some (.bool (Z k).neg) ∧ w.cell? ⟨b, k * 2 + 1, none⟩ = some (romV (R k) (Z k))
  M : ∃ b cap, vM = .slice (some ⟨b, 0, none⟩) L cap ∧ L ≤ cap ∧ ∀ k, k < L → w.cell? ⟨b, k, none⟩ = some (romW (R k) (Z k))
  ws : ∀ k, k < L → RowAt .u64 w (R k) 0 ((Z k).n + 80) (roomF (Z k).n (Z k).f)

theorem RoM.below {w w' : World} {vF vM : Value} {L : Nat} {R : Nat → Nat} {Z : Nat → Raw} (h : RoM w vF vM L R Z) (hb : Below w.heap.size w w') : RoM w' vF vM L R Z := by
  obtain ⟨⟨b, cap, e, f1, f2⟩, ⟨b', cap', e', g1, g2⟩, hw⟩ := h
  exact ⟨⟨b, cap, e, f1, fun k hk => ⟨cell_stays hb (f2 k hk).1, cell_stays hb (f2 k hk).2⟩⟩, ⟨b', cap', e', g1, fun k hk => cell_stays hb (g2 k hk)⟩, fun k hk => (hw k hk).below hb⟩
theorem RoR.rom {w wr : World} {B L : Nat} {vF vM : Value} {R : Nat → Nat} {Z : Nat → Raw} (h : RoR w wr B vF L vM L R Z) (h0 : 0 < L) : RoM wr vF vM L R Z := by
  refine ⟨?_, ?_, fun k hk => (h.ws k hk).2.1⟩
  · rcases h.oF.2 with ⟨-, e⟩ | ⟨g, cap, cur, e, -, h3, h4, -, -, h5⟩
    · omega
    · refine ⟨g, cap, e, h4, fun k hk => ?_⟩
      have f1 := (flatI_at (fun i => Value.bool (Z i).neg) (fun i => romV (R i) (Z i)) L k hk).1
      have f2 := (flatI_at (fun i => Value.bool (Z i).neg) (fun i => romV (R i) (Z i)) L k hk).2
      rw [← h5, List.getElem?_take, if_pos (by omega)] at f1 f2
      exact ⟨by rw [cell_of_row _ _ _ _ _ _ h3]; simpa using f1, by rw [cell_of_row _ _ _ _ _ _ h3]; simpa using f2⟩
  · rcases h.oM.2 with ⟨-, e⟩ | ⟨g, cap, cur, e, -, h3, h4, -⟩
    · omega
    · refine ⟨g, cap, e, h4, fun k hk => ?_⟩
      obtain ⟨g', cap', e', h6⟩ := own_cell h.oM hk
      rw [e] at e'
      injection e' with e1 _ e3
      injection e1 with e1
      injection e1 with e1
      rw [e1]
      exact h6

theorem kept_pair (W8 : World) (Ri nn : Nat) (gg : Bool) (ff : Nat → Int) (mm : Value) (hrow : RowAt .u64 W8 Ri 0 (nn + 80) (roomF nn ff)) (hx : RdW W8 mm nn ff) (hn : nn ≤ 1048576) :
    (∀ W, Below W8.heap.size W8 W → Calls Try.prog 54 #[.agg #[.bool gg, .slice (some ⟨Ri, 0, none⟩) nn (nn + 80)], .agg #[.bool gg, mm]] W fun e w' => e = .returned (.bool true) ∧ Below W.heap.size W w') ∧
    (∀ W, Below W8.heap.size W8 W → Calls Try.prog 92 #[.slice (some ⟨Ri, 0, none⟩) (nn + 80) (nn + 80), mm] W fun e w' => e = .returned (.bool true) ∧ Below W.heap.size W w') := by
  refine ⟨fun W hW => ?_, fun W hW => ?_⟩
  · refine alike_yes _ _ ⟨gg, nn, ff⟩ ⟨gg, nn, ff⟩ W ⟨_, rfl, ⟨⟨_, _, rfl, by show nn ≤ nn + 80; omega, by show nn ≤ _; omega, fun _ => ⟨Ri, 0, rfl, fun i hi => ?_⟩⟩, hx.2⟩⟩ ⟨_, rfl, hx.below hW⟩ (RawEq.refl _)
    have := ((hrow.below hW) i (by have : i < nn := hi; omega)).1
    rw [show roomF nn ff i = ff i from if_pos hi] at this
    exact this
  · exact Kept_yes _ _ nn ff (roomF nn ff) W ⟨_, _, rfl, by omega, by omega, fun _ => ⟨Ri, 0, rfl, fun i hi => ((hrow.below hW) i hi).1⟩⟩ (hx.1.below hW) (fun _ _ => rfl)

set_option maxHeartbeats 2000000 in
set_option maxRecDepth 100000 in
theorem kept_yes (vF vM v : Value) (N : Nat) (X : Nat → Raw) (R : Nat → Nat) (hN : N ≤ 16384) (hs : ∀ i, i < N → (X i).n ≤ 1048576) (w : World) (hr : RdL w v N X) (hm : RoM w vF vM (N + 80) R (roomZ N X)) :
    Calls Try.prog 64 #[vF, vM, v] w fun e w' => e = .returned (.bool true) ∧ Below w.heap.size w w' := by
  obtain ⟨a, cap, rfl, g1, g2, g3⟩ := hr
  obtain ⟨bF, cF, rfl, cF1, hF⟩ := hm.F
  obtain ⟨bM, cM, rfl, cM1, hM⟩ := hm.M
  have HWS := Lib.hid hm.ws
  have HF := Lib.hid hF
  have HM := Lib.hid hM
  have G3 := Lib.hid g3
  have HS := Lib.hid hs
  have hL0 : ∃ L, L = N + 80 := ⟨_, rfl⟩
  obtain ⟨L, hL⟩ := hL0
  rw [← hL] at HWS HF HM cF1 cM1 ⊢
  have hLa : L ≤ N + 80 := by omega
  have hLb : N + 80 ≤ L := by omega
  clear g3 hL hm hF hM hs
  go_enter Try.func64, Try.ntmps64
  go_wp2_with fail
  go_loopw [7] (fun iv wr => ∃ (i : Nat), i ≤ L ∧ iv = .int .i64 i ∧ Below w.heap.size w wr) (fun iv _ => L - (intOf iv).toNat)
  case atStart => exact ⟨0, by omega, rfl, Below.refl _ _⟩
  case round =>
    obtain ⟨i, i1, rfl, hbw⟩ := hrel
    by_cases hi : i < L
    · have e3 : IntKind.u64.wrap (i : Int) = i := IntWalk.u64_in _ (by omega)
      have e4 : IntKind.u64.wrap ((i : Int) + 1099511627776) = (i : Int) + 1099511627776 := IntWalk.u64_in _ (by omega)
      have hb0 : Below wr.heap.size wr ((wr.alloc (.cells #[.int .u64 ((i : Int) + 1099511627776)] 22)).alloc (.cells #[.bool ((i : Int) % 2 == 0), .slice (some ⟨wr.heap.size, 0, none⟩) 1 1] 56)) := ((Below.refl _ _).alloc (Nat.le_refl _) _).alloc (by simp) _
      have hn1 := heap_alloc_new wr (.cells #[.int .u64 ((i : Int) + 1099511627776)] 22)
      have hs1 : (wr.alloc (.cells #[.int .u64 ((i : Int) + 1099511627776)] 22)).heap.size = wr.heap.size + 1 := by simp
      have hs1' := hs1
      have kk := cells2 (wr.alloc (.cells #[.int .u64 ((i : Int) + 1099511627776)] 22)) (.bool ((i : Int) % 2 == 0)) (.slice (some ⟨wr.heap.size, 0, none⟩) 1 1) 56
      have hc1 : (wr.alloc (.cells #[.int .u64 ((i : Int) + 1099511627776)] 22)).cell? ⟨wr.heap.size, 0, none⟩ = some (.int .u64 ((i : Int) + 1099511627776)) := by rw [cell_of_row _ _ _ _ _ _ hn1]; rfl
      have hb1 : Below (wr.alloc (.cells #[.int .u64 ((i : Int) + 1099511627776)] 22)).heap.size (wr.alloc (.cells #[.int .u64 ((i : Int) + 1099511627776)] 22)) ((wr.alloc (.cells #[.int .u64 ((i : Int) + 1099511627776)] 22)).alloc (.cells #[.bool ((i : Int) % 2 == 0), .slice (some ⟨wr.heap.size, 0, none⟩) 1 1] 56)) := (Below.refl _ _).alloc (Nat.le_refl _) _
      have hc2 := cell_stays hb1 hc1
      rw [hs1] at kk
      obtain ⟨x0, y0⟩ := kk 0 _ rfl
      obtain ⟨x1, y1⟩ := kk 1 _ rfl
      have HB0 := Lib.hid hb0
      have HBW := Lib.hid hbw
      obtain ⟨q0, q1⟩ := HF.out i hi
      have q0 := cell_stays hbw q0
      have q1 := cell_stays hbw q1
      have q2 := cell_stays hbw (HM.out i hi)
      have q3 := (HWS.out i hi).below hbw
      clear hb0 hn1 hs1 kk hc1 hb1 hbw
      have g5 : (0 : Int) ≤ (i : Int) := by omega
      have g6 : (i : Int) < (L : Int) := by omega
      obtain ⟨Ri, hRi⟩ : ∃ Ri, Ri = R i := ⟨_, rfl⟩
      rw [← hRi] at q1 q2 q3
      clear hRi
      by_cases hin : i < N
      · obtain ⟨b, o, rfl, hc⟩ := G3.out (by omega)
        obtain ⟨mm, d1, d2, d3⟩ := hc i hin
        obtain ⟨am, cm, rfl, -⟩ := d3.1
        have hrd := d3
        obtain ⟨gg, hgg⟩ : ∃ gg, gg = (X i).neg := ⟨_, rfl⟩
        obtain ⟨nn, hnn0⟩ : ∃ nn, nn = (X i).n := ⟨_, rfl⟩
        obtain ⟨ff, hff⟩ : ∃ ff, ff = (X i).f := ⟨_, rfl⟩
        have hZ : roomZ N X i = ⟨gg, nn, ff⟩ := by rw [hgg, hnn0, hff]; exact if_pos hin
        rw [hZ] at q0 q1 q2 q3
        rw [← hgg] at d1
        rw [← hnn0] at d2 hrd
        rw [← hff] at hrd
        have NN := Lib.hid (show nn ≤ 1048576 by rw [hnn0]; exact HS.out i hin)
        have hb8 := ((Below.refl wr.heap.size wr).alloc (Nat.le_refl _) (.cells #[.int .u64 ((i : Int) + 1099511627776)] 22)).alloc (by simp) (.cells #[.bool gg, .slice am nn cm] 56)
        have kk := cells2 (wr.alloc (.cells #[.int .u64 ((i : Int) + 1099511627776)] 22)) (.bool gg) (.slice am nn cm) 56
        rw [hs1'] at kk
        have HZZ := Lib.hid (And.intro (kk 0 _ rfl).1 (kk 1 _ rfl).1)
        have HRD := Lib.hid ((hrd.below HBW.out).below hb8)
        have HRW := Lib.hid (q3.below hb8)
        have HQ := Lib.hid (And.intro (cell_stays hb8 q0) (And.intro (cell_stays hb8 q1) (cell_stays hb8 q2)))
        have d1 := cell_stays HB0.out (cell_stays HBW.out d1)
        have d2 := cell_stays HB0.out (cell_stays HBW.out d2)
        have HB8 := Lib.hid hb8
        have g7 : (i : Int) < (N : Int) := by omega
        clear hc d3 hrd hc2 hgg hnn0 hff hb8 kk hZ q0 q1 q2 q3
        go_wp2_with fail
        clear x0 x1 y0 y1 d1 d2 HB0
        obtain ⟨x0, x1⟩ := HZZ.out
        obtain ⟨p0, p1, p2⟩ := HQ.out
        clear HZZ HQ
        generalize (wr.alloc (.cells #[.int .u64 ((i : Int) + 1099511627776)] 22)).alloc (.cells #[.bool gg, .slice am nn cm] 56) = W8 at HB8 x0 x1 p0 p1 p2 HRD HRW ⊢
        simp only [romV, romW] at p1 p2
        obtain ⟨hal, hkp⟩ := kept_pair W8 Ri nn gg ff _ HRW.out HRD.out NN.out
        have HAL := Lib.hid hal
        have HKP := Lib.hid hkp
        have x0 := fun d os => cell_regrown x0 d os
        have x1 := fun d os => cell_regrown x1 d os
        have p0 := fun d os => cell_regrown p0 d os
        have p1 := fun d os => cell_regrown p1 d os
        have p2 := fun d os => cell_regrown p2 d os
        clear hal hkp HRW HRD NN
        refine wp_region_quiet_below (by kernel_rfl) (by kernel_rfl) ?_
        repeat (go_big_quiet_step (first | (go_at_call 54; exact Calls.regrown_of (HAL.out _ (below_regrown _ _ _))) | (go_at_call 92; exact Calls.regrown_of (HKP.out _ (below_regrown _ _ _)))))
        refine wpQuiet_nil ?_
        intro _ hw'
        obtain ⟨⟨dq, osq⟩, hw''⟩ := hw'
        subst hw''
        go_wp2_with fail
        go_roundw
        case rel => exact ⟨i + 1, by omega, by go_num, HBW.out.trans ((HB8.out.trans ((below_regrown _ _ _).mono HB8.out.size)).mono HBW.out.size)⟩
        case measure => simp [intOf]; omega
      · obtain ⟨gg, hgg⟩ : ∃ gg, gg = ((i : Int) % 2 == 0) := ⟨_, rfl⟩
        have hZ : roomZ N X i = ⟨gg, 1, fun _ => (i : Int) + 1099511627776⟩ := by rw [hgg]; exact if_neg hin
        obtain ⟨ff, hff⟩ : ∃ ff : Nat → Int, ff = fun _ => (i : Int) + 1099511627776 := ⟨_, rfl⟩
        rw [← hff] at hZ
        rw [hZ] at q0 q1 q2 q3
        obtain ⟨nn, hnn0⟩ : ∃ nn, nn = 1 := ⟨_, rfl⟩
        have NN := Lib.hid (show (1 : Nat) ≤ 1048576 by omega)
        have hb8 := HB0.out
        have HRD := Lib.hid (show RdW ((wr.alloc (.cells #[.int .u64 ((i : Int) + 1099511627776)] 22)).alloc (.cells #[.bool ((i : Int) % 2 == 0), .slice (some ⟨wr.heap.size, 0, none⟩) 1 1] 56)) (.slice (some ⟨wr.heap.size, 0, none⟩) 1 1) 1 ff from
          ⟨⟨_, _, rfl, by omega, by omega, fun _ => ⟨_, 0, rfl, fun k hk => by
            obtain rfl : k = 0 := by omega
            rw [hff]
            exact hc2⟩⟩, fun k hk => by
            rw [hff]
            show 0 ≤ (i : Int) + 1099511627776 ∧ (i : Int) + 1099511627776 ≤ 18446744073709551615
            omega⟩)
        have HRW := Lib.hid (q3.below hb8)
        have HQ := Lib.hid (And.intro (cell_stays hb8 q0) (And.intro (cell_stays hb8 q1) (cell_stays hb8 q2)))
        have HB8 := HB0
        have HEG := Lib.hid hgg
        have g7 : ¬ ((i : Int) < (N : Int)) := by omega
        clear hc2 hgg hff hb8 hZ q0 q1 q2 q3 hnn0
        go_wp2_with fail
        clear y0 y1 HB0
        obtain ⟨p0, p1, p2⟩ := HQ.out
        clear HQ
        generalize (wr.alloc (.cells #[.int .u64 ((i : Int) + 1099511627776)] 22)).alloc (.cells #[.bool ((i : Int) % 2 == 0), .slice (some ⟨wr.heap.size, 0, none⟩) 1 1] 56) = W8 at HB8 x0 x1 p0 p1 p2 HRD HRW ⊢
        simp only [romV, romW] at p1 p2
        rw [← HEG.out] at x0
        obtain ⟨hal, hkp⟩ := kept_pair W8 Ri 1 gg ff (.slice (some ⟨wr.heap.size, 0, none⟩) 1 1) HRW.out HRD.out NN.out
        have HAL := Lib.hid hal
        have HKP := Lib.hid hkp
        have x0 := fun d os => cell_regrown x0 d os
        have x1 := fun d os => cell_regrown x1 d os
        have p0 := fun d os => cell_regrown p0 d os
        have p1 := fun d os => cell_regrown p1 d os
        have p2 := fun d os => cell_regrown p2 d os
        clear hal hkp HRW HRD NN
        refine wp_region_quiet_below (by kernel_rfl) (by kernel_rfl) ?_
        repeat (go_big_quiet_step (first | (go_at_call 54; exact Calls.regrown_of (HAL.out _ (below_regrown _ _ _))) | (go_at_call 92; exact Calls.regrown_of (HKP.out _ (below_regrown _ _ _)))))
        refine wpQuiet_nil ?_
        intro _ hw'
        obtain ⟨⟨dq, osq⟩, hw''⟩ := hw'
        subst hw''
        go_wp2_with fail
        go_roundw
        case rel => exact ⟨i + 1, by omega, by go_num, HBW.out.trans ((HB8.out.trans ((below_regrown _ _ _).mono HB8.out.size)).mono HBW.out.size)⟩
        case measure => simp [intOf]; omega
    · obtain rfl : L = i := by omega
      go_wp2_with fail
      go_ret
      exact ⟨rfl, hbw⟩
end Go.Proofs.Ytdlpemmoobbgnaa

namespace Go.Proofs.Ytdlpemmoobbgnaa
open Go.RowKit

set_option maxHeartbeats 2000000 in
set_option maxRecDepth 100000 in
theorem with_any (k r c p : Int) (s sb : Option Addr) (n nb cs cb : Nat) (a : Option Addr) (l cap : Nat) (hle : n + nb ≤ l) (hcap : l ≤ cap) (hb : l ≤ 4398046511104) (ha : (a = none ∧ cap = 0) ∨ ∃ b o, a = some ⟨b, o, none⟩) (w : World) :
    Calls Try.prog 63 #[.agg #[.int .i64 k, .int .i64 r, .int .i64 c, .slice s n cs, .slice sb nb cb, .int .u64 p], .slice a l cap] w fun e w' => 
      (∃ a', e = .returned (.agg #[.int .i64 k, .int .i64 r, .int .i64 c, .slice a n cap, .slice a' nb (cap - n), .int .u64 p]) ∧ (0 < nb → ∃ b o, a = some ⟨b, o, none⟩ ∧ a' = some ⟨b, o + n * 2, none⟩)) ∧ Below w.heap.size w w' := by
  have e1 : IntKind.i64.wrap ((n : Int) + (nb : Int)) = (n : Int) + (nb : Int) := IntWalk.i64_in _ (by omega)
  rcases ha with ⟨rfl, rfl⟩ | ⟨b, o, rfl⟩
  · obtain rfl : n = 0 := by omega
    obtain rfl : nb = 0 := by omega
    obtain rfl : l = 0 := by omega
    have e2 : IntKind.i64.wrap (0 : Int) = 0 := IntWalk.i64_in _ (by omega)
    clear e1
    have z1 := cellsOf w [.int .i64 k, .int .i64 r, .int .i64 c, .slice s 0 cs, .slice sb 0 cb, .int .u64 p] 62
    have hb1 : Below w.heap.size w (w.alloc (.cells #[.int .i64 k, .int .i64 r, .int .i64 c, .slice s 0 cs, .slice sb 0 cb, .int .u64 p] 62)) := (Below.refl _ _).alloc (Nat.le_refl _) _
    have hs1 : (w.alloc (.cells #[.int .i64 k, .int .i64 r, .int .i64 c, .slice s 0 cs, .slice sb 0 cb, .int .u64 p] 62)).heap.size = w.heap.size + 1 := by simp
    have z2 := cellsOf (w.alloc (.cells #[.int .i64 k, .int .i64 r, .int .i64 c, .slice s 0 cs, .slice sb 0 cb, .int .u64 p] 62)) [.int .i64 0, .int .i64 0, .int .i64 0, .slice none 0 0, .slice none 0 0, .int .u64 0] 62
    have hb2 : Below (w.alloc (.cells #[.int .i64 k, .int .i64 r, .int .i64 c, .slice s 0 cs, .slice sb 0 cb, .int .u64 p] 62)).heap.size (w.alloc (.cells #[.int .i64 k, .int .i64 r, .int .i64 c, .slice s 0 cs, .slice sb 0 cb, .int .u64 p] 62)) ((w.alloc (.cells #[.int .i64 k, .int .i64 r, .int .i64 c, .slice s 0 cs, .slice sb 0 cb, .int .u64 p] 62)).alloc (.cells #[.int .i64 0, .int .i64 0, .int .i64 0, .slice none 0 0, .slice none 0 0, .int .u64 0] 62)) := (Below.refl _ _).alloc (Nat.le_refl _) _
    rw [hs1] at z2
    have HB := Lib.hid (hb1.trans (hb2.mono hb1.size))
    have x0 := cell_stays hb2 (z1 0 _ rfl).1
    have x1 := cell_stays hb2 (z1 1 _ rfl).1
    have x2 := cell_stays hb2 (z1 2 _ rfl).1
    have x3 := cell_stays hb2 (z1 3 _ rfl).1
    have x4 := cell_stays hb2 (z1 4 _ rfl).1
    have x5 := cell_stays hb2 (z1 5 _ rfl).1
    obtain ⟨y0, f0⟩ := z2 0 _ rfl
    obtain ⟨y1, f1⟩ := z2 1 _ rfl
    obtain ⟨y2, f2⟩ := z2 2 _ rfl
    obtain ⟨y3, f3⟩ := z2 3 _ rfl
    obtain ⟨y4, f4⟩ := z2 4 _ rfl
    obtain ⟨y5, f5⟩ := z2 5 _ rfl
    clear z1 z2 hb1 hb2 hs1
    go_enter Try.func63, Try.ntmps63
    go_wp2_with fail
    generalize (w.alloc (.cells #[.int .i64 k, .int .i64 r, .int .i64 c, .slice s 0 cs, .slice sb 0 cb, .int .u64 p] 62)).alloc (.cells #[.int .i64 0, .int .i64 0, .int .i64 0, .slice none 0 0, .slice none 0 0, .int .u64 0] 62) = W at HB x0 x1 x2 x3 x4 x5 y0 y1 y2 y3 y4 y5 f0 f1 f2 f3 f4 f5 ⊢
    refine wp_region_still_tail 23 (by kernel_rfl) (by kernel_rfl) ?_
    simp only [List.take_succ_cons, List.take_zero, List.drop_succ_cons, List.drop_zero]
    repeat still_step
    refine wpStill_nil ?_
    change wpList _ _ _ _ _ W.drew
    go_wp2_with fail
    have hs : Below w.heap.size w _ := (((((((HB.out.setCell (p := ⟨w.heap.size + 1, 0, none⟩) (Nat.le_succ _) (.int .i64 k)).setCell (p := ⟨w.heap.size + 1, 1, none⟩) (Nat.le_succ _) (.int .i64 r)).setCell (p := ⟨w.heap.size + 1, 2, none⟩) (Nat.le_succ _) (.int .i64 c)).setCell (p := ⟨w.heap.size + 1, 3, none⟩) (Nat.le_succ _) (.slice none 0 0)).setCell (p := ⟨w.heap.size + 1, 4, none⟩) (Nat.le_succ _) (.slice none 0 0)).setCell (p := ⟨w.heap.size + 1, 5, none⟩) (Nat.le_succ _) (.int .u64 p)).drew)
    refine bodyPost_ret (v := .agg #[.int .i64 k, .int .i64 r, .int .i64 c, .slice none 0 0, .slice none 0 0, .int .u64 p]) ?_ rfl ⟨⟨none, rfl, fun h => absurd h (by omega)⟩, hs⟩
    simp [results, Try.results63, go_sem, y0, y1, y2, y3, y4, y5]
  · by_cases hnc : n = cap
    · subst hnc
      obtain rfl : nb = 0 := by omega
      obtain rfl : l = n := by omega
      have e2 : IntKind.i64.wrap (l : Int) = (l : Int) := IntWalk.i64_in _ (by omega)
      clear e1
      have z1 := cellsOf w [.int .i64 k, .int .i64 r, .int .i64 c, .slice s l cs, .slice sb 0 cb, .int .u64 p] 62
      have hb1 : Below w.heap.size w (w.alloc (.cells #[.int .i64 k, .int .i64 r, .int .i64 c, .slice s l cs, .slice sb 0 cb, .int .u64 p] 62)) := (Below.refl _ _).alloc (Nat.le_refl _) _
      have hs1 : (w.alloc (.cells #[.int .i64 k, .int .i64 r, .int .i64 c, .slice s l cs, .slice sb 0 cb, .int .u64 p] 62)).heap.size = w.heap.size + 1 := by simp
      have z2 := cellsOf (w.alloc (.cells #[.int .i64 k, .int .i64 r, .int .i64 c, .slice s l cs, .slice sb 0 cb, .int .u64 p] 62)) [.int .i64 0, .int .i64 0, .int .i64 0, .slice none 0 0, .slice none 0 0, .int .u64 0] 62
      have hb2 : Below (w.alloc (.cells #[.int .i64 k, .int .i64 r, .int .i64 c, .slice s l cs, .slice sb 0 cb, .int .u64 p] 62)).heap.size (w.alloc (.cells #[.int .i64 k, .int .i64 r, .int .i64 c, .slice s l cs, .slice sb 0 cb, .int .u64 p] 62)) ((w.alloc (.cells #[.int .i64 k, .int .i64 r, .int .i64 c, .slice s l cs, .slice sb 0 cb, .int .u64 p] 62)).alloc (.cells #[.int .i64 0, .int .i64 0, .int .i64 0, .slice none 0 0, .slice none 0 0, .int .u64 0] 62)) := (Below.refl _ _).alloc (Nat.le_refl _) _
      rw [hs1] at z2
      have HB := Lib.hid (hb1.trans (hb2.mono hb1.size))
      have x0 := cell_stays hb2 (z1 0 _ rfl).1
      have x1 := cell_stays hb2 (z1 1 _ rfl).1
      have x2 := cell_stays hb2 (z1 2 _ rfl).1
      have x3 := cell_stays hb2 (z1 3 _ rfl).1
      have x4 := cell_stays hb2 (z1 4 _ rfl).1
      have x5 := cell_stays hb2 (z1 5 _ rfl).1
      obtain ⟨y0, f0⟩ := z2 0 _ rfl
      obtain ⟨y1, f1⟩ := z2 1 _ rfl
      obtain ⟨y2, f2⟩ := z2 2 _ rfl
      obtain ⟨y3, f3⟩ := z2 3 _ rfl
      obtain ⟨y4, f4⟩ := z2 4 _ rfl
      obtain ⟨y5, f5⟩ := z2 5 _ rfl
      clear z1 z2 hb1 hb2 hs1
      go_enter Try.func63, Try.ntmps63
      go_wp2_with fail
      generalize (w.alloc (.cells #[.int .i64 k, .int .i64 r, .int .i64 c, .slice s l cs, .slice sb 0 cb, .int .u64 p] 62)).alloc (.cells #[.int .i64 0, .int .i64 0, .int .i64 0, .slice none 0 0, .slice none 0 0, .int .u64 0] 62) = W at HB x0 x1 x2 x3 x4 x5 y0 y1 y2 y3 y4 y5 f0 f1 f2 f3 f4 f5 ⊢
      refine wp_region_still_tail 23 (by kernel_rfl) (by kernel_rfl) ?_
      simp only [List.take_succ_cons, List.take_zero, List.drop_succ_cons, List.drop_zero]
      repeat still_step
      refine wpStill_nil ?_
      change wpList _ _ _ _ _ W.drew
      go_wp2_with fail
      have hs : Below w.heap.size w _ := (((((((HB.out.setCell (p := ⟨w.heap.size + 1, 0, none⟩) (Nat.le_succ _) (.int .i64 k)).setCell (p := ⟨w.heap.size + 1, 1, none⟩) (Nat.le_succ _) (.int .i64 r)).setCell (p := ⟨w.heap.size + 1, 2, none⟩) (Nat.le_succ _) (.int .i64 c)).setCell (p := ⟨w.heap.size + 1, 3, none⟩) (Nat.le_succ _) (.slice (some ⟨b, o, none⟩) l l)).setCell (p := ⟨w.heap.size + 1, 4, none⟩) (Nat.le_succ _) (.slice (some ⟨b, o, none⟩) 0 0)).setCell (p := ⟨w.heap.size + 1, 5, none⟩) (Nat.le_succ _) (.int .u64 p)).drew)
      refine bodyPost_ret (v := .agg #[.int .i64 k, .int .i64 r, .int .i64 c, .slice (some ⟨b, o, none⟩) l l, .slice (some ⟨b, o, none⟩) 0 0, .int .u64 p]) ?_ rfl ⟨⟨some ⟨b, o, none⟩, by rw [Nat.sub_self], fun h => absurd h (by omega)⟩, hs⟩
      simp [results, Try.results63, go_sem, y0, y1, y2, y3, y4, y5]
    · have t0 : (n : Int) ≤ (cap : Int) := by omega
      have t1 : (n : Int) ≤ (n : Int) + (nb : Int) := by omega
      have t2 : (n : Int) + (nb : Int) ≤ (cap : Int) := by omega
      have t3 : (0 : Int) ≤ (n : Int) + (nb : Int) := by omega
      have z1 := cellsOf w [.int .i64 k, .int .i64 r, .int .i64 c, .slice s n cs, .slice sb nb cb, .int .u64 p] 62
      have hb1 : Below w.heap.size w (w.alloc (.cells #[.int .i64 k, .int .i64 r, .int .i64 c, .slice s n cs, .slice sb nb cb, .int .u64 p] 62)) := (Below.refl _ _).alloc (Nat.le_refl _) _
      have hs1 : (w.alloc (.cells #[.int .i64 k, .int .i64 r, .int .i64 c, .slice s n cs, .slice sb nb cb, .int .u64 p] 62)).heap.size = w.heap.size + 1 := by simp
      have z2 := cellsOf (w.alloc (.cells #[.int .i64 k, .int .i64 r, .int .i64 c, .slice s n cs, .slice sb nb cb, .int .u64 p] 62)) [.int .i64 0, .int .i64 0, .int .i64 0, .slice none 0 0, .slice none 0 0, .int .u64 0] 62
      have hb2 : Below (w.alloc (.cells #[.int .i64 k, .int .i64 r, .int .i64 c, .slice s n cs, .slice sb nb cb, .int .u64 p] 62)).heap.size (w.alloc (.cells #[.int .i64 k, .int .i64 r, .int .i64 c, .slice s n cs, .slice sb nb cb, .int .u64 p] 62)) ((w.alloc (.cells #[.int .i64 k, .int .i64 r, .int .i64 c, .slice s n cs, .slice sb nb cb, .int .u64 p] 62)).alloc (.cells #[.int .i64 0, .int .i64 0, .int .i64 0, .slice none 0 0, .slice none 0 0, .int .u64 0] 62)) := (Below.refl _ _).alloc (Nat.le_refl _) _
      rw [hs1] at z2
      have HB := Lib.hid (hb1.trans (hb2.mono hb1.size))
      have x0 := cell_stays hb2 (z1 0 _ rfl).1
      have x1 := cell_stays hb2 (z1 1 _ rfl).1
      have x2 := cell_stays hb2 (z1 2 _ rfl).1
      have x3 := cell_stays hb2 (z1 3 _ rfl).1
      have x4 := cell_stays hb2 (z1 4 _ rfl).1
      have x5 := cell_stays hb2 (z1 5 _ rfl).1
      obtain ⟨y0, f0⟩ := z2 0 _ rfl
      obtain ⟨y1, f1⟩ := z2 1 _ rfl
      obtain ⟨y2, f2⟩ := z2 2 _ rfl
      obtain ⟨y3, f3⟩ := z2 3 _ rfl
      obtain ⟨y4, f4⟩ := z2 4 _ rfl
      obtain ⟨y5, f5⟩ := z2 5 _ rfl
      clear z1 z2 hb1 hb2 hs1
      go_enter Try.func63, Try.ntmps63
      go_wp2_with fail
      generalize (w.alloc (.cells #[.int .i64 k, .int .i64 r, .int .i64 c, .slice s n cs, .slice sb nb cb, .int .u64 p] 62)).alloc (.cells #[.int .i64 0, .int .i64 0, .int .i64 0, .slice none 0 0, .slice none 0 0, .int .u64 0] 62) = W at HB x0 x1 x2 x3 x4 x5 y0 y1 y2 y3 y4 y5 f0 f1 f2 f3 f4 f5 ⊢
      refine wp_region_still_tail 23 (by kernel_rfl) (by kernel_rfl) ?_
      simp only [List.take_succ_cons, List.take_zero, List.drop_succ_cons, List.drop_zero]
      repeat still_step
      refine wpStill_nil ?_
      change wpList _ _ _ _ _ W.drew
      go_wp2_with fail
      have hs : Below w.heap.size w _ := (((((((HB.out.setCell (p := ⟨w.heap.size + 1, 0, none⟩) (Nat.le_succ _) (.int .i64 k)).setCell (p := ⟨w.heap.size + 1, 1, none⟩) (Nat.le_succ _) (.int .i64 r)).setCell (p := ⟨w.heap.size + 1, 2, none⟩) (Nat.le_succ _) (.int .i64 c)).setCell (p := ⟨w.heap.size + 1, 3, none⟩) (Nat.le_succ _) (.slice (some ⟨b, o, none⟩) n cap)).setCell (p := ⟨w.heap.size + 1, 4, none⟩) (Nat.le_succ _) (.slice (some ⟨b, o + n * 2, none⟩) nb (cap - n))).setCell (p := ⟨w.heap.size + 1, 5, none⟩) (Nat.le_succ _) (.int .u64 p)).drew)
      refine bodyPost_ret (v := .agg #[.int .i64 k, .int .i64 r, .int .i64 c, .slice (some ⟨b, o, none⟩) n cap, .slice (some ⟨b, o + n * 2, none⟩) nb (cap - n), .int .u64 p]) ?_ rfl ⟨⟨some ⟨b, o + n * 2, none⟩, rfl, fun _ => ⟨b, o, by simp, rfl⟩⟩, hs⟩
      simp [results, Try.results63, go_sem, y0, y1, y2, y3, y4, y5]
/-- the two halves of a list that reads -/
theorem halves {W : World} {a a' : Option Addr} {n nb l cap : Nat} {X : Nat → Raw} (h : RdL W (.slice a l cap) l X) (hle : n + nb ≤ l) (ha : 0 < nb → ∃ b o, a = some ⟨b, o, none⟩ ∧ a' = some ⟨b, o + n * 2, none⟩) :
    RdL W (.slice a n cap) n X ∧ RdL W (.slice a' nb (cap - n)) nb (fun i => X (n + i)) := by
  obtain ⟨a0, c0, e, h1, h2, h3⟩ := h
  injection e with e1 _ e3
  subst e1
  subst e3
  refine ⟨⟨_, _, rfl, by omega, by omega, fun h0 => ?_⟩, ⟨_, _, rfl, by omega, by omega, fun h0 => ?_⟩⟩
  · obtain ⟨b, o, rfl, hc⟩ := h3 (by omega)
    exact ⟨b, o, rfl, fun i hi => hc i (by omega)⟩
  · obtain ⟨b, o, rfl, rfl⟩ := ha h0
    obtain ⟨b', o', e, hc⟩ := h3 (by omega)
    injection e with e
    injection e with e1 e2 _
    subst e1
    subst e2
    refine ⟨b, _, rfl, fun i hi => ?_⟩
    obtain ⟨m, c1, c2, c3⟩ := hc (n + i) (by omega)
    rw [Nat.add_mul, ← Nat.add_assoc] at c1 c2
    exact ⟨m, c1, c2, c3⟩
end Go.Proofs.Ytdlpemmoobbgnaa

namespace Go.Proofs.Ytdlpemmoobbgnaa
open Go.RowKit

/-- the first n places read so, in memory of the list's own from base on -/
def LSE (w : World) (base : Nat) (v : Value) (n : Nat) (X : Nat → Raw) : Prop := ∃ X', LSQ w base v n X' ∧ ∀ i, i < n → X i = X' i
/-- and where it is marked so it is none -/
def LSM (w : World) (base : Nat) (v : Value) (n : Nat) (X : Nat → Raw) : Prop := (n = 0 → X 0 = small 0 → v = .slice none 0 0) ∧ LSE w base v n X
theorem LSE.keep : KeepQ LSE where
  set := fun h ha y => by obtain ⟨X', h1, h2⟩ := h; exact ⟨X', LSQ.keep.set h1 ha y, h2⟩
  below := fun h hb => by obtain ⟨X', h1, h2⟩ := h; exact ⟨X', LSQ.keep.below h1 hb, h2⟩
  mono := fun h hb => by obtain ⟨X', h1, h2⟩ := h; exact ⟨X', LSQ.keep.mono h1 hb, h2⟩
  nil := fun {w base X} => ⟨X, LSQ.keep.nil, fun _ _ => rfl⟩
  slice := fun h => by obtain ⟨X', h1, h2⟩ := h; exact LSQ.keep.slice h1
theorem LSM.keep : KeepQ LSM where
  set := fun h ha y => ⟨h.1, LSE.keep.set h.2 ha y⟩
  below := fun h hb => ⟨h.1, LSE.keep.below h.2 hb⟩
  mono := fun h hb => ⟨h.1, LSE.keep.mono h.2 hb⟩
  nil := ⟨fun _ _ => rfl, LSE.keep.nil⟩
  slice := fun h => LSE.keep.slice h.2
def mark (n : Nat) (X : Nat → Raw) : Nat → Raw := fun t => if t < n then X t else small 1
theorem LSQ.lsm {w : World} {base n : Nat} {v : Value} {X : Nat → Raw} (h : LSQ w base v n X) : LSM w base v n (mark n X) := by
  refine ⟨fun h0 e => ?_, X, h, fun i hi => if_pos hi⟩
  subst h0
  have : small 1 = small 0 := e
  have hn : (small 1).n ≠ (small 0).n := by decide
  exact absurd (congrArg Raw.n this) hn
theorem LSM.lse {w : World} {base n : Nat} {v : Value} {X : Nat → Raw} (h : LSM w base v n (mark n X)) : LSE w base v n X := by
  obtain ⟨-, X', h1, h2⟩ := h
  exact ⟨X', h1, fun i hi => by rw [← h2 i hi]; exact (if_pos hi).symm⟩
theorem LSM.nil {w : World} {base : Nat} {v : Value} (h : LSM w base v 0 (fun _ => small 0)) : v = .slice none 0 0 := h.1 rfl rfl
theorem LSE.read {w : World} {base n : Nat} {v : Value} {X : Nat → Raw} (h : LSE w base v n X) : ∃ X', RdL w v n X' ∧ ∀ i, i < n → X i = X' i := by
  obtain ⟨X', h1, h2⟩ := h
  exact ⟨X', h1.read, h2⟩

/-- an answer, its lists in memory of their own, one of them none -/
def AnsD.apost (D : AnsD) (base : Nat) (e : Ending) (w' : World) : Prop := ∃ s' l', e = .returned (.agg #[.int .i64 D.rr, .int .i64 D.cc, s', l', .int .u64 D.W, .int .i64 D.N, .bool D.ok, .int .i64 D.E]) ∧ LSE w' base s' D.nn D.X ∧ LSE w' base l' D.mm D.L ∧ (s' = .slice none 0 0 ∨ l' = .slice none 0 0)

theorem MatD.ans_ap {D : MatD} {base : Nat} {e : Ending} {w' : World} (h : AnsD.post ⟨D.rr, D.cc, D.nn, mark D.nn D.X, 0, fun _ => small 0, 0, 0, false, D.E⟩ LSM base e w') : D.ans.apost base e w' := by
  obtain ⟨s', l', rfl, h1, h2⟩ := h
  have e := LSM.nil h2
  subst e
  exact ⟨s', _, rfl, LSM.lse h1, LSE.keep.nil, Or.inr rfl⟩
theorem MatD.mcall {D : MatD} {base : Nat} {e : Ending} {w' : World} (h : D.post LSQ base e w') : MatA LSM D.rr D.cc D.nn (mark D.nn D.X) D.E base e w' := by
  obtain ⟨s', rfl, h1⟩ := h
  exact ⟨s', rfl, h1.lsm⟩

section
variable (k r c p : Int) (hk : 3 ≤ k ∧ k ≤ 9) (hp : 0 ≤ p) (s : Value) (n : Nat) (x : Nat → Raw) (sb : Value) (nb : Nat) (b : Nat → Raw) (w : World) (hr : RdL w s n x) (hrb : RdL w sb nb b)
include hk hp hr hrb
theorem plays_apF : Calls Try.prog 60 #[.agg #[.int .i64 k, .int .i64 r, .int .i64 c, s, sb, .int .u64 p]] w fun e w' => (ansF k r c p n x nb b).apost w.heap.size e w' ∧ Below w.heap.size w w' := by
  have : k = 3 ∨ k = 4 ∨ k = 5 ∨ k = 6 ∨ k = 7 ∨ k = 8 ∨ k = 9 := by omega
  rcases this with rfl | rfl | rfl | rfl | rfl | rfl | rfl
  · exact (plays12_3 LSM.keep r c p s n x sb nb b w hr hrb _ _ _ _ _ fun V hV => (pl_Reduce r c p hp s n x V (hr.below hV)).mono fun _ _ h => ⟨MatD.mcall h.1, h.2⟩).mono fun _ _ h => ⟨MatD.ans_ap h.1, h.2⟩
  · refine (plays12_4 LSM.keep r c p s n x sb nb b w hr hrb _ _ fun V hV => Det_any r c p hp s n x V (hr.below hV)).mono ?_
    rintro e w' ⟨⟨s', l', rfl, h1, h2⟩, hb⟩
    have e1 := LSM.nil h1
    have e2 := LSM.nil h2
    subst e1
    subst e2
    exact ⟨⟨_, _, rfl, LSE.keep.nil, LSE.keep.nil, Or.inr rfl⟩, hb⟩
  · refine (plays12_5 LSM.keep r c p s n x sb nb b w hr hrb _ _ fun V hV => Rank_any r c p hp s n x V (hr.below hV)).mono ?_
    rintro e w' ⟨⟨s', l', rfl, h1, h2⟩, hb⟩
    have e1 := LSM.nil h1
    have e2 := LSM.nil h2
    subst e1
    subst e2
    exact ⟨⟨_, _, rfl, LSE.keep.nil, LSE.keep.nil, Or.inr rfl⟩, hb⟩
  · exact (plays12_6 LSM.keep r c p s n x sb nb b w hr hrb _ _ _ _ _ fun V hV => (pl_Echelon r c p hp s n x V (hr.below hV)).mono fun _ _ h => ⟨MatD.mcall h.1, h.2⟩).mono fun _ _ h => ⟨MatD.ans_ap h.1, h.2⟩
  · exact (plays12_7 LSM.keep r c p s n x sb nb b w hr hrb _ _ _ _ _ fun V hV => (pl_Inverse r c p hp s n x V (hr.below hV)).mono fun _ _ h => ⟨MatD.mcall h.1, h.2⟩).mono fun _ _ h => ⟨MatD.ans_ap h.1, h.2⟩
  · exact (plays12_8 LSM.keep r c p s n x sb nb b w hr hrb _ _ _ _ _ fun V hV => (pl_Kernel r c p hp s n x V (hr.below hV)).mono fun _ _ h => ⟨MatD.mcall h.1, h.2⟩).mono fun _ _ h => ⟨MatD.ans_ap h.1, h.2⟩
  · refine (plays12_9 LSM.keep r c p s n x sb nb b w hr hrb (solN r c n nb x b p) (mark (solN r c n nb x b p) (solX r c n nb x b p)) (solE r c n nb x b p) fun V hV => (pl_Solve r c p hp s n x V (hr.below hV) sb nb b (hrb.below hV)).mono ?_).mono ?_
    · rintro e w' ⟨⟨s', rfl, h1⟩, hb⟩
      exact ⟨⟨s', rfl, h1.lsm⟩, hb⟩
    · rintro e w' ⟨⟨s', l', rfl, h1, h2⟩, hb⟩
      have e1 := LSM.nil h1
      subst e1
      exact ⟨⟨_, _, rfl, LSE.keep.nil, LSM.lse h2, Or.inl rfl⟩, hb⟩
end
theorem plays_ap (k r c p : Int) (hk : 3 ≤ k ∧ k ≤ 9) (hp : 0 ≤ p) (s : Value) (n : Nat) (x : Nat → Raw) (sb : Value) (nb : Nat) (b : Nat → Raw) (w : World) (hr : RdL w s n x) (hrb : RdL w sb nb b) :
    Calls Try.prog 60 #[.agg #[.int .i64 k, .int .i64 r, .int .i64 c, s, sb, .int .u64 p]] w fun e w' => (ansT k r c p n x nb b).apost w.heap.size e w' ∧ Below w.heap.size w w' :=
  plays_apF k r c p hk hp s n _ sb nb _ w hr.trunc hrb.trunc

/-- the eight cells of a box -/
def cells8 (w : World) (bx : Nat) (D : AnsD) (s' l' : Value) : Prop :=
  w.cell? ⟨bx, 0, none⟩ = some (.int .i64 D.rr) ∧ w.cell? ⟨bx, 1, none⟩ = some (.int .i64 D.cc) ∧ w.cell? ⟨bx, 2, none⟩ = some s' ∧ w.cell? ⟨bx, 3, none⟩ = some l' ∧
  w.cell? ⟨bx, 4, none⟩ = some (.int .u64 D.W) ∧ w.cell? ⟨bx, 5, none⟩ = some (.int .i64 D.N) ∧ w.cell? ⟨bx, 6, none⟩ = some (.bool D.ok) ∧ w.cell? ⟨bx, 7, none⟩ = some (.int .i64 D.E)
theorem cells8.keep {w w' : World} {bx : Nat} {D : AnsD} {s' l' : Value} (h : cells8 w bx D s' l') (f : ∀ o v, w.cell? ⟨bx, o, none⟩ = some v → w'.cell? ⟨bx, o, none⟩ = some v) : cells8 w' bx D s' l' :=
  ⟨f _ _ h.1, f _ _ h.2.1, f _ _ h.2.2.1, f _ _ h.2.2.2.1, f _ _ h.2.2.2.2.1, f _ _ h.2.2.2.2.2.1, f _ _ h.2.2.2.2.2.2.1, f _ _ h.2.2.2.2.2.2.2⟩
theorem cells8.below {w w' : World} {bx : Nat} {D : AnsD} {s' l' : Value} (h : cells8 w bx D s' l') (hb : Below w.heap.size w w') : cells8 w' bx D s' l' := h.keep fun _ _ hc => cell_stays hb hc
theorem cells8.set {w : World} {bx : Nat} {D : AnsD} {s' l' : Value} (h : cells8 w bx D s' l') {a : Addr} (ha : a.block ≠ bx) (y : Value) : cells8 (w.setCell a y) bx D s' l' :=
  h.keep fun _ _ hc => by rw [World.cell?_setCell_other _ _ _ _ (by intro e; exact ha (congrArg Addr.block e))]; exact hc
theorem cells8.made (w : World) (D : AnsD) (s' l' : Value) (t : TypeId) : cells8 (w.alloc (.cells #[.int .i64 D.rr, .int .i64 D.cc, s', l', .int .u64 D.W, .int .i64 D.N, .bool D.ok, .int .i64 D.E] t)) w.heap.size D s' l' := by
  have z := cellsOf w [.int .i64 D.rr, .int .i64 D.cc, s', l', .int .u64 D.W, .int .i64 D.N, .bool D.ok, .int .i64 D.E] t
  exact ⟨(z 0 _ rfl).1, (z 1 _ rfl).1, (z 2 _ rfl).1, (z 3 _ rfl).1, (z 4 _ rfl).1, (z 5 _ rfl).1, (z 6 _ rfl).1, (z 7 _ rfl).1⟩

/-- the answer D stands in the box bx; its lists were made between lo and hi -/
structure AnsK (w : World) (bx lo hi : Nat) (D : AnsD) (s' l' : Value) : Prop where
  cs : cells8 w bx D s' l'
  w1 : ∃ w1, LSE w1 lo s' D.nn D.X ∧ LSE w1 lo l' D.mm D.L ∧ w1.heap.size ≤ hi ∧ Rch lo w1 w
  one : s' = .slice none 0 0 ∨ l' = .slice none 0 0
  box : lo ≤ bx
/-- what was wanted stands in the box bx -/
structure WantK (w : World) (bx lo : Nat) (D : AnsD) (s' l' : Value) : Prop where
  cs : cells8 w bx D s' l'
  s : FrL w lo s' D.nn D.X
  l : FrL w lo l' D.mm D.L
  box : lo ≤ bx
section
variable {w w' : World} {bx lo hi : Nat} {D : AnsD} {s' l' : Value}
theorem AnsK.below (h : AnsK w bx lo hi D s' l') (hb : Below w.heap.size w w') : AnsK w' bx lo hi D s' l' := by
  obtain ⟨c, ⟨w1, a1, a2, a3, a4⟩, d, e⟩ := h
  exact ⟨c.below hb, ⟨w1, a1, a2, a3, Rch.fresh a4 hb⟩, d, e⟩
theorem AnsK.set (h : AnsK w bx lo hi D s' l') {a : Addr} (ha : a.block < lo) (y : Value) : AnsK (w.setCell a y) bx lo hi D s' l' := by
  obtain ⟨c, ⟨w1, a1, a2, a3, a4⟩, d, e⟩ := h
  exact ⟨c.set (by omega) y, ⟨w1, a1, a2, a3, Rch.set y a4 ha⟩, d, e⟩
theorem WantK.below (h : WantK w bx lo D s' l') (hb : Below w.heap.size w w') : WantK w' bx lo D s' l' := ⟨h.cs.below hb, h.s.below hb, h.l.below hb, h.box⟩
theorem WantK.set (h : WantK w bx lo D s' l') {a : Addr} (ha : a.block < lo) (y : Value) : WantK (w.setCell a y) bx lo D s' l' := ⟨h.cs.set (by have := h.box; omega) y, h.s.set ha y, h.l.set ha y, h.box⟩
theorem LSE.rch {w1 : World} {base n : Nat} {v : Value} {X : Nat → Raw} (h : LSE w1 base v n X) (hr : Rch base w1 w) : LSE w base v n X := by
  induction hr with
  | refl => exact h
  | set y _ ha ih => exact LSE.keep.set ih ha y
  | fresh _ hb ih => exact LSE.keep.below ih hb
theorem AnsK.lse (h : AnsK w bx lo hi D s' l') : LSE w lo s' D.nn D.X ∧ LSE w lo l' D.mm D.L := by
  obtain ⟨w1, a1, a2, a3, a4⟩ := h.w1
  exact ⟨a1.rch a4, a2.rch a4⟩
/-- an answer is put into a box -/
theorem AnsK.made {w0 w1 : World} (h1 : LSE w1 lo s' D.nn D.X) (h2 : LSE w1 lo l' D.mm D.L) (ho : s' = .slice none 0 0 ∨ l' = .slice none 0 0) (hl : lo ≤ w1.heap.size) (t : TypeId) :
    AnsK (w1.alloc (.cells #[.int .i64 D.rr, .int .i64 D.cc, s', l', .int .u64 D.W, .int .i64 D.N, .bool D.ok, .int .i64 D.E] t)) w1.heap.size lo w1.heap.size D s' l' :=
  ⟨cells8.made _ _ _ _ _, ⟨w1, h1, h2, Nat.le_refl _, Rch.fresh Rch.refl ((Below.refl _ _).alloc (Nat.le_refl _) _)⟩, ho, hl⟩
theorem WantK.made {w1 : World} (h1 : FrL w1 lo s' D.nn D.X) (h2 : FrL w1 lo l' D.mm D.L) (hl : lo ≤ w1.heap.size) (t : TypeId) :
    WantK (w1.alloc (.cells #[.int .i64 D.rr, .int .i64 D.cc, s', l', .int .u64 D.W, .int .i64 D.N, .bool D.ok, .int .i64 D.E] t)) w1.heap.size lo D s' l' :=
  ⟨cells8.made _ _ _ _ _, h1.below ((Below.refl _ _).alloc (Nat.le_refl _) _), h2.below ((Below.refl _ _).alloc (Nat.le_refl _) _), hl⟩
/-- an answer as it was wanted -/
theorem same_AW {s2 l2 : Value} {bs : Nat} (h1 : LSE w lo s' D.nn D.X) (h2 : LSE w lo l' D.mm D.L) (g1 : FrL w bs s2 D.nn D.X) (g2 : FrL w bs l2 D.mm D.L) :
    Calls Try.prog 61 #[.agg #[.int .i64 D.rr, .int .i64 D.cc, s', l', .int .u64 D.W, .int .i64 D.N, .bool D.ok, .int .i64 D.E], .agg #[.int .i64 D.rr, .int .i64 D.cc, s2, l2, .int .u64 D.W, .int .i64 D.N, .bool D.ok, .int .i64 D.E]] w fun e w' => e = .returned (.bool true) ∧ Below w.heap.size w w' := by
  obtain ⟨X', a1, a2⟩ := h1.read
  obtain ⟨L', b1, b2⟩ := h2.read
  exact same_yes s' s2 l' l2 D.rr D.cc D.nn D.mm X' D.X L' D.L D.W D.N D.E D.ok w a1 g1.read (fun i hi => by rw [a2 i hi]; exact RawEq.refl _) b1 g2.read (fun i hi => by rw [b2 i hi]; exact RawEq.refl _)
end
end Go.Proofs.Ytdlpemmoobbgnaa

namespace Go.Proofs.Ytdlpemmoobbgnaa
open Go.RowKit

theorem OwnR.at {w w' : World} {B : Nat} {e : TypeId} {z n : Nat} {v : Value} {xs : List Value} (h : OwnR w B e z v n xs) (hb : ∀ b, v.ownBlock = some b → w'.heap[b]? = w.heap[b]?) : OwnR w' B e z v n xs := by
  refine ⟨h.1, ?_⟩
  rcases h.2 with h2 | ⟨g, cap, cur, rfl, h2, h3, h4⟩
  · exact Or.inl h2
  · exact Or.inr ⟨g, cap, cur, rfl, h2, by rw [hb g rfl]; exact h3, h4⟩

theorem CellsAt.take {w : World} {b n cap : Nat} {e : TypeId} {F : Nat → Value} {cur : Array Value} (hb : w.heap[b]? = some (.cells cur e (0, 0))) (h : ∀ i, i < n → w.cell? ⟨b, i, none⟩ = some (F i)) (hn : n ≤ cur.size) : cur.toList.take n = (List.range n).map F := by
  apply List.ext_getElem?
  intro i
  rw [List.getElem?_take]
  by_cases hi : i < n
  · rw [if_pos hi]
    have := h i hi
    rw [cell_of_row _ _ _ _ _ _ hb] at this
    simp [hi]
    simpa using this
  · rw [if_neg hi, List.getElem?_eq_none (by simp; omega)]

/-- words in a block of their own are a list of the call's own -/
theorem WL.of_blk {w : World} {B b n cap m : Nat} {f : Nat → Int} (hb : B ≤ b) (h : Blk w b cap 22) (hr : RowAt .u64 w b 0 m f) (hn : n ≤ m) (hm : m ≤ cap) : WL w B (.slice (some ⟨b, 0, none⟩) n cap) n f := by
  obtain ⟨cur, h1, h2⟩ := h
  refine ⟨by rw [wlst_len, Nat.mul_one], Or.inr ⟨b, cap, cur, rfl, hb, h1, by omega, by omega, ?_⟩⟩
  rw [Nat.mul_one]
  exact CellsAt.take (cap := cap) h1 (fun i hi => (hr.get0 (by omega) rfl).1) (by omega)
theorem FrA.wl {w : World} {B : Nat} {v : Value} {n : Nat} {f : Nat → Int} (h : FrA .u64 22 w B v n f) : WL w B v n f := by
  rcases h with ⟨rfl, rfl⟩ | ⟨b, cap, rfl, h1, h2, h3, h4, h5⟩
  · exact OwnR.nil _ _ _ _
  · exact WL.of_blk h3 h4 h5 (Nat.le_refl _) h1

theorem flat_get (b m : Nat → Value) (n i : Nat) (hi : i < n * 2) : (flatI b m n)[i]? = some (if i % 2 = 0 then b (i / 2) else m (i / 2)) := by
  obtain ⟨h1, h2⟩ := flatI_at b m n (i / 2) (by omega)
  by_cases e : i % 2 = 0
  · rw [if_pos e, ← h1]; congr 1; omega
  · rw [if_neg e, ← h2]; congr 1; omega
theorem LS.row {w : World} {base bm lb n : Nat} {x : Nat → Raw} {M : Nat → Value} (h : LS 56 22 w base bm lb n n x M) : OwnR w base 56 2 (.slice (some ⟨lb, 0, none⟩) n n) n (flatI (fun i => .bool (x i).neg) M n) := by
  obtain ⟨cur, h1, h2⟩ := h.blk
  refine ⟨flatI_len _ _ _, Or.inr ⟨lb, n, cur, rfl, h.own, h1, Nat.le_refl _, by omega, ?_⟩⟩
  apply List.ext_getElem?
  intro i
  rw [List.getElem?_take]
  by_cases hi : i < n * 2
  · rw [if_pos hi, flat_get _ _ _ _ hi]
    obtain ⟨c1, c2⟩ := h.cells (i / 2) (by omega)
    rw [cell_of_row _ _ _ _ _ _ h1] at c1 c2
    by_cases e : i % 2 = 0
    · rw [if_pos e, ← c1]
      simp only [Array.getElem?_toList]
      congr 1; omega
    · rw [if_neg e, ← c2]
      simp only [Array.getElem?_toList]
      congr 1; omega
  · rw [if_neg hi, List.getElem?_eq_none (by rw [flatI_len]; omega)]

/-- a list of integers, made between lo and hi, its words M too -/
structure Itm (w : World) (lo hi : Nat) (v : Value) (n : Nat) (M : Nat → Value) : Prop where
  row : ∃ b, OwnR w lo 56 2 v n (flatI b M n)
  ws : ∀ q, q < n → ∃ N F, N ≤ 17592186044000 ∧ WL w lo (M q) N F
  ub : ∀ b, v.ownBlock = some b → b < hi
  ubW : ∀ q, q < n → ∀ b, (M q).ownBlock = some b → b < hi
  ap : ∀ p q, p < n → q < n → p ≠ q → Value.apart (M p) (M q)
  nb : n ≤ 4096

theorem LS.rch {w w' : World} {base lb n : Nat} {x : Nat → Raw} {M : Nat → Value} (h : LS 56 22 w base base lb n n x M) (hr : Rch base w w') : LS 56 22 w' base base lb n n x M := by
  induction hr with
  | refl => exact h
  | set v _ ha ih => exact ih.set ha (by have := ih.own; omega) v
  | fresh _ hb ih => exact ih.below hb
theorem small_n1 (z : Int) (h0 : 0 ≤ z) (h1 : z < 2147483648) : (small z).n ≤ 1 := by
  show w1 z ≤ 1
  unfold w1
  split <;> omega
theorem LSE.itm {w w1 : World} {lo hi n : Nat} {v : Value} {X : Nat → Raw} (h : LSE w1 lo v n X) (hs : w1.heap.size ≤ hi) (hr : Rch lo w1 w) : ∃ M, Itm w lo hi v n M := by
  obtain ⟨X', h1, -⟩ := h
  rcases h1 with ⟨rfl, rfl⟩ | ⟨lb, M, y, rfl, rfl, h3, h4, h5⟩
  · exact ⟨fun _ => .slice none 0 0, ⟨fun _ => .bool false, OwnR.nil _ _ _ _⟩, fun q hq => absurd hq (by omega), fun b hb => by simp [Value.ownBlock] at hb, fun q hq => absurd hq (by omega), fun p q hp => absurd hp (by omega), by omega⟩
  · have h6 := h4.rch hr
    refine ⟨M, ⟨_, h6.row⟩, fun q hq => ⟨_, _, ?_, (h6.mags q hq).wl⟩, fun b hb => ?_, fun q hq b hb => ?_, h6.apart, h3⟩
    · have := small_n1 (y q) (h5 q hq).1 (h5 q hq).2
      show (small (y q)).n ≤ _
      omega
    · simp [Value.ownBlock] at hb
      subst hb
      exact Nat.lt_of_lt_of_le h4.blk.lt hs
    · exact Nat.lt_of_lt_of_le ((h4.mags q hq).lt hb).2 hs
theorem AnsK.itms {w : World} {bx lo hi : Nat} {D : AnsD} {s' l' : Value} (h : AnsK w bx lo hi D s' l') : ∃ M M', Itm w lo hi s' D.nn M ∧ Itm w lo hi l' D.mm M' := by
  obtain ⟨w1, a1, a2, a3, a4⟩ := h.w1
  obtain ⟨M, hM⟩ := a1.itm a3 a4
  obtain ⟨M', hM'⟩ := a2.itm a3 a4
  exact ⟨M, M', hM, hM'⟩
section
variable {w w' : World} {lo hi bk n : Nat} {v : Value} {M : Nat → Value}
theorem Itm.at (h : Itm w lo hi v n M) (hb : Below bk w w') (hk : hi ≤ bk) : Itm w' lo hi v n M := by
  obtain ⟨⟨b, h1⟩, h2, h3, h4, h5, h6⟩ := h
  refine ⟨⟨b, h1.at fun c hc => hb.block c (by have := h3 c hc; omega)⟩, fun q hq => ?_, h3, h4, h5, h6⟩
  obtain ⟨N, F, g1, g2⟩ := h2 q hq
  exact ⟨N, F, g1, OwnR.at g2 fun c hc => hb.block c (by have := h4 q hq c hc; omega)⟩
theorem Itm.rdms (h : Itm w lo hi v n M) (hk : hi ≤ bk) : RdMs w bk v n M := by
  obtain ⟨⟨b, h1⟩, h2, h3, h4, h5, h6⟩ := h
  have hs : ∀ i, i < n → ∃ x l c, M i = .slice x l c := fun i hi => by
    obtain ⟨N, F, -, g2⟩ := h2 i hi
    obtain ⟨a, c, e⟩ := g2.slice
    exact ⟨a, N, c, e⟩
  rcases h1.2 with ⟨rfl, rfl⟩ | ⟨g, cap, cur, rfl, k2, k3, k4, k5, k6⟩
  · exact ⟨_, _, rfl, hs, fun h => absurd h (by omega)⟩
  · refine ⟨_, cap, rfl, hs, fun _ => ⟨g, 0, rfl, by have := h3 g rfl; omega, fun i hi => ?_⟩⟩
    have f2 := (flatI_at b M n i hi).2
    rw [← k6, List.getElem?_take, if_pos (by omega)] at f2
    rw [Nat.zero_add, cell_of_row _ _ _ _ _ _ k3]
    simpa using f2
end

/-- the book while it is filled: its lists in memory of their own, in the blocks P, all below its own -/
structure BkS (w : World) (B bk : Nat) (vW : Value) (nW : Nat) (W : Nat → Value) (vI : Value) (nI : Nat) (I : Nat → Value) (P : Nat → Prop) : Prop where
  book : BookR w bk vW nW W vI nI I
  ws : ∀ k, k < nW → (∃ N F, N ≤ 17592186044000 ∧ WL w B (W k) N F) ∧ ∀ b, (W k).ownBlock = some b → P b
  is : ∀ k, k < nI → (∃ n, n ≤ 4194304 ∧ IL w B B (I k) n 0 0) ∧ ∀ b, (I k).ownBlock = some b → P b
  low : ∀ b, P b → b < bk
  apW : ∀ k l, k < nW → l < nW → k ≠ l → Value.apart (W k) (W l)
  apI : ∀ k l, k < nI → l < nI → k ≠ l → Value.apart (I k) (I l)

/-- lists more, in blocks S of their own -/
theorem BkS.ext {w w' : World} {B bk nW nI nW' nI' : Nat} {vW vI vW' vI' : Value} {W I W' I' : Nat → Value} {P S : Nat → Prop} (h : BkS w B bk vW nW W vI nI I P) (hb : Below bk w w') (hbk : BookR w' bk vW' nW' W' vI' nI' I')
    (hW1 : ∀ k, k < nW → W' k = W k) (hI1 : ∀ k, k < nI → I' k = I k) (hS : ∀ b, S b → ¬ P b ∧ b < bk)
    (hW : ∀ k, nW ≤ k → k < nW' → (∃ N F, N ≤ 17592186044000 ∧ WL w B (W' k) N F) ∧ ∀ b, (W' k).ownBlock = some b → S b)
    (hI : ∀ k, nI ≤ k → k < nI' → (∃ n, n ≤ 4194304 ∧ IL w B B (I' k) n 0 0) ∧ ∀ b, (I' k).ownBlock = some b → S b)
    (hWW : ∀ k l, nW ≤ k → k < nW' → nW ≤ l → l < nW' → k ≠ l → Value.apart (W' k) (W' l))
    (hII : ∀ k l, nI ≤ k → k < nI' → nI ≤ l → l < nI' → k ≠ l → Value.apart (I' k) (I' l)) :
    BkS w' B bk vW' nW' W' vI' nI' I' (fun b => P b ∨ S b) := by
  have hlow : ∀ b, P b ∨ S b → b < bk := fun b hb => hb.elim (h.low b) fun e => (hS b e).2
  refine ⟨hbk, fun k hk => ?_, fun k hk => ?_, hlow, fun k l hk hl hkl => ?_, fun k l hk hl hkl => ?_⟩
  · have : (∃ N F, N ≤ 17592186044000 ∧ WL w B (W' k) N F) ∧ ∀ b, (W' k).ownBlock = some b → P b ∨ S b := by
      by_cases e : k < nW
      · rw [hW1 k e]; exact ⟨(h.ws k e).1, fun b hb => Or.inl ((h.ws k e).2 b hb)⟩
      · exact ⟨(hW k (by omega) hk).1, fun b hb => Or.inr ((hW k (by omega) hk).2 b hb)⟩
    obtain ⟨⟨N, F, g1, g2⟩, g3⟩ := this
    exact ⟨⟨N, F, g1, OwnR.at g2 fun b hc => hb.block b (hlow b (g3 b hc))⟩, g3⟩
  · have : (∃ n, n ≤ 4194304 ∧ IL w B B (I' k) n 0 0) ∧ ∀ b, (I' k).ownBlock = some b → P b ∨ S b := by
      by_cases e : k < nI
      · rw [hI1 k e]; exact ⟨(h.is k e).1, fun b hb => Or.inl ((h.is k e).2 b hb)⟩
      · exact ⟨(hI k (by omega) hk).1, fun b hb => Or.inr ((hI k (by omega) hk).2 b hb)⟩
    obtain ⟨⟨n, g1, b', M, g2, -⟩, g3⟩ := this
    exact ⟨⟨n, g1, b', M, g2.at fun b hc => hb.block b (hlow b (g3 b hc)), fun c hc => absurd hc (by omega)⟩, g3⟩
  · intro b hb1 hb2
    by_cases e : k < nW
    · rw [hW1 k e] at hb1
      by_cases e2 : l < nW
      · rw [hW1 l e2] at hb2
        exact h.apW k l e e2 hkl b hb1 hb2
      · exact (hS b ((hW l (by omega) hl).2 b hb2)).1 ((h.ws k e).2 b hb1)
    · by_cases e2 : l < nW
      · rw [hW1 l e2] at hb2
        exact (hS b ((hW k (by omega) hk).2 b hb1)).1 ((h.ws l e2).2 b hb2)
      · exact hWW k l (by omega) hk (by omega) hl hkl b hb1 hb2
  · intro b hb1 hb2
    by_cases e : k < nI
    · rw [hI1 k e] at hb1
      by_cases e2 : l < nI
      · rw [hI1 l e2] at hb2
        exact h.apI k l e e2 hkl b hb1 hb2
      · exact (hS b ((hI l (by omega) hl).2 b hb2)).1 ((h.is k e).2 b hb1)
    · by_cases e2 : l < nI
      · rw [hI1 l e2] at hb2
        exact (hS b ((hI k (by omega) hk).2 b hb1)).1 ((h.is l e2).2 b hb2)
      · exact hII k l (by omega) hk (by omega) hl hkl b hb1 hb2

/-- the two lists of an answer more -/
theorem BkS.two {w w1 w' : World} {B bk nW nI n m lo hi : Nat} {vW vI vW' vI' s l : Value} {W I W' I' M M' : Nat → Value} {P : Nat → Prop} (h : BkS w B bk vW nW W vI nI I P) (hb : Below bk w w') (hbk : BookR w' bk vW' (nW + n + m) W' vI' (nI + 1 + 1) I')
    (h1 : Itm w lo hi s n M) (h2 : Itm w lo hi l m M') (ho : s = .slice none 0 0 ∨ l = .slice none 0 0) (hB : B ≤ lo) (hk : hi ≤ bk) (hP : ∀ b, P b → b < lo)
    (hW1 : ∀ k, k < nW → W' k = W k) (hW2 : ∀ i, i < n → W' (nW + i) = M i) (hW3 : ∀ i, i < m → W' (nW + n + i) = M' i) (hI1 : ∀ k, k < nI → I' k = I k) (hI2 : I' nI = s) (hI3 : I' (nI + 1) = l) :
    BkS w' B bk vW' (nW + n + m) W' vI' (nI + 1 + 1) I' (fun b => P b ∨ (lo ≤ b ∧ b < hi)) := by
  have nil0 : ∀ {q : Nat} {M : Nat → Value}, Itm w lo hi (.slice none 0 0) q M → q = 0 := fun {q M} h => by
    obtain ⟨⟨b, g⟩, -⟩ := h
    obtain ⟨a, c, e⟩ := g.slice
    injection e with _ e _
    exact e.symm
  have hnm : n = 0 ∨ m = 0 := by
    rcases ho with rfl | rfl
    · exact Or.inl (nil0 h1)
    · exact Or.inr (nil0 h2)
  refine h.ext (S := fun b => lo ≤ b ∧ b < hi) hb hbk hW1 hI1 (fun b hb => ⟨fun e => by have := hP b e; omega, by omega⟩) (fun k k1 k2 => ?_) (fun k k1 k2 => ?_) (fun k j k1 k2 j1 j2 hkj => ?_) (fun k j k1 k2 j1 j2 hkj => ?_)
  · by_cases e : k < nW + n
    · obtain ⟨i, rfl⟩ : ∃ i, k = nW + i := ⟨k - nW, by omega⟩
      rw [hW2 i (by omega)]
      obtain ⟨N, F, g1, g2⟩ := h1.ws i (by omega)
      exact ⟨⟨N, F, g1, g2.mono hB⟩, fun b hb => ⟨(g2.lt b hb).1, h1.ubW i (by omega) b hb⟩⟩
    · obtain ⟨i, rfl⟩ : ∃ i, k = nW + n + i := ⟨k - nW - n, by omega⟩
      rw [hW3 i (by omega)]
      obtain ⟨N, F, g1, g2⟩ := h2.ws i (by omega)
      exact ⟨⟨N, F, g1, g2.mono hB⟩, fun b hb => ⟨(g2.lt b hb).1, h2.ubW i (by omega) b hb⟩⟩
  · have hk' : k = nI ∨ k = nI + 1 := by omega
    rcases hk' with rfl | rfl
    · rw [hI2]
      obtain ⟨b', g⟩ := h1.row
      exact ⟨⟨n, by have := h1.nb; omega, b', M, g.mono hB, fun c hc => absurd hc (by omega)⟩, fun b hb => ⟨(g.lt b hb).1, h1.ub b hb⟩⟩
    · rw [hI3]
      obtain ⟨b', g⟩ := h2.row
      exact ⟨⟨m, by have := h2.nb; omega, b', M', g.mono hB, fun c hc => absurd hc (by omega)⟩, fun b hb => ⟨(g.lt b hb).1, h2.ub b hb⟩⟩
  · by_cases e : k < nW + n
    · by_cases e2 : j < nW + n
      · obtain ⟨i, rfl⟩ : ∃ i, k = nW + i := ⟨k - nW, by omega⟩
        obtain ⟨i', rfl⟩ : ∃ i', j = nW + i' := ⟨j - nW, by omega⟩
        rw [hW2 i (by omega), hW2 i' (by omega)]
        exact h1.ap i i' (by omega) (by omega) (by omega)
      · omega
    · by_cases e2 : j < nW + n
      · omega
      · obtain ⟨i, rfl⟩ : ∃ i, k = nW + n + i := ⟨k - nW - n, by omega⟩
        obtain ⟨i', rfl⟩ : ∃ i', j = nW + n + i' := ⟨j - nW - n, by omega⟩
        rw [hW3 i (by omega), hW3 i' (by omega)]
        exact h2.ap i i' (by omega) (by omega) (by omega)
  · have hk' : (k = nI ∧ j = nI + 1) ∨ (k = nI + 1 ∧ j = nI) := by omega
    rcases hk' with ⟨rfl, rfl⟩ | ⟨rfl, rfl⟩
    · rw [hI2, hI3]
      rcases ho with rfl | rfl
      · intro b hb; simp [Value.ownBlock] at hb
      · intro b hb e; simp [Value.ownBlock] at e
    · rw [hI2, hI3]
      rcases ho with rfl | rfl
      · intro b hb e; simp [Value.ownBlock] at e
      · intro b hb; simp [Value.ownBlock] at hb

/-- one list of words more -/
theorem BkS.word {w w' : World} {B bk nW nI g : Nat} {vW vI vW' v : Value} {W I W' : Nat → Value} {P : Nat → Prop} (h : BkS w B bk vW nW W vI nI I P) (hb : Below bk w w') (hbk : BookR w' bk vW' (nW + 1) W' vI nI I)
    (hv : v.ownBlock = some g) (h1 : ∃ N F, N ≤ 17592186044000 ∧ WL w B v N F) (hg : ¬ P g) (hk : g < bk) (hW1 : ∀ k, k < nW → W' k = W k) (hW2 : W' nW = v) :
    BkS w' B bk vW' (nW + 1) W' vI nI I (fun b => P b ∨ b = g) := by
  refine h.ext (S := fun b => b = g) hb hbk hW1 (fun _ _ => rfl) (fun b e => by subst e; exact ⟨hg, hk⟩) (fun k k1 k2 => ?_) (fun k k1 k2 => absurd k2 (by omega)) (fun k j k1 k2 j1 j2 hkj => by omega) (fun k j k1 k2 => absurd k2 (by omega))
  obtain rfl : k = nW := by omega
  rw [hW2]
  exact ⟨h1, fun b hb => by rw [hv] at hb; injection hb with hb; exact hb.symm⟩
/-- one list of integers more -/
theorem BkS.ints {w w' : World} {B bk nW nI g n : Nat} {vW vI vI' v : Value} {W I I' : Nat → Value} {P : Nat → Prop} (h : BkS w B bk vW nW W vI nI I P) (hb : Below bk w w') (hbk : BookR w' bk vW nW W vI' (nI + 1) I')
    (hv : v.ownBlock = some g) (h1 : ∃ n, n ≤ 4194304 ∧ IL w B B v n 0 0) (hg : ¬ P g) (hk : g < bk) (hI1 : ∀ k, k < nI → I' k = I k) (hI2 : I' nI = v) :
    BkS w' B bk vW nW W vI' (nI + 1) I' (fun b => P b ∨ b = g) := by
  refine h.ext (S := fun b => b = g) hb hbk (fun _ _ => rfl) hI1 (fun b e => by subst e; exact ⟨hg, hk⟩) (fun k k1 k2 => absurd k2 (by omega)) (fun k k1 k2 => ?_) (fun k j k1 k2 => absurd k2 (by omega)) (fun k j k1 k2 j1 j2 hkj => by omega)
  obtain rfl : k = nI := by omega
  rw [hI2]
  exact ⟨h1, fun b hb => by rw [hv] at hb; injection hb with hb; exact hb.symm⟩
/-- the lists are apart -/
theorem BkS.apart {w : World} {B bk nW nI : Nat} {vW vI : Value} {W I : Nat → Value} {P : Nat → Prop} (h : BkS w B bk vW nW W vI nI I P) (hnW : nW ≤ 16777216) (hnI : nI ≤ 16777216) (hB : B ≤ w.heap.size) :
    Calls Try.prog 68 #[.pointer (some ⟨bk, 0, none⟩)] w fun e w' => e = .returned (.bool true) ∧ Below B w w' := by
  have hN : ∀ k, ∃ N F, k < nW → N ≤ 17592186044000 ∧ WL w B (W k) N F := fun k => by
    by_cases e : k < nW
    · obtain ⟨N, F, g1, g2⟩ := (h.ws k e).1
      exact ⟨N, F, fun _ => ⟨g1, g2⟩⟩
    · exact ⟨0, fun _ => 0, fun e' => absurd e' e⟩
  have hn : ∀ k, ∃ n, k < nI → n ≤ 4194304 ∧ IL w B B (I k) n 0 0 := fun k => by
    by_cases e : k < nI
    · obtain ⟨n, g1, g2⟩ := (h.is k e).1
      exact ⟨n, fun _ => ⟨g1, g2⟩⟩
    · exact ⟨0, fun e' => absurd e' e⟩
  obtain ⟨N, hN⟩ := Classical.axiomOfChoice hN
  obtain ⟨F, hN⟩ := Classical.axiomOfChoice hN
  obtain ⟨n, hn⟩ := Classical.axiomOfChoice hn
  exact Apart_yes B bk nW W N vW vI nI I n F hnW (fun k hk => (hN k hk).1) hnI (fun k hk => (hn k hk).1) w
    ⟨h.book, fun k hk => (hN k hk).2, GrownS.refl _ _, fun k hk b hb => h.low b ((h.ws k hk).2 b hb), h.apW⟩ (fun k hk => (hn k hk).2.renum k) (fun k hk b hb => h.low b ((h.is k hk).2 b hb)) h.apI hB
end Go.Proofs.Ytdlpemmoobbgnaa

namespace Go.Proofs.Ytdlpemmoobbgnaa
open Go.RowKit

theorem Rch.old {base : Nat} {w w' : World} (h : Rch base w w') : w.heap.size ≤ w'.heap.size ∧ ∀ b, base ≤ b → b < w.heap.size → w'.heap[b]? = w.heap[b]? := by
  induction h with
  | refl => exact ⟨Nat.le_refl _, fun _ _ _ => rfl⟩
  | @set w1 a v _ ha ih =>
    have gs := gb_set w1 a v
    refine ⟨Nat.le_trans ih.1 gs.size, fun b hb hlt => ?_⟩
    rw [gs.block b (Nat.lt_of_lt_of_le hlt ih.1) (by intro e; injection e with e; omega)]
    exact ih.2 b hb hlt
  | @fresh w1 w2 _ hb ih =>
    refine ⟨Nat.le_trans ih.1 hb.size, fun b hbb hlt => ?_⟩
    rw [hb.block b (Nat.lt_of_lt_of_le hlt ih.1)]
    exact ih.2 b hbb hlt
theorem cell_block {w w' : World} {b o : Nat} (e : w'.heap[b]? = w.heap[b]?) : w'.cell? ⟨b, o, none⟩ = w.cell? ⟨b, o, none⟩ := World.cell?_of_block (a := ⟨b, o, none⟩) e
theorem AnsK.rch {w w' : World} {bx lo hi base : Nat} {D : AnsD} {s' l' : Value} (h : AnsK w bx lo hi D s' l') (hr : Rch base w w') (hb : base ≤ lo) : AnsK w' bx lo hi D s' l' := by
  obtain ⟨c, ⟨w1, a1, a2, a3, a4⟩, d, e⟩ := h
  have hlt := World.block_lt_of_cell? w _ c.1
  exact ⟨c.keep fun o v hc => by rw [cell_block (hr.old.2 bx (by omega) hlt)]; exact hc, ⟨w1, a1, a2, a3, a4.trans (hr.mono hb)⟩, d, e⟩
theorem WantK.rch {w w' : World} {bx lo base : Nat} {D : AnsD} {s' l' : Value} (h : WantK w bx lo D s' l') (hr : Rch base w w') (hb : base ≤ lo) : WantK w' bx lo D s' l' := by
  have hlt := World.block_lt_of_cell? w _ h.cs.1
  have := h.box
  exact ⟨h.cs.keep fun o v hc => by rw [cell_block (hr.old.2 bx (by omega) hlt)]; exact hc, fun w2 h2 => h.s w2 ((hr.mono hb).trans h2), fun w2 h2 => h.l w2 ((hr.mono hb).trans h2), h.box⟩

/-- the list that roomy made, L integers, its words in the blocks R; all of it made between B and lo -/
structure RoW (w : World) (B lo L : Nat) (vF vM : Value) (R : Nat → Nat) (Z : Nat → Raw) : Prop where
  rom : RoM w vF vM L R Z
  il : IL w B B vF L 0 0
  fb : ∃ b, vF.ownBlock = some b ∧ b < lo ∧ ∀ k, k < L → b ≠ R k
  mb : ∃ b, vM.ownBlock = some b ∧ b < lo ∧ ∀ k, k < L → b ≠ R k
  blk : ∀ k, k < L → Blk w (R k) ((Z k).n + 80) 22 ∧ B ≤ R k ∧ R k < lo
  ap : ∀ k l, k < L → l < L → k ≠ l → R k ≠ R l
theorem RoW.below {w w' : World} {B lo L : Nat} {vF vM : Value} {R : Nat → Nat} {Z : Nat → Raw} (h : RoW w B lo L vF vM R Z) (hb : Below w.heap.size w w') : RoW w' B lo L vF vM R Z :=
  ⟨h.rom.below hb, h.il.below hb, h.fb, h.mb, fun k hk => ⟨(h.blk k hk).1.grown (gb_below hb none) (by simp), (h.blk k hk).2⟩, h.ap⟩
theorem RoR.row {w wr : World} {B L : Nat} {vF vM : Value} {R : Nat → Nat} {Z : Nat → Raw} (h : RoR w wr B vF L vM L R Z) (h0 : 0 < L) : RoW wr B wr.heap.size L vF vM R Z := by
  have hrom := h.rom h0
  obtain ⟨bF, cF, rfl, -⟩ := hrom.F
  obtain ⟨bM, cM, rfl, -⟩ := hrom.M
  exact ⟨hrom, ⟨_, _, OwnR.of h.oF, fun c hc => absurd hc (by omega)⟩, ⟨bF, rfl, (h.oF.lt bF rfl).2, fun k hk e => (h.farM k hk).2 (by rw [← e]; rfl)⟩, ⟨bM, rfl, (h.oM.lt bM rfl).2, fun k hk e => (h.farM k hk).1 (by rw [← e]; rfl)⟩,
    fun k hk => ⟨(h.ws k hk).1, (h.ws k hk).2.2, (h.ws k hk).1.lt⟩, h.ap⟩

/-- a list of such integers reads -/
theorem RoM.read {w : World} {vF vM : Value} {L : Nat} {R : Nat → Nat} {Z : Nat → Raw} (h : RoM w vF vM L R Z) (hL : L ≤ 4398046511104) (hz : ∀ k, k < L → (Z k).n ≤ 1048576 ∧ Words (Z k).n (Z k).f) : RdL w vF L Z := by
  obtain ⟨b, cap, rfl, h1, h2⟩ := h.F
  refine ⟨_, cap, rfl, h1, hL, fun _ => ⟨b, 0, rfl, fun i hi => ⟨_, by rw [Nat.zero_add]; exact (h2 i hi).1, by rw [Nat.zero_add]; exact (h2 i hi).2, ⟨_, _, rfl, by omega, by have := (hz i hi).1; omega, fun _ => ⟨R i, 0, rfl, fun c hc => ?_⟩⟩, (hz i hi).2⟩⟩⟩
  have := (h.ws i hi c (by omega)).1
  rw [show roomF (Z i).n (Z i).f c = (Z i).f c from if_pos hc] at this
  exact this

/-- the new word at the place c -/
def mu (y : Int) (c : Nat) : Int := IntKind.u64.wrap (IntKind.u64.wrap (IntKind.u64.wrap (3 * y) + (c : Int)) + 1)
/-- the integers of the first N places written over -/
def muZ (N : Nat) (Z : Nat → Raw) : Nat → Raw := fun k => if k < N then ⟨(Z k).neg, (Z k).n, fun c => mu ((Z k).f c) c⟩ else Z k
/-- what stands in the words of place k while j words of place i are written over -/
def muF (Z : Nat → Raw) (i j k : Nat) : Nat → Int := fun c => if c < (Z k).n ∧ (k < i ∨ (k = i ∧ c < j)) then mu ((Z k).f c) c else roomF (Z k).n (Z k).f c

structure MuR (W wr : World) (lo L : Nat) (R : Nat → Nat) (Z : Nat → Raw) (i j : Nat) : Prop where
  rch : Rch lo W wr
  gr : GrownS (fun b => ∃ k, k < L ∧ b = R k) W wr
  ws : ∀ k, k < L → Blk wr (R k) ((Z k).n + 80) 22 ∧ RowAt .u64 wr (R k) 0 ((Z k).n + 80) (muF Z i j k)
section
variable {W wr : World} {B lo L : Nat} {vF vM : Value} {R : Nat → Nat} {Z : Nat → Raw} {i j : Nat}
theorem MuR.start (h : RoW W B lo L vF vM R Z) : MuR W W lo L R Z 0 0 :=
  ⟨Rch.refl, GrownS.refl _ _, fun k hk => ⟨(h.blk k hk).1, (h.rom.ws k hk).congr fun c _ => by unfold muF; rw [if_neg (by omega)]⟩⟩
theorem MuR.next (h : MuR W wr lo L R Z i j) (hj : (Z i).n ≤ j) : MuR W wr lo L R Z (i + 1) 0 :=
  ⟨h.rch, h.gr, fun k hk => ⟨(h.ws k hk).1, (h.ws k hk).2.congr fun c _ => by
    unfold muF
    by_cases e : c < (Z k).n ∧ (k < i ∨ (k = i ∧ c < j))
    · rw [if_pos e, if_pos (by omega)]
    · rw [if_neg e, if_neg (by rintro ⟨a, b⟩; rcases b with b | b
                               · by_cases e' : k = i
                                 · subst e'; exact e ⟨a, Or.inr ⟨rfl, by omega⟩⟩
                                 · exact e ⟨a, Or.inl (by omega)⟩
                               · omega)]⟩⟩
theorem MuR.cell (h : MuR W wr lo L R Z i j) (hi : i < L) (hj : j < (Z i).n) : wr.cell? ⟨R i, j, none⟩ = some (.int .u64 ((Z i).f j)) ∧ wr.frozen? ⟨R i, j, none⟩ = false :=
  (h.ws i hi).2.get0 (by omega) (by unfold muF; rw [if_neg (by omega)]; exact if_pos hj)
theorem MuR.put (h : MuR W wr lo L R Z i j) (g : RoW W B lo L vF vM R Z) (hi : i < L) (hj : j < (Z i).n) : MuR W (wr.setCell ⟨R i, j, none⟩ (.int .u64 (mu ((Z i).f j) j))) lo L R Z i (j + 1) := by
  refine ⟨Rch.set _ h.rch (g.blk i hi).2.2, h.gr.step (gb_set wr _ _) (fun k hk => Or.inl ⟨i, hi, by injection hk with hk; exact hk.symm⟩), fun k hk => ?_⟩
  obtain ⟨a, b⟩ := h.ws k hk
  by_cases e : k = i
  · subst e
    refine ⟨a.set _ _, (b.set0 (by omega) _).congr fun c hc => ?_⟩
    by_cases e2 : c = j
    · subst e2
      rw [if_pos rfl]
      unfold muF
      rw [if_pos ⟨hj, Or.inr ⟨rfl, by omega⟩⟩]
    · rw [if_neg e2]
      unfold muF
      by_cases e3 : c < (Z k).n ∧ (k < k ∨ (k = k ∧ c < j))
      · rw [if_pos e3, if_pos (by omega)]
      · rw [if_neg e3, if_neg (by omega)]
  · refine ⟨a.other (fun e2 => g.ap k i hk hi e e2.symm) _, (b.other (fun e2 => g.ap k i hk hi e e2.symm) _).congr fun c hc => ?_⟩
    unfold muF
    by_cases e3 : c < (Z k).n ∧ (k < i ∨ (k = i ∧ c < j))
    · rw [if_pos e3, if_pos (by omega)]
    · rw [if_neg e3, if_neg (by omega)]
theorem MuR.old (h : MuR W wr lo L R Z i j) {b : Nat} (hb : b < W.heap.size) (hR : ∀ k, k < L → b ≠ R k) : wr.heap[b]? = W.heap[b]? := h.gr.block b hb fun ⟨k, hk, e⟩ => hR k hk e
theorem MuR.cellold (h : MuR W wr lo L R Z i j) {b o : Nat} {v : Value} (hc : W.cell? ⟨b, o, none⟩ = some v) (hR : ∀ k, k < L → b ≠ R k) : wr.cell? ⟨b, o, none⟩ = some v := by
  rw [cell_block (h.old (World.block_lt_of_cell? W _ hc) hR)]; exact hc
theorem MuR.below (h : MuR W wr lo L R Z i j) (g : RoW W B lo L vF vM R Z) (hB : B ≤ W.heap.size) : Below B W wr := h.gr.toBelow hB fun b ⟨k, hk, e⟩ => by subst e; exact (g.blk k hk).2.1
theorem MuR.done {N : Nat} (h : MuR W wr lo L R Z N 0) (g : RoW W B lo L vF vM R Z) (hN : N ≤ L) : RoW wr B lo L vF vM R (muZ N Z) := by
  obtain ⟨bF, f1, f2, f3⟩ := g.fb
  obtain ⟨bM, m1, m2, m3⟩ := g.mb
  have hZn : ∀ k, (muZ N Z k).n = (Z k).n := fun k => by unfold muZ; split <;> rfl
  have hZg : ∀ k, (muZ N Z k).neg = (Z k).neg := fun k => by unfold muZ; split <;> rfl
  have hrow : ∀ k, k < L → RowAt .u64 wr (R k) 0 ((muZ N Z k).n + 80) (roomF (muZ N Z k).n (muZ N Z k).f) := fun k hk => by
    rw [hZn]
    refine (h.ws k hk).2.congr fun c hc => ?_
    unfold muF roomF muZ
    by_cases e : k < N
    · simp only [if_pos e]
      by_cases e2 : c < (Z k).n
      · rw [if_pos ⟨e2, Or.inl e⟩, if_pos e2]
      · rw [if_neg (fun e3 => e2 e3.1), if_neg e2, if_neg e2]
    · simp only [if_neg e]
      rw [if_neg (by omega)]
  refine ⟨⟨?_, ?_, hrow⟩, ?_, g.fb, g.mb, fun k hk => ⟨by rw [hZn]; exact (h.ws k hk).1, (g.blk k hk).2⟩, g.ap⟩
  · obtain ⟨b, cap, rfl, h1, h2⟩ := g.rom.F
    simp [Value.ownBlock] at f1
    subst f1
    refine ⟨b, cap, rfl, h1, fun k hk => ?_⟩
    unfold romV
    rw [hZn, hZg]
    exact ⟨h.cellold (h2 k hk).1 f3, h.cellold (h2 k hk).2 f3⟩
  · obtain ⟨b, cap, rfl, h1, h2⟩ := g.rom.M
    simp [Value.ownBlock] at m1
    subst m1
    refine ⟨b, cap, rfl, h1, fun k hk => ?_⟩
    unfold romW
    rw [hZn]
    exact h.cellold (h2 k hk) m3
  · obtain ⟨b, M, h1, -⟩ := g.il
    exact ⟨b, M, h1.at fun c hc => h.old (h1.lt c hc).2 (by rw [f1] at hc; injection hc with hc; subst hc; exact f3), fun c hc => absurd hc (by omega)⟩
end

theorem wrap_bd (z : Int) : 0 ≤ IntKind.u64.wrap z ∧ IntKind.u64.wrap z ≤ 18446744073709551615 := by
  have e : IntKind.u64.wrap z = z % 18446744073709551616 := by simp [IntKind.wrap, IntKind.bits, IntKind.signed]
  rw [e]; omega
theorem muZ_words {N L : Nat} {Z : Nat → Raw} (hz : ∀ k, k < L → (Z k).n ≤ 1048576 ∧ Words (Z k).n (Z k).f) : ∀ k, k < L → (muZ N Z k).n ≤ 1048576 ∧ Words (muZ N Z k).n (muZ N Z k).f := fun k hk => by
  unfold muZ
  split
  · exact ⟨(hz k hk).1, fun c hc => wrap_bd _⟩
  · exact hz k hk
theorem roomZ_words {N : Nat} {X : Nat → Raw} (hN : N ≤ 16384) (hs : ∀ i, i < N → (X i).n ≤ 1048576 ∧ Words (X i).n (X i).f) : ∀ k, k < N + 80 → (roomZ N X k).n ≤ 1048576 ∧ Words (roomZ N X k).n (roomZ N X k).f := fun k hk => by
  unfold roomZ
  split
  · exact hs k ‹_›
  · refine ⟨by show 1 ≤ _; omega, fun c hc => ?_⟩
    show 0 ≤ (k : Int) + 1099511627776 ∧ (k : Int) + 1099511627776 ≤ _
    omega

theorem resid_val' {a b : Raw} {p : Int} (hp : 0 ≤ p) (ha : 0 ≤ a.mag) (hb : 0 ≤ b.mag) (h : a.val = b.val) : resid a p = resid b p := by
  by_cases e : p = 0
  · subst e
    have key : ∀ r : Raw, 0 ≤ r.mag → resid r 0 = r.val := fun r hr => by
      unfold resid Raw.val
      rw [Int.emod_zero]
      cases r.neg with
      | false => simp
      | true =>
        by_cases e : 0 < r.mag
        · simp [e]
        · have : r.mag = 0 := by omega
          simp [this]
    rw [key a ha, key b hb, h]
  · exact resid_val (by omega) h
theorem raw_zb {r : Raw} (h : Words r.n r.f) : ZB r.n r.val := by
  have := natFrom_bd h
  unfold ZB Raw.val Raw.mag
  split <;> omega
theorem RoM.rdz {w : World} {vF vM : Value} {L : Nat} {R : Nat → Nat} {Z : Nat → Raw} (h : RoM w vF vM L R Z) {k : Nat} (hk : k < L) (hz : (Z k).n ≤ 1048576 ∧ Words (Z k).n (Z k).f) : RdZ w (.agg #[.bool (Z k).neg, romV (R k) (Z k)]) (Z k).val := by
  refine ⟨Z k, ⟨_, rfl, ⟨_, _, rfl, by omega, by omega, fun _ => ⟨R k, 0, rfl, fun c hc => ?_⟩⟩, hz.2⟩, rfl, by omega⟩
  have := (h.ws k hk c (by omega)).1
  rw [show roomF (Z k).n (Z k).f c = (Z k).f c from if_pos hc] at this
  exact this

/-- the list of the new numbers while it is filled -/
def nxF (z : Nat → Int) (i : Nat) : Nat → Int := fun q => if q < i then z q else 0
structure NxR (W wr : World) (N : Nat) (z : Nat → Int) (i : Nat) : Prop where
  zg : ZG 56 wr W.heap.size (W.heap.size + 1) W.heap.size N (nxF z i)
  bel : Below W.heap.size W wr
  lt : W.heap.size < wr.heap.size
theorem NxR.start (W : World) (N : Nat) (z : Nat → Int) : NxR W (W.alloc (.cells (madeCells #[.bool false, .slice none 0 0] (N * 2)) 56)) N z 0 :=
  ⟨(ZG.start W (Nat.le_refl _) (by omega) N).congr fun q _ => (if_neg (by omega)).symm, (Below.refl _ _).alloc (Nat.le_refl _) _, by simp⟩
theorem NxR.put {W wr w6 : World} {N i : Nat} {z : Nat → Int} (h : NxR W wr N z i) (hi : i < N) (hb : Below wr.heap.size wr w6) {y : Int} (hy : z i = y) {a : Option Addr} {m c : Nat} (hz : FrZ w6 wr.heap.size (.agg #[.bool (decide (y < 0)), .slice a m c]) y) :
    NxR W ((w6.setCell ⟨W.heap.size, i * 2, none⟩ (.bool (decide (y < 0)))).setCell ⟨W.heap.size, i * 2 + 1, none⟩ (.slice a m c)) N z (i + 1) := by
  have h6 := h.zg.below hb
  obtain ⟨mm, nn, f, e, g1, g2⟩ := hz
  have hlt := h.lt
  have hz' : FrZ w6 (W.heap.size + 1) (.agg #[.bool (decide (y < 0)), .slice a m c]) y := ⟨mm, nn, f, e, g1.mono (by omega), g2⟩
  refine ⟨(h6.put (k := i) hi hz').congr fun q hq => ?_, ?_, ?_⟩
  · unfold nxF
    by_cases e : q = i
    · subst e
      rw [if_pos rfl, if_pos (by omega), hy]
    · rw [if_neg e]
      by_cases e2 : q < i
      · rw [if_pos e2, if_pos (by omega)]
      · rw [if_neg e2, if_neg (by omega)]
  · exact ((h.bel.trans (hb.mono h.bel.size)).setCell (p := ⟨W.heap.size, i * 2, none⟩) (Nat.le_refl _) _).setCell (p := ⟨W.heap.size, i * 2 + 1, none⟩) (Nat.le_refl _) _
  · have := hb.size
    simp
    omega
theorem mk_listN (N : Nat) (hN : N ≤ 1048576) (u : World) : (Instr.makeSlice 32 (.int .i64 N) (.int .i64 N)).run Try.prog u =
    .ok (.slice (some ⟨u.heap.size, 0, none⟩) N N) (u.alloc (.cells (madeCells #[.bool false, .slice none 0 0] (N * 2)) 56)) := by
  obtain ⟨i0, hi, hz0, hz1, hz2⟩ := info_parts infoI
  have h := run_make (P := Try.prog) u 32 56 i0 (.agg #[.bool false, .slice none 0 0]) Try.underlying32 hi hz0 .i64 .i64 (N : Int) (N : Int) (by omega) (by omega) (by rw [hz2]; omega) (by omega)
  rw [Int.toNat_natCast] at h
  simpa only [hz1, Value.cells] using h
/-- the list is full: it reads the new numbers -/
theorem NxR.read {W wr : World} {N : Nat} {Z : Nat → Raw} (h : NxR W wr N (fun q => (Z q).val) N) (hN : N ≤ 16384) (hz : ∀ q, q < N → (Z q).n ≤ 1048576 ∧ Words (Z q).n (Z q).f) :
    ∃ Y, RdL wr (.slice (some ⟨W.heap.size, 0, none⟩) N N) N Y ∧ ∀ q, q < N → (Y q).val = (Z q).val := by
  obtain ⟨Y, h1, h2⟩ := h.zg.read (by omega) (S := 1048576) (by omega) (fun q hq => by
    unfold nxF
    rw [if_pos hq]
    exact (raw_zb (hz q hq).2).mono (hz q hq).1)
  exact ⟨Y, h1, fun q hq => by rw [(h2 q hq).2]; exact if_pos hq⟩
theorem mag_nn {r : Raw} (h : Words r.n r.f) : 0 ≤ r.mag := (natFrom_bd h).1
end Go.Proofs.Ytdlpemmoobbgnaa
