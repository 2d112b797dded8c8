import Derived.Test.YtejliecmdkmgiaaGAC
import Derived.Test.YtejliecmdkmgiaaGAB
import Derived.Test.YtejliecmdkmgiaaGY
import Derived.Test.YtejliecmdkmgiaaGS
import Derived.Test.YtejliecmdkmgiaaGX
import Derived.Sort.CutIn
set_option linter.unusedVariables false
set_option linter.unusedSimpArgs false
set_option maxHeartbeats 8000000
set_option maxRecDepth 100000
namespace Go.Proofs.Ytejliecmdkmgiaa
open Go.RowKit Go.Shelf
attribute [local go_sem] Oper.semAt_some
theorem one_cell' (w : World) (a : Value) (t : TypeId) : (w.alloc (.cells #[a] t)).cell? ⟨w.heap.size, 0, none⟩ = some a ∧ (w.alloc (.cells #[a] t)).frozen? ⟨w.heap.size, 0, none⟩ = false := by
  have h := heap_alloc_new w (.cells #[a] t)
  refine ⟨by rw [cell_of_row _ _ _ _ _ _ h]; rfl, ?_⟩
  unfold World.frozen?
  simp only [h]; simp
theorem two_boxes' (w : World) (a b : Value) (t u : TypeId) :
    let W := (w.alloc (.cells #[a] t)).alloc (.cells #[b] u)
    W.cell? ⟨w.heap.size, 0, none⟩ = some a ∧ W.cell? ⟨w.heap.size + 1, 0, none⟩ = some b ∧ Below w.heap.size w W ∧ W.heap.size = w.heap.size + 2 := by
  have h1 := one_cell' w a t
  have b1 := bl_alloc w (.cells #[a] t)
  have s1 : (w.alloc (.cells #[a] t)).heap.size = w.heap.size + 1 := by simp
  have h2 := one_cell' (w.alloc (.cells #[a] t)) b u
  have b2 := bl_alloc (w.alloc (.cells #[a] t)) (.cells #[b] u)
  rw [s1] at h2
  exact ⟨cell_stays b2 h1.1, h2.1, below_via b1 b2, by simp⟩
theorem boxes_cp (w : World) (r c : Int) (v k : Value) :
    let W := (((w.alloc (.cells #[.int .i64 r, .int .i64 c, v] 24)).alloc (.cells #[k] 3)).alloc (.cells #[.int .i64 0, .int .i64 0, .slice none 0 0] 24)).alloc (.cells #[.int .i64 0] 26)
    MBox W w.heap.size r c v ∧ W.cell? ⟨w.heap.size + 1, 0, none⟩ = some k ∧ MBox W (w.heap.size + 1 + 1) 0 0 (.slice none 0 0) ∧ (W.cell? ⟨w.heap.size + 1 + 1 + 1, 0, none⟩ = some (.int .i64 0) ∧ W.frozen? ⟨w.heap.size + 1 + 1 + 1, 0, none⟩ = false) ∧ Below w.heap.size w W ∧ W.heap.size = w.heap.size + 4 := by
  intro W
  obtain ⟨W', hW⟩ : ∃ W', W' = W := ⟨_, rfl⟩
  rw [← hW]
  have hW2 : W' = (((w.alloc (.cells #[.int .i64 r, .int .i64 c, v] 24)).alloc (.cells #[k] 3)).alloc (.cells #[.int .i64 0, .int .i64 0, .slice none 0 0] 24)).alloc (.cells #[.int .i64 0] 26) := hW
  clear hW
  clear W
  have h1 := MBox.new w r c v
  have s1 : (w.alloc (.cells #[.int .i64 r, .int .i64 c, v] 24)).heap.size = w.heap.size + 1 := by simp
  have b1 := bl_alloc w (.cells #[.int .i64 r, .int .i64 c, v] 24)
  generalize w.alloc (.cells #[.int .i64 r, .int .i64 c, v] 24) = w1 at *
  have h2 := (one_cell' w1 k 3).1
  have s2 : (w1.alloc (.cells #[k] 3)).heap.size = w.heap.size + 1 + 1 := by simp [s1]
  have b2 := bl_alloc w1 (.cells #[k] 3)
  generalize w1.alloc (.cells #[k] 3) = w2 at *
  have h3 := MBox.new w2 0 0 (.slice none 0 0)
  have s3 : (w2.alloc (.cells #[.int .i64 0, .int .i64 0, .slice none 0 0] 24)).heap.size = w.heap.size + 1 + 1 + 1 := by simp [s2]
  have b3 := bl_alloc w2 (.cells #[.int .i64 0, .int .i64 0, .slice none 0 0] 24)
  generalize w2.alloc (.cells #[.int .i64 0, .int .i64 0, .slice none 0 0] 24) = w3 at *
  have h4 := one_cell' w3 (.int .i64 0) 26
  have b4 := bl_alloc w3 (.cells #[.int .i64 0] 26)
  rw [s1] at h2
  rw [s2] at h3
  rw [s3] at h4
  rw [hW2]
  exact ⟨((h1.below b2).below b3).below b4, cell_stays b4 (cell_stays b3 h2), h3.below b4, h4, below_via (below_via (below_via b1 b2) b3) b4, by show (World.alloc w3 _).heap.size = _; simp [s3]⟩
theorem lt_bn {N K t : Nat} (hK : K ≤ N) (h : ∀ s, s < t → ¬ LastS N K s) : t < bn N K := by
  have := rmS_set hK t h; omega
def cpE (A : Nat → Int) (R C K q : Nat) : Int := laZ.dt K (fun i j => A (setS R K (q / bn C K) i * C + setS C K (q % bn C K) j))
theorem cpE_at {A : Nat → Int} {R C K t j : Nat} (hj : j < bn C K) : cpE A R C K (t * bn C K + j) = laZ.dt K (fun i l => A (setS R K t i * C + setS C K j l)) := by
  obtain ⟨h1, h2⟩ := idx_dm (i := t) hj
  unfold cpE
  rw [h1, h2]
theorem cpE_zb {A : Nat → Int} {R C K S : Nat} (hR : K ≤ R) (hC : K ≤ C) (hK : K ≤ 64) (hA : ∀ q, q < R * C → ZB S (A q)) : ∀ q, q < bn R K * bn C K → ZB (64 * (S + 1) + 1) (cpE A R C K q) := fun q hq => by
  have hc := bn_pos hC
  have h1 : q / bn C K < bn R K := Nat.div_lt_of_lt_mul (by rw [Nat.mul_comm]; exact hq)
  have h2 : q % bn C K < bn C K := Nat.mod_lt _ hc
  exact (dtZ_zb K _ (by omega) (fun i j hi hj => hA _ (idx_lt (setS_lt hR (no_last hR h1) hi) (setS_lt hC (no_last hC h2) hj) rfl).1)).mono (Nat.succ_le_succ (Nat.mul_le_mul_right _ hK))
structure CpB (w : World) (R C : Nat) (sl : Value) (K nb kb mb : Nat) (mv : Value) (W : World) : Prop where
  bel : Below w.heap.size w W
  a : MBox W w.heap.size R C sl
  k : W.cell? ⟨w.heap.size + 1, 0, none⟩ = some (.int .i64 K)
  r : MBox W (w.heap.size + 1 + 1) 0 0 (.slice none 0 0)
  e : W.cell? ⟨w.heap.size + 1 + 1 + 1, 0, none⟩ = some (.int .i64 0) ∧ W.frozen? ⟨w.heap.size + 1 + 1 + 1, 0, none⟩ = false
  m : MBox W mb (bn R K) (bn C K) mv
  nn : W.cell? ⟨nb, 0, none⟩ = some (.int .i64 R)
  kk : W.cell? ⟨kb, 0, none⟩ = some (.int .i64 K)
  lm : w.heap.size + 4 ≤ mb
  ln : mb < nb
  lk : nb < kb
section
variable {w W W' : World} {R C K nb kb mb : Nat} {sl mv mv' : Value}
theorem MBox.grow' {r c : Int} {v : Value} {q : Nat} (h : MBox W q r c v) {o : Option Nat} (hg : W.grownBy W' o) (hd : ∀ d, o = some d → q ≠ d) : MBox W' q r c v := by
  cases o with
  | none => exact h.below ⟨hg.os, hg.tape, hg.output, hg.size, fun k hk => hg.block k hk (by simp)⟩
  | some d => exact h.grown hg (hd d rfl)
theorem CpB.grown (h : CpB w R C sl K nb kb mb mv W) {r : Option Nat} (hg : W.grownBy W' r) (hr : ∀ b, r = some b → kb < b) : CpB w R C sl K nb kb mb mv W' := by
  have h1 := h.lm
  have h2 := h.ln
  have h3 := h.lk
  have hne : ∀ q, q ≤ kb → ∀ d, r = some d → q ≠ d := fun q hq d hd => by have := hr d hd; omega
  have hce : ∀ {q i v}, q ≤ kb → W.cell? ⟨q, i, none⟩ = some v → W'.cell? ⟨q, i, none⟩ = some v := fun hq hc => hg.cell hc (fun e => hne _ hq _ e.symm rfl)
  refine ⟨h.bel.grown hg h.bel.size (fun b hb => by have := hr b hb; omega), h.a.grow' hg (hne _ (by omega)), hce (by omega) h.k, h.r.grow' hg (hne _ (by omega)), ⟨hce (by omega) h.e.1, ?_⟩, h.m.grow' hg (hne _ (by omega)), hce (by omega) h.nn, hce (by omega) h.kk, h1, h2, h3⟩
  cases r with
  | none => exact froz_stays ⟨hg.os, hg.tape, hg.output, hg.size, fun k hk => hg.block k hk (by simp)⟩ h.e.1 h.e.2
  | some d => exact froz_grown hg (hne _ (by omega) d rfl) h.e.1 h.e.2
theorem CpB.below (h : CpB w R C sl K nb kb mb mv W) (hb : Below W.heap.size W W') : CpB w R C sl K nb kb mb mv W' := h.grown (gb_below hb none) (fun _ e => by cases e)
theorem CpB.put (h : CpB w R C sl K nb kb mb mv W) : CpB w R C sl K nb kb mb mv' (W.setCell ⟨mb, 2, none⟩ mv') := by
  have hg := gb_set W ⟨mb, 2, none⟩ mv'
  have h1 := h.lm
  have h2 := h.ln
  have h3 := h.lk
  have hce : ∀ {q i v}, q ≠ mb → W.cell? ⟨q, i, none⟩ = some v → (W.setCell ⟨mb, 2, none⟩ mv').cell? ⟨q, i, none⟩ = some v := fun hq hc => hg.cell hc (fun e => hq (Option.some.inj e))
  have n0 : (⟨mb, 2, none⟩ : Addr) ≠ ⟨mb, 0, none⟩ := fun e => by injection e with _ e _; omega
  have n1 : (⟨mb, 2, none⟩ : Addr) ≠ ⟨mb, 1, none⟩ := fun e => by injection e with _ e _; omega
  refine ⟨h.bel.grown hg h.bel.size (fun b hb => by cases hb; show _ ≤ mb; omega), h.a.grown hg (by show w.heap.size ≠ mb; omega), hce (by omega) h.k, h.r.grown hg (by show _ ≠ mb; omega), ⟨hce (by omega) h.e.1, froz_grown hg (by show _ ≠ mb; omega) h.e.1 h.e.2⟩, ?_, hce (by omega) h.nn, hce (by omega) h.kk, h1, h2, h3⟩
  exact ⟨by rw [World.cell?_setCell_other _ _ _ _ n0]; exact h.m.m0, by rw [World.cell?_setCell_other _ _ _ _ n1]; exact h.m.m1, World.cell?_setCell_same _ _ _ h.m.m2, by rw [World.frozen?_setCell]; exact h.m.f0, by rw [World.frozen?_setCell]; exact h.m.f1, by rw [World.frozen?_setCell]; exact h.m.f2⟩
theorem KeepsOthers.grow {A B D : World} (h : KeepsOthers A B) {r : Option Nat} (hg : B.grownBy D r) (hr : ∀ b, r = some b → A.heap.size ≤ b) : KeepsOthers A D :=
  ⟨Nat.le_trans h.size hg.size, fun k o hk ho => (hg.block k (Array.getElem?_eq_some_iff.1 (h.same k o hk ho)).1 (fun e => by have := hr k e.symm; have := (Array.getElem?_eq_some_iff.1 hk).1; omega)).trans (h.same k o hk ho)⟩
end
structure CpI (w : World) (R C : Nat) (sl : Value) (K nb kb mb : Nat) (A : Nat → Int) (D s bx n2 k2 e t : Nat) (W : World) (n : Nat) (mv : Value) (V : World) : Prop where
  b : CpB w R C sl K nb kb mb mv V
  o : OwnS V w.heap.size (fun b => D < b ∧ (b < s ∨ e < b)) mv n (cpE A R C K)
  r : V.cell? ⟨bx, 0, none⟩ = some (.slice (some ⟨s, 0, none⟩) K K)
  c2 : V.cell? ⟨n2, 0, none⟩ = some (.int .i64 C)
  c3 : V.cell? ⟨k2, 0, none⟩ = some (.int .i64 K)
  nu : NumL V s (.slice (some ⟨s, 0, none⟩) K K) K (setS R K t)
  kx : Kx D W V
  h1 : kb < D
  h2 : D < s
  h3 : s < bx
  h4 : bx < n2
  h5 : n2 < k2
  h6 : k2 + 1 < e
  h7 : W.heap.size = n2
section
variable {w W V V' : World} {R C K nb kb mb D s bx n2 k2 e t n : Nat} {sl mv mv' : Value} {A : Nat → Int}
theorem CpI.grown (h : CpI w R C sl K nb kb mb A D s bx n2 k2 e t W n mv V) {r : Option Nat} (hg : V.grownBy V' r) (hr : ∀ b, r = some b → b = e ∨ b + 1 = e) : CpI w R C sl K nb kb mb A D s bx n2 k2 e t W n mv V' := by
  have h1 := h.h1
  have h2 := h.h2
  have h3 := h.h3
  have h4 := h.h4
  have h5 := h.h5
  have h6 := h.h6
  have hlo : ∀ b, r = some b → k2 < b := fun b hb => by rcases hr b hb with h | h <;> omega
  have hce : ∀ {q v}, q ≤ k2 → V.cell? ⟨q, 0, none⟩ = some v → V'.cell? ⟨q, 0, none⟩ = some v := fun {q v} hq hc => hg.cell hc (fun e => by have := hlo q e.symm; omega)
  refine { h with b := h.b.grown hg (fun b hb => by have := hlo b hb; omega), o := h.o.grown hg (fun b hb hp => by rcases hr b hb with h | h <;> omega), r := hce (by omega) h.r, c2 := hce (by omega) h.c2, c3 := hce (by omega) h.c3, nu := World.ownsRow.kept h.nu hg (Or.inr fun e => ?_), kx := ⟨KeepsOthers.grow h.kx.1 hg (fun b hb => by have := hlo b hb; have := h.h7; omega), ?_, Nat.le_trans h.kx.2.2 hg.size⟩ }
  · have := hlo s e.symm; omega
  · refine (hg.block D ?_ (fun e => by have := hlo D e.symm; omega)).trans h.kx.2.1
    have := h.h7
    have := h.kx.2.2
    omega
theorem CpI.below (h : CpI w R C sl K nb kb mb A D s bx n2 k2 e t W n mv V) (hb : Below V.heap.size V V') : CpI w R C sl K nb kb mb A D s bx n2 k2 e t W n mv V' := h.grown (gb_below hb none) (fun _ e => by cases e)
theorem CpI.push (h : CpI w R C sl K nb kb mb A D s bx n2 k2 e t W n mv V) (he : e < V.heap.size) {z : Int} (hz : z = cpE A R C K n) (hg : V.grownBy V' mv.ownBlock) (ho : OwnS V' w.heap.size (fun b => D < b ∧ (b < s ∨ e < b)) mv' (n + 1) (fun i => if i = n then z else cpE A R C K i)) :
    CpI w R C sl K nb kb mb A D s bx n2 k2 e t W (n + 1) mv' (V'.setCell ⟨mb, 2, none⟩ mv') ∧ Kx e V (V'.setCell ⟨mb, 2, none⟩ mv') := by
  have h1 := h.h1
  have h2 := h.h2
  have h3 := h.h3
  have h4 := h.h4
  have h5 := h.h5
  have h6 := h.h6
  have h7 := h.h7
  have h8 := h.b.ln
  have h9 := h.b.lk
  have hp : ∀ b, mv.ownBlock = some b → D < b ∧ (b < s ∨ e < b) := fun b hb => h.o.blk hb
  have hcs : ∀ (j : Nat) (o : Obj), mv.ownBlock = some j → V.heap[j]? = some o → o.isCells = true := fun j o hj ho => h.o.cells hj ho
  have hgm := gb_set V' ⟨mb, 2, none⟩ mv'
  have hce : ∀ {q v}, s < q → q ≤ e → V.cell? ⟨q, 0, none⟩ = some v → (V'.setCell ⟨mb, 2, none⟩ mv').cell? ⟨q, 0, none⟩ = some v := fun {q v} hs hq hc =>
    hgm.cell (hg.cell hc (fun e => by have := hp q e.symm; omega)) (fun e => by injection e with e; have e2 : q = mb := e; omega)
  have hX : ∀ q, q < V.heap.size → q ≠ mb → (q ≤ D ∨ (s ≤ q ∧ q ≤ e)) → (V'.setCell ⟨mb, 2, none⟩ mv').heap[q]? = V.heap[q]? := fun q hq hm hs =>
    (hgm.block q (Nat.lt_of_lt_of_le hq hg.size) (fun e => by injection e with e2; exact hm e2)).trans (hg.block q hq (fun e => by have := hp q e.symm; omega))
  have hko : KeepsOthers V (V'.setCell ⟨mb, 2, none⟩ mv') := (KeepsOthers.of_grownBy hg hcs).trans (KeepsOthers.setCell _ _ _)
  have hD : D < V.heap.size := by have := h.kx.2.2; omega
  refine ⟨{ h with
    b := (h.b.grown hg (fun b hb => by have := hp b hb; omega)).put
    o := (ho.congr (fun i hi => ?_)).grown hgm (fun b hb hq => by cases hb; have : D < mb := hq.1; omega)
    r := hce h3 (by omega) h.r, c2 := hce (by omega) (by omega) h.c2, c3 := hce (by omega) (by omega) h.c3
    nu := World.ownsRow.kept (World.ownsRow.kept h.nu hg (Or.inr fun e => ?_)) hgm (Or.inr fun e => ?_)
    kx := ⟨h.kx.1.trans hko, (hX D hD (by omega) (Or.inl (Nat.le_refl _))).trans h.kx.2.1, Nat.le_trans h.kx.2.2 hko.size⟩ }, hko, hX e he (by omega) (Or.inr ⟨by omega, Nat.le_refl _⟩), hko.size⟩
  · by_cases e : i = n
    · rw [if_pos e, hz, e]
    · rw [if_neg e]
  · have := hp s e.symm; omega
  · injection e with e
    have e2 : s = mb := e
    omega
theorem CpI.mst (h : CpI w R C sl K nb kb mb A D s bx n2 k2 e t W n mv V) (hg : V.grownBy V' mv.ownBlock) : V'.cell? ⟨mb, 2, none⟩ = some mv ∧ V'.frozen? ⟨mb, 2, none⟩ = false := by
  have h1 := h.h1
  have h8 := h.b.ln
  have h9 := h.b.lk
  have h2 := h.b.grown hg (fun b hb => by have := (h.o.blk hb).1; omega)
  exact ⟨h2.m.m2, h2.m.f2⟩
end
end Go.Proofs.Ytejliecmdkmgiaa
namespace Go.Proofs.Ytejliecmdkmgiaa
open Go.RowKit Go.Shelf
attribute [local go_sem] Oper.semAt_some
theorem Compound_good (R C K S : Nat) (sl : Value) (A : Nat → Int) (w : World) (hR : R ≤ 64) (hC : C ≤ 64) (hKR : K ≤ R) (hKC : K ≤ C) (hrb : bn R K ≤ 64) (hcb : bn C K ≤ 64) (hS : S ≤ 268435456) (hr : RdE w sl (R * C) A) (hA : ∀ q, q < R * C → ZB S (A q)) :
    Calls Try.prog 53 #[.agg #[.int .i64 R, .int .i64 C, sl], .int .i64 K] w fun e w' => ∃ mv, e = .returned (.tuple #[.agg #[.int .i64 (bn R K : Nat), .int .i64 (bn C K : Nat), mv], .int .i64 0]) ∧ OwnZ w' w.heap.size mv (bn R K * bn C K) (cpE A R C K) ∧ Below w.heap.size w w' := by
  have hmix : Try.prog.follows .mixedOrders = true := by kernel_rfl
  have hK4 : R * C ≤ 4096 := Nat.mul_le_mul hR hC
  have hK5 : bn R K * bn C K ≤ 4096 := Nat.mul_le_mul hrb hcb
  have hK64 : K ≤ 64 := by omega
  obtain ⟨a, cap, rfl, hcap⟩ := hr.slice
  have hms := fun (u : World) => msize_any R C a (R * C) cap K (by omega) u
  have hmz : mszE R C (R * C) K = 0 := by
    unfold mszE
    rw [checkE_ok hR hC rfl, if_pos rfl, if_neg (by omega)]
  rw [hmz] at hms
  have hmi := fun (u : World) (t j : Nat) (rv cv : Value) (hu : Below w.heap.size w u) (ht : t < bn R K) (hj : j < bn C K) (h1 : RdI64 u rv K (setS R K t)) (h2 : RdI64 u cv K (setS C K j)) => by
    have := Minor_good R C K S _ rv cv (setS C K j) (setS R K t) A u hR hC (by omega) hS (fun i hi => setS_lt hKR (no_last hKR ht) hi) (fun i hi => setS_lt hKC (no_last hKC hj) hi) (hr.below hu) hA h1 h2
    rw [← cpE_at hj] at this
    exact this
  have hez := cpE_zb hKR hKC (by omega) hA
  obtain ⟨N, hN⟩ : ∃ N, N = R * C := ⟨_, rfl⟩
  rw [← hN] at hms hmi ⊢
  have HMS := Lib.hid hms
  have HMI := Lib.hid hmi
  have HEZ := Lib.hid hez
  have HCR := Lib.hid (fun (u : World) => choices_good R K u hR hKR)
  have HCC := Lib.hid (fun (u : World) => choices_good C K u hC hKC)
  have HK5 := Lib.hid hK5
  obtain ⟨hm, hk, hrr, he, hb, hs⟩ := boxes_cp w R C (.slice a N cap) (.int .i64 K)
  have HM := Lib.hid hm
  have HKC := Lib.hid hk
  have HRR := Lib.hid hrr
  have HEE := Lib.hid he
  have HB := Lib.hid hb
  have HS0 := Lib.hid hs
  have HKR := Lib.hid hKR
  have HKL := Lib.hid hKC
  have HPR := Lib.hid (bn_pos hKR)
  have HPC := Lib.hid (bn_pos hKC)
  have l1 : ¬ (64 : Int) < ((bn R K : Nat) : Int) := by omega
  have l2 : ¬ (64 : Int) < ((bn C K : Nat) : Int) := by omega
  have v1 : IntKind.i64.wrap ((bn R K : Nat) : Int) = ((bn R K : Nat) : Int) := IntWalk.i64_in _ (by omega)
  have v2 : IntKind.i64.wrap ((bn C K : Nat) : Int) = ((bn C K : Nat) : Int) := IntWalk.i64_in _ (by omega)
  clear hms hmi hez hm hk hrr he hb hs hr hA hN hmz hcap hKR hKC hK5 hK4
  refine (callsIn_wide (n := 9)).1 ?_
  refine callsIn_of_wp_marks Try.func53 rfl trivial ?_ rfl
  simp only [Try.ntmps53, List.size_toArray, List.length_cons, List.length_nil, Nat.reduceAdd, Nat.reduceSub, Array.replicate_succ, Array.replicate_zero, List.push_toArray, List.append_toArray, List.nil_append, List.cons_append]
  refine wpIn_wide.2 ?_
  have HM_0 := HM.out.m0
  have HM_1 := HM.out.m1
  have HM_2 := HM.out.m2
  have k0 := HKC.out
  go_upto_region 1 with fail
  generalize (((w.alloc (.cells #[.int .i64 R, .int .i64 C, .slice a N cap] 24)).alloc (.cells #[.int .i64 K] 3)).alloc (.cells #[.int .i64 0, .int .i64 0, .slice none 0 0] 24)).alloc (.cells #[.int .i64 0] 26) = W at *
  go_wp2_with fail
  (refine (HMS.out W).mono ?_)
  rintro e w1 ⟨rfl, hb⟩
  replace HM := Lib.hid (HM.out.below hb)
  replace HRR := Lib.hid (HRR.out.below hb)
  replace HB := Lib.hid (below_via HB.out hb)
  replace HKC := Lib.hid (cell_stays hb HKC.out)
  replace HEE := Lib.hid (And.intro (cell_stays hb HEE.out.1) (froz_stays hb HEE.out.1 HEE.out.2))
  replace HS0 := Lib.hid (show w.heap.size + 4 ≤ w1.heap.size by have := HS0.out; have := hb.size; omega)
  clear HM_0 HM_1 HM_2
  clear hb HMS k0
  have HM_0 := HM.out.m0
  have HM_1 := HM.out.m1
  have HM_2 := HM.out.m2
  have k0 := HKC.out
  go_upto_region 4 with fail
  refine Code.wp_mono (Q := Exit.then _ (fun _ _ _ => False)) (fun e a w h => by cases e <;> first | exact h | exact h.elim) ?_
  refine region_early (fun u => u.cell? ⟨w.heap.size, 0, none⟩ = some (.int .i64 R) ∧ u.cell? ⟨w.heap.size, 1, none⟩ = some (.int .i64 C) ∧ u.cell? ⟨w.heap.size + 1, 0, none⟩ = some (.int .i64 K)) 10 [0, 1, 2, 4, 5, 6] 4 hmix (by kernel_rfl) rfl (by kernel_rfl) (fun _ _ d _ _ h => by cases d <;> exact h) ⟨HM_0, HM_1, k0⟩ ?_
  iterate 6 (refine early_take rfl (by rfl) ?_; apply Exists.intro; refine ⟨fun u hu => ?_, ?_⟩; (obtain ⟨u_1, u_2, u_3⟩ := hu; go_simp; rfl); simp only [Act.put, List.getElem_toArray, List.getElem_cons_zero, List.getElem_cons_succ, List.setIfInBounds_toArray, List.set_cons_zero, List.set_cons_succ])
  refine early_done ?_
  simp only [marked]
  refine anyL_one (i := 3) (by kernel_rfl) rfl (by rfl) fun J hJ => ?_
  go_simp
  refine (HCR.out w1.drew).mono ?_
  rintro e w2 ⟨rfl, hb⟩
  have hb' := below_via (bl_drew w1) hb
  have hS := And.intro (cell_stays hb' HM_0) (And.intro (cell_stays hb' HM_1) (cell_stays hb' k0))
  refine hJ _ _ (fun _ => hS) ?_
  have HB2 := Lib.hid hb'
  clear hJ J hb hb'
  refine anyL_one (i := 7) (by kernel_rfl) rfl (by rfl) fun J hJ => ?_
  go_simp
  refine (HCC.out w2).mono ?_
  rintro e w3 ⟨rfl, hb⟩
  have hb' := below_via HB2.out hb
  have hS3 := And.intro (cell_stays hb' HM_0) (And.intro (cell_stays hb' HM_1) (cell_stays hb' k0))
  refine hJ _ _ (fun _ => hS3) ?_
  replace HM := Lib.hid (HM.out.below hb')
  replace HRR := Lib.hid (HRR.out.below hb')
  replace HB := Lib.hid (below_via HB.out hb')
  replace HKC := Lib.hid (cell_stays hb' HKC.out)
  replace HEE := Lib.hid (And.intro (cell_stays hb' HEE.out.1) (froz_stays hb' HEE.out.1 HEE.out.2))
  replace HS0 := Lib.hid (Nat.le_trans HS0.out hb'.size)
  clear HM_0 HM_1 HM_2
  clear hJ J hb hb' hS k0 HCR HCC HB2
  refine anyL_one (i := 8) (by kernel_rfl) rfl (by rfl) fun J hJ => ?_
  go_simp
  refine hJ _ _ (fun _ => hS3) ?_
  clear hJ J
  refine anyL_one (i := 9) (by kernel_rfl) rfl (by rfl) fun J hJ => ?_
  go_simp
  refine hJ _ _ (fun _ => hS3) ?_
  clear hJ J
  refine anyL_done (by kernel_rfl) ?_ _
  clear hS3
  have hba := bl_alloc w3 (.cells #[.int .i64 (bn R K : Nat), .int .i64 (bn C K : Nat), .slice none 0 0] 24)
  have HMB := Lib.hid (MBox.new w3 (bn R K : Nat) (bn C K : Nat) (.slice none 0 0))
  have HLM := Lib.hid HS0.out
  replace HM := Lib.hid (HM.out.below hba)
  replace HRR := Lib.hid (HRR.out.below hba)
  replace HB := Lib.hid (below_via HB.out hba)
  replace HKC := Lib.hid (cell_stays hba HKC.out)
  replace HEE := Lib.hid (And.intro (cell_stays hba HEE.out.1) (froz_stays hba HEE.out.1 HEE.out.2))
  clear hba HS0
  go_upto_region 8 with fail
  obtain ⟨mb, hmb⟩ : ∃ mb, mb = w3.heap.size := ⟨_, rfl⟩
  have HML := Lib.hid (show mb < (w3.alloc (.cells #[.int .i64 (bn R K : Nat), .int .i64 (bn C K : Nat), .slice none 0 0] 24)).heap.size by rw [hmb]; simp)
  rw [← hmb] at HMB HLM ⊢
  clear hmb
  generalize w3.alloc (.cells #[.int .i64 (bn R K : Nat), .int .i64 (bn C K : Nat), .slice none 0 0] 24) = w4 at *
  clear l1 l2 v1 v2
  have HM_0 := HM.out.m0
  have HM_1 := HM.out.m1
  have HM_2 := HM.out.m2
  have k0 := HKC.out
  go_wp2_with fail
  (refine (Sets_any R K w4).mono ?_)
  rintro e w5 ⟨rfl, hw5⟩
  obtain ⟨n0, n1, hb5, hs5⟩ := two_boxes' w4 (.int .i64 R) (.int .i64 K) 3 3
  rw [← hw5] at n0 n1 hb5 hs5
  have hC0 : CpB w R C (.slice a N cap) K w4.heap.size (w4.heap.size + 1) mb (.slice none 0 0) w5 :=
    ⟨below_via HB.out hb5, HM.out.below hb5, cell_stays hb5 HKC.out, HRR.out.below hb5, ⟨cell_stays hb5 HEE.out.1, froz_stays hb5 HEE.out.1 HEE.out.2⟩, HMB.out.below hb5, n0, n1, HLM.out, HML.out, by omega⟩
  have HC0 := Lib.hid hC0
  have HS5 := Lib.hid hs5
  clear hC0 hs5 hb5 n0 n1 hw5 HB HM HKC HRR HEE HMB HLM HML HM_0 HM_1 HM_2 k0
  go_wp2_with fail
  obtain ⟨nb, hnb⟩ : ∃ nb, nb = w4.heap.size := ⟨_, rfl⟩
  obtain ⟨kb, hkb⟩ : ∃ kb, kb = w4.heap.size + 1 := ⟨_, rfl⟩
  rw [← hkb, ← hnb] at HC0
  rw [← hkb, ← hnb]
  have HKB := Lib.hid (show kb < w5.heap.size by have := HS5.out; omega)
  clear hnb hkb HS5
  refine (wpIn_wide (n := 9)).1 ?_
  refine range_boxed (n := 9) (by omega) (gf := 167) (lb := #[.pointer (some ⟨nb, 0, none⟩), .pointer (some ⟨kb, 0, none⟩)]) rfl (enters_of Try.func167 (by kernel_rfl) rfl) rfl
    (fun t => ∃ s, t = s + 1 ∧ (∀ r, r < s → ¬ LastS R K r) ∧ LastS R K s) (fun g => .slice (some ⟨g, 0, none⟩) K K) (fun t W0 W g => RowS (w5.heap.size + 1) R K t W0 W (.slice (some ⟨g, 0, none⟩) K K))
    (fun t W => ∃ mv, CpB w R C (.slice a N cap) K nb kb mb mv W ∧ OwnS W w.heap.size (fun b => w5.heap.size + 2 < b) mv (t * bn C K) (cpE A R C K)) (fun _ _ => False)
    (fun t W0 v bx W => (∀ s, s < t → ¬ LastS R K s) ∧ w5.heap.size + 2 < W0.heap.size ∧ W0.heap.size < bx ∧ bx < W.heap.size ∧ W.cell? ⟨bx, 0, none⟩ = some (.slice (some ⟨v, 0, none⟩) K K) ∧ v = W0.heap.size ∧ NumL W W0.heap.size (.slice (some ⟨v, 0, none⟩) K K) K (setS R K t) ∧ W0.grownBy W (some (w5.heap.size + 1)))
    ?ax ?inv ?invx ?seq ⟨_, HC0.out, by rw [Nat.zero_mul]; exact OwnS.start _ _ _ _⟩ ?round ?done ?stop
  case ax =>
    rintro t W0 v bx W W' ⟨h1, h2, h3, h4, h5, rfl, h6, h7⟩ hg
    exact ⟨h1, h2, h3, Nat.lt_of_lt_of_le h4 hg.size, hg.cell h5 (fun e => by injection e with e; have h : bx = w5.heap.size + 1 := e; omega), rfl, World.ownsRow.kept h6 hg (Or.inr fun e => by simp [Value.ownBlock] at e; omega), gb_trans h7 hg⟩
  case inv =>
    rintro t W W' r ⟨mv, h1, h2⟩ hg hr
    have hk := HKB.out
    exact ⟨mv, h1.grown hg (fun b e => by rcases hr b e with h | h <;> omega), h2.grown hg (fun b e hp => by rcases hr b e with h | h <;> omega)⟩
  case invx => exact fun _ _ _ _ h => h.elim
  case seq =>
    intro l J Jx W hW j1 j2 j3 j4
    refine (sets1_in 8 (by omega) nb kb R K (w5.heap.size + 2) hR HKR.out l J Jx W hW.symm j1 (fun t W h => ?_) (fun t W0 W h1 h2 h3 h4 h5 h6 h7 => j3 t W0 W W0.heap.size ⟨h1, h4, h6, rfl, h7, gb_below h5 _⟩ h2 h3) j4).mono ?_
    · obtain ⟨mv, h, -⟩ := j2 t W h
      exact ⟨h.nn, h.kk⟩
    · rintro e W' ⟨hv, (⟨t, h1, h2, h3⟩ | h)⟩
      · exact ⟨hv, Or.inl ⟨t + 1, ⟨t, rfl, h1, h2⟩, h3⟩⟩
      · exact ⟨hv, Or.inr h⟩
  case stop => exact fun _ _ _ _ h => h.elim
  case round =>
    intro l t v hlrec
    refine ⟨_, fun W0 W K0 i0 i1 hrow hK => by
      obtain ⟨g1, g2, g3, g4, g5, g6⟩ := hrow
      obtain ⟨mv, h1, h2⟩ := i1
      have hba := bl_alloc W (.cells #[.slice (some ⟨v, 0, none⟩) K K] 70)
      have hone := (one_cell' W (.slice (some ⟨v, 0, none⟩) K K) 70).1
      have hlt : W.heap.size < (W.alloc (.cells #[.slice (some ⟨v, 0, none⟩) K K] 70)).heap.size := by simp
      have hX := hba.block (w5.heap.size + 2) (by omega)
      have HG4 := Lib.hid (show v = W0.heap.size by injection g4 with e _ _; injection e with e; injection e)
      clear g4
      gi_wp2
      generalize hbx : W.heap.size = bx at *
      exact hK bx _ (KeepsOthers.alloc _ _) hX ⟨mv, h1.grown (gb_below (hbx.symm ▸ hba) none) (fun _ e => by cases e), h2.grown (gb_below (hbx.symm ▸ hba) none) (fun _ e => by cases e)⟩ ⟨g1, g2, by omega, hlt, hone, HG4.out, g5.below (hbx.symm ▸ hba), gb_trans g6 (gb_below (hbx.symm ▸ hba) _)⟩, ?_⟩
    rintro W0 W bx ⟨r0, hr0⟩ ⟨mv0, hc0, ho0⟩ - ⟨hl, hX, hb0, hb1, hbc, rfl, hnum, hgr⟩
    have ht := lt_bn HKR.out hl
    have hk := HKB.out
    have hC1 := hc0.grown hgr (fun b e => by cases e; omega)
    have hO1 := (ho0.imp (P' := fun b => w5.heap.size + 2 < b ∧ b < W0.heap.size) (fun b _ h1 h2 => ⟨h2, h1⟩)).grown hgr (fun d e hp => by cases e; omega)
    have HC1 := Lib.hid hC1
    have HO1 := Lib.hid hO1
    have HNU := Lib.hid hnum
    have HBC := Lib.hid hbc
    have HXX := Lib.hid (show w5.heap.size + 2 < W0.heap.size ∧ W0.heap.size < bx ∧ bx < W.heap.size from ⟨hX, hb0, hb1⟩)
    have HT := Lib.hid ht
    have HL0 := Lib.hid hr0
    clear hc0 ho0 hC1 hO1 hnum hbc hX hb0 hb1 ht hr0 hgr hl
    have x1 := HC1.out.a.m1
    have k0 := HC1.out.k
    gi_wp2
    refine ⟨trivial, (CallsIn.inRound _ (callsIn_wide.2 (Sets_any C K W))).mono ?_⟩
    rintro e W1 ⟨rfl, hw1⟩
    obtain ⟨n0, n1, hb1, hs1⟩ := two_boxes' W (.int .i64 C) (.int .i64 K) 3 3
    rw [← hw1] at n0 n1 hb1 hs1
    have hxx := HXX.out
    have hlw := (Array.getElem?_eq_some_iff.1 HL0.out).1
    have HL1 := Lib.hid ((hb1.block _ hlw).trans HL0.out)
    have hI0 : CpI w R C (.slice a N cap) K nb kb mb A (w5.heap.size + 2) W0.heap.size bx W.heap.size (W.heap.size + 1) (W1.heap.size + 1) t W (t * bn C K) mv0 W1 :=
      { b := HC1.out.below hb1, o := (HO1.out.below hb1).imp (fun b _ _ h => ⟨h.1, Or.inl h.2⟩), r := cell_stays hb1 HBC.out, c2 := n0, c3 := n1, nu := HNU.out.below hb1, kx := Kx.below hb1 (by omega)
        h1 := by have := HKB.out; omega, h2 := hxx.1, h3 := hxx.2.1, h4 := hxx.2.2, h5 := by omega, h6 := by omega, h7 := rfl }
    have HI0 := Lib.hid hI0
    have HS1 := Lib.hid hs1
    clear hw1 n0 n1 hb1 hs1 hxx hlw x1 k0 HL0 HC1 HO1 HNU HBC hI0
    gi_wp2
    refine range_inner (n := 7) (r₀ := r0) HL1.out (by omega) (gf := 167) (lb := #[.pointer (some ⟨W.heap.size, 0, none⟩), .pointer (some ⟨W.heap.size + 1, 0, none⟩)]) rfl (enters_of Try.func167 (by kernel_rfl) rfl) rfl
      (fun j => ∃ s, j = s + 1 ∧ (∀ r, r < s → ¬ LastS C K r) ∧ LastS C K s) (RowS W1.heap.size C K) (fun t W0 W W' v h hg => h.put hg)
      (fun j V => ∃ mv, CpI w R C (.slice a N cap) K nb kb mb A (w5.heap.size + 2) W0.heap.size bx W.heap.size (W.heap.size + 1) (W1.heap.size + 1) t W (t * bn C K + j) mv V) (fun _ _ => False)
      ?inv2 ?invx2 ?seq2 ⟨_, HI0.out⟩ ?round2 ?done2 ?stop2
    case inv2 =>
      rintro j V V' r ⟨mv, h1⟩ hg hr
      exact ⟨mv, h1.grown hg (fun b e => by rcases hr b e with h | h; exact Or.inr (by omega); exact Or.inl h)⟩
    case invx2 => exact fun _ _ _ _ h => h.elim
    case seq2 =>
      intro l2 J Jx V hV j1 j2 j3 j4
      refine (sets1_in 6 (by omega) W.heap.size (W.heap.size + 1) C K (W1.heap.size + 1) hC HKL.out l2 J Jx V hV.symm j1 (fun j V h => ?_) (fun j V0 V h1 h2 h3 h4 h5 h6 h7 => j3 j V0 V _ ⟨h1, h4, h6, rfl, h7, gb_below h5 _⟩ h2 h3) j4).mono ?_
      · obtain ⟨mv, h⟩ := j2 j V h
        exact ⟨h.c2, h.c3⟩
      · rintro e V' ⟨hv, (⟨j, h1, h2, h3⟩ | h)⟩
        · exact ⟨hv, Or.inl ⟨j + 1, ⟨j, rfl, h1, h2⟩, h3⟩⟩
        · exact ⟨hv, Or.inr h⟩
    case stop2 => exact fun _ _ h => h.elim
    case done2 =>
      rintro j V ⟨s, rfl, hls, hlast⟩ ⟨mv, hi⟩
      have hj := last_bn HKL.out hls hlast
      have he : (t + 1) * bn C K = t * bn C K + (s + 1) := by rw [Nat.add_mul, Nat.one_mul, hj]
      exact ⟨hi.kx.1, hi.kx.2.1, mv, hi.b, by rw [he]; exact hi.o.imp (fun b _ _ h => h.1)⟩
    case round2 =>
      intro l2 j v
      refine ⟨_, fun V K0 hK => by gi_wp2; exact hK, ?_⟩
      rintro V0 V - ⟨mv, hi⟩ ⟨g1, g2, g3, rfl, g5, g6⟩
      have hj := lt_bn HKL.out g1
      have hmi := HMI.out V t j _ _ hi.b.bel HT.out hj (hi.nu.read (by omega)) (g5.read (by omega))
      have hjt : t * bn C K + j < bn R K * bn C K := (idx_lt HT.out hj rfl).1
      have hez := HEZ.out _ hjt
      obtain ⟨n, hn⟩ : ∃ n, n = t * bn C K + j := ⟨_, rfl⟩
      rw [← hn] at hmi hez hjt hi
      obtain ⟨z, hz⟩ : ∃ z, z = cpE A R C K n := ⟨_, rfl⟩
      rw [← hz] at hmi hez
      obtain ⟨ma, mc, rfl⟩ := hi.o.slice
      have HNN := Lib.hid hn
      have HMC := Lib.hid hmi
      have HZZ := Lib.hid hz
      have HZB := Lib.hid hez
      have HI := Lib.hid hi
      have HV := Lib.hid (show W1.heap.size + 1 < V.heap.size by omega)
      have HJT := Lib.hid hjt
      have x0 := hi.b.a.m0
      have x1 := hi.b.a.m1
      have x2 := hi.b.a.m2
      have r0 := hi.r
      clear hmi hz hez hi hj hjt hn g1 g2 g3 g5 g6
      gi_wp2
      refine ⟨trivial, (CallsIn.inRound _ (callsIn_wide.2 HMC.out)).mono ?_⟩
      rintro e V2 ⟨v, rfl, hf, hb2⟩
      obtain ⟨am, an, ac, rfl, hao⟩ := hf.agg
      have hba := bl_alloc V2 (.cells #[.bool (decide (z < 0)), .slice am an ac] 49)
      have hbx := below_via hb2 hba
      obtain ⟨y0, y1, -, -⟩ := two_cells V2 (.bool (decide (z < 0))) (.slice am an ac) 49
      have HI2 := Lib.hid (HI.out.below hbx)
      have HV2 := Lib.hid (Nat.lt_of_lt_of_le HV.out hbx.size)
      have HKV := Lib.hid (Kx.below (X := W1.heap.size + 1) hbx HV.out)
      have HF2 := Lib.hid ((hf.mono HI.out.b.bel.size).below hba)
      have HMP := Lib.hid (show ∀ b, (Value.slice am an ac).ownBlock = some b → w5.heap.size + 2 < b ∧ (b < W0.heap.size ∨ W1.heap.size + 1 < b) from fun b hb => by
        have h1 := (hao b hb).1
        have h2 := HV.out
        have h3 := HI.out.h2
        have h4 := HI.out.h3
        have h5 := HI.out.h4
        have h6 := HS1.out
        omega)
      clear hf hao hba hbx hb2 HMC HI HV x0 x1 x2 r0
      gi_upto_region 13 with fail
      obtain ⟨xb, hxb⟩ : ∃ xb, xb = V2.heap.size := ⟨_, rfl⟩
      rw [← hxb] at y0 y1 ⊢
      clear hxb
      generalize V2.alloc (.cells #[.bool (decide (z < 0)), .slice am an ac] 49) = V3 at *
      have m2 := HI2.out.b.m.m2
      have mf := HI2.out.b.m.f2
      have hbase := HI2.out.b.bel.size
      have hn6 : n ≤ 1048576 := by have := HJT.out; have := HK5.out; omega
      have HP := Lib.hid (show ∀ b, V3.heap.size ≤ b → w5.heap.size + 2 < b ∧ (b < W0.heap.size ∨ W1.heap.size + 1 < b) from fun b hb => by
        have h2 := HV2.out
        have h3 := HI2.out.h2
        have h4 := HI2.out.h3
        have h5 := HI2.out.h4
        have h6 := HS1.out
        omega)
      gi_wp2_with (gi_at_builtin; (refine wpIn_pushS (by rfl) _ _ 22 (by rfl) Try.underlying22 HI2.out.o (by rfl) (z := z) (mv := .slice am an ac) (by rfl) rfl (by rfl) HF2.out HMP.out hbase hn6 HP.out ?_); intro v' V4 q1 q2 q3; obtain ⟨a4, c4, rfl⟩ := q1.slice; have HM4 := Lib.hid (HI2.out.mst q3); have HQ1 := Lib.hid q1; have HQ3 := Lib.hid q3; clear q1 q2 q3 y0 y1 m2 mf; have m4 := HM4.out.1; have mf4 := HM4.out.2)
      obtain ⟨p1, p2⟩ := HI2.out.push HV2.out HZZ.out HQ3.out HQ1.out
      have hkv := HKV.out.trans p2
      exact ⟨hkv.1, hkv.2.1, _, by rw [show t * bn C K + (j + 1) = n + 1 by have := HNN.out; omega]; exact p1⟩
  case done =>
    rintro D t W rfl ⟨s, rfl, hls, hlast⟩ ⟨mv, hc, ho⟩ hD
    have ht := last_bn HKR.out hls hlast
    rw [ht] at ho
    obtain ⟨n, hn⟩ : ∃ n, n = bn R K * bn C K := ⟨_, rfl⟩
    rw [← hn] at ho
    obtain ⟨ma, mc, rfl⟩ := ho.slice
    have hk := HKB.out
    have hlm := hc.lm
    have hln := hc.ln
    have hlk := hc.lk
    have g1 := stored3_gb W (w.heap.size + 1 + 1) (.int .i64 (bn R K : Nat)) (.int .i64 (bn C K : Nat)) (.slice ma n mc)
    have hr1 := hc.r.store (r' := (bn R K : Nat)) (c' := (bn C K : Nat)) (v' := .slice ma n mc)
    have ho1 := ho.grown g1 (fun d e hp => by cases e; omega)
    have hb1 := hc.bel.grown g1 hc.bel.size (fun b e => by cases e; omega)
    have he1 := g1.cell hc.e.1 (fun e => by injection e with e; have e2 : w.heap.size + 1 + 1 + 1 = w.heap.size + 1 + 1 := e; omega)
    have hf1 := froz_grown g1 (show w.heap.size + 1 + 1 + 1 ≠ w.heap.size + 1 + 1 by omega) hc.e.1 hc.e.2
    have hd1 := (g1.block w5.heap.size (Array.getElem?_eq_some_iff.1 hD).1 (fun e => by injection e with e; omega)).trans hD
    have g2 : (stored3 W (w.heap.size + 1 + 1) (.int .i64 (bn R K : Nat)) (.int .i64 (bn C K : Nat)) (.slice ma n mc)).grownBy ((stored3 W (w.heap.size + 1 + 1) (.int .i64 (bn R K : Nat)) (.int .i64 (bn C K : Nat)) (.slice ma n mc)).setCell ⟨w.heap.size + 1 + 1 + 1, 0, none⟩ (.int .i64 0)) (some (w.heap.size + 1 + 1 + 1)) := gb_set _ _ _
    have hr2 := hr1.grown g2 (by omega)
    have ho2 := ho1.grown g2 (fun d e hp => by cases e; omega)
    have hb2 := hb1.grown g2 hb1.size (fun b e => by cases e; omega)
    have he2 := World.cell?_setCell_same _ _ (Value.int .i64 0) he1
    have hd2 := (g2.block w5.heap.size (Array.getElem?_eq_some_iff.1 hd1).1 (fun e => by injection e with e; omega)).trans hd1
    have x0 := hc.m.m0
    have x1 := hc.m.m1
    have x2 := hc.m.m2
    have r0 := hc.r.m0
    have r1 := hc.r.m1
    have r2 := hc.r.m2
    have r3 := hc.r.f0
    have r4 := hc.r.f1
    have r5 := hc.r.f2
    have e0 := hc.e.1
    have e1 := hc.e.2
    have HF1 := hf1
    have HO2 := Lib.hid ho2
    have HB2 := Lib.hid hb2
    have HD2 := Lib.hid hd2
    have HR2 := Lib.hid hr2
    have HE2 := Lib.hid he2
    have HE1 := he1
    have HNN := Lib.hid hn
    have HSM := Lib.hid (show w.heap.size + 1 + 1 + 1 < w5.heap.size by omega)
    clear hls hlast hc ho hD ht hk hlm hln hlk g1 g2 hr1 hr2 ho1 ho2 hb1 hb2 he1 he2 hf1 hd1 hd2 hn
    unfold stored3 at HF1 HE1
    go_wp2_with fail
    unfold stored3 at HO2 HB2 HD2 HR2 HE2
    generalize ((((W.setCell ⟨w.heap.size + 1 + 1, 0, none⟩ (.int .i64 (bn R K : Nat))).setCell ⟨w.heap.size + 1 + 1, 1, none⟩ (.int .i64 (bn C K : Nat))).setCell ⟨w.heap.size + 1 + 1, 2, none⟩ (.slice ma n mc))).setCell ⟨w.heap.size + 1 + 1 + 1, 0, none⟩ (.int .i64 0) = W9 at *
    have gq := grownBy_putObj' W9 w5.heap.size (.deferred none)
    have hsm := HSM.out
    have hr3 := HR2.out.grown gq (by omega)
    have p0 := hr3.m0
    have p1 := hr3.m1
    have p2 := hr3.m2
    have q0 := gq.cell HE2.out (fun e => by injection e with e; have e2 : w.heap.size + 1 + 1 + 1 = w5.heap.size := e; omega)
    have ho3 := HO2.out.grown gq (fun d e hp => by cases e; omega)
    have hb3 := HB2.out.grown gq HB2.out.size (fun b e => by cases e; omega)
    refine ⟨by simp, .inl ⟨_, _, rfl, run_takeDeferred HD2.out, ?_⟩⟩
    refine ⟨.tuple #[.agg #[.int .i64 (bn R K : Nat), .int .i64 (bn C K : Nat), .slice ma n mc], .int .i64 0], ?_, _, rfl, HNN.out ▸ ho3.own, hb3⟩
    simp [results, Try.results53, go_sem, p0, p1, p2, q0]
end Go.Proofs.Ytejliecmdkmgiaa
