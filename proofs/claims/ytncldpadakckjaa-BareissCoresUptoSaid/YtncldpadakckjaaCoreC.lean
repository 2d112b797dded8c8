/- The plain law of BareissCores: the core's determinant is not 0, a larger one's is. Two lists of the call's own in a region that draws its order: each is grown by one number. The walk of the law BareissCores where the matrix is refused. The walk of the law BareissCores. 'BareissCores', where what it reads is of bulk at most 1,048,576: for every matrix m and all numbers row and col the law returns true and its arguments read as before. -/
import Derived.Test.YtncldpadakckjaaGF
import Derived.Test.YtncldpadakckjaaGI
import Derived.Test.YtncldpadakckjaaGH
import Derived.Deep.AppendLies
import Derived.Test.YtncldpadakckjaaRows
import Derived.ProofKit
import Derived.OpenShut
import Derived.Carry
import Derived.JoinedCond
set_option linter.unusedVariables false
set_option linter.unusedSimpArgs false
namespace Go.Proofs.Ytncldpadakckjaa
open Go.RowKit laQ

theorem dtQ_ne {n : Nat} {M : Nat → Nat → Int} (h : dt n (fun i j => ((M i j : Int) : Rat)) ≠ 0) : laZ.dt n M ≠ 0 := by
  rw [dtQ_cast] at h
  intro e
  rw [e] at h
  exact h rfl
theorem dtQ_eq0 {n : Nat} {M : Nat → Nat → Int} (h : dt n (fun i j => ((M i j : Int) : Rat)) = 0) : laZ.dt n M = 0 := by
  rw [dtQ_cast] at h
  exact ratI_inj h

theorem PivQ.core {m n r : Nat} {P Q : Nat → Nat} {A : Nat → Nat → Int} (h : PivQ m n r P A) (h' : PivQ n m r Q (fun j i => A i j)) : laZ.dt r (fun i j => A (Q i) (P j)) ≠ 0 := by
  obtain ⟨M, h1, h2⟩ := h
  obtain ⟨M', h3, h4⟩ := h'
  exact dtQ_ne (core_det fldQ h1 h2 h3 h4).2
theorem PivQ.more {m n r k : Nat} {P : Nat → Nat} {A : Nat → Nat → Int} (h : PivQ m n r P A) (hk : r < k) {Q' P' : Nat → Nat} (hQ : ∀ i, i < k → Q' i < m) (hP : ∀ i, i < k → P' i < n) : laZ.dt k (fun i j => A (Q' i) (P' j)) = 0 :=
  dtQ_eq0 (more_det fldQ h.rk hk hQ hP)
end Go.Proofs.Ytncldpadakckjaa

namespace Go.Proofs.Ytncldpadakckjaa
open Go.RowKit

/-- u stands behind w0; zb: a new box for a matrix, if it is made already; the lists x1, x2 of w0 are v1, v2 now; nothing else of w0 has turned -/
structure Two (w0 u : World) (base : Nat) (x1 x2 v1 v2 : Value) (n1 n2 : Nat) (f1 f2 : Nat → Nat) (zb : Option Nat) : Prop where
  os : u.os = w0.os
  tape : u.tape = w0.tape
  output : u.output = w0.output
  size : w0.heap.size ≤ u.heap.size
  block : ∀ k, k < w0.heap.size → x1.ownBlock ≠ some k → x2.ownBlock ≠ some k → u.heap[k]? = w0.heap[k]?
  l1 : OwnL u base 3 v1 n1 (fun i => .int .i64 (f1 i : Nat))
  l2 : OwnL u base 3 v2 n2 (fun i => .int .i64 (f2 i : Nat))
  ap : Apart v1 v2
  o1 : ∀ b, v1.ownBlock = some b → x1.ownBlock = some b ∨ w0.heap.size ≤ b
  o2 : ∀ b, v2.ownBlock = some b → x2.ownBlock = some b ∨ w0.heap.size ≤ b
  lo1 : ∀ b, x1.ownBlock = some b → base ≤ b
  lo2 : ∀ b, x2.ownBlock = some b → base ≤ b
  lt1 : ∀ b, x1.ownBlock = some b → b < w0.heap.size
  lt2 : ∀ b, x2.ownBlock = some b → b < w0.heap.size
  box : ∀ q, zb = some q → w0.heap.size ≤ q ∧ q < u.heap.size ∧ v1.ownBlock ≠ some q ∧ v2.ownBlock ≠ some q ∧ (u.cell? ⟨q, 0, none⟩ = some (.int .i64 0) ∧ u.cell? ⟨q, 1, none⟩ = some (.int .i64 0) ∧ u.cell? ⟨q, 2, none⟩ = some (.slice none 0 0)) ∧ (u.frozen? ⟨q, 0, none⟩ = false ∧ u.frozen? ⟨q, 1, none⟩ = false ∧ u.frozen? ⟨q, 2, none⟩ = false)
section
variable {w0 u u' : World} {base : Nat} {x1 x2 v1 v2 : Value} {n1 n2 : Nat} {f1 f2 : Nat → Nat} {zb : Option Nat}
theorem Two.start (h1 : OwnL w0 base 3 x1 n1 (fun i => .int .i64 (f1 i : Nat))) (h2 : OwnL w0 base 3 x2 n2 (fun i => .int .i64 (f2 i : Nat))) (ap : Apart x1 x2) : Two w0 w0 base x1 x2 x1 x2 n1 n2 f1 f2 none :=
  ⟨rfl, rfl, rfl, Nat.le_refl _, fun _ _ _ _ => rfl, h1, h2, ap, fun _ h => Or.inl h, fun _ h => Or.inl h, fun b hb => (World.ownsRow.lt h1 b hb).1, fun b hb => (World.ownsRow.lt h2 b hb).1, fun b hb => (World.ownsRow.lt h1 b hb).2, fun b hb => (World.ownsRow.lt h2 b hb).2, fun _ h => absurd h (by simp)⟩
theorem Two.symm (h : Two w0 u base x1 x2 v1 v2 n1 n2 f1 f2 zb) : Two w0 u base x2 x1 v2 v1 n2 n1 f2 f1 zb :=
  ⟨h.os, h.tape, h.output, h.size, fun k hk a b => h.block k hk b a, h.l2, h.l1, h.ap.symm, h.o2, h.o1, h.lo2, h.lo1, h.lt2, h.lt1, fun q e => by obtain ⟨a, b, c, d, e, f⟩ := h.box q e; exact ⟨a, b, d, c, e, f⟩⟩
theorem Two.below (h : Two w0 u base x1 x2 v1 v2 n1 n2 f1 f2 zb) (hb : Below u.heap.size u u') : Two w0 u' base x1 x2 v1 v2 n1 n2 f1 f2 zb :=
  ⟨hb.os.trans h.os, hb.tape.trans h.tape, hb.output.trans h.output, Nat.le_trans h.size hb.size, fun k hk a b => (hb.block k (Nat.lt_of_lt_of_le hk h.size)).trans (h.block k hk a b), own_below h.l1 hb, own_below h.l2 hb, h.ap, h.o1, h.o2, h.lo1, h.lo2, h.lt1, h.lt2, fun q e => by
    obtain ⟨a, b, c, d, ⟨e0, e1, e2⟩, f0, f1, f2⟩ := h.box q e
    exact ⟨a, Nat.lt_of_lt_of_le b hb.size, c, d, ⟨cell_stays hb e0, cell_stays hb e1, cell_stays hb e2⟩, froz_stays hb e0 f0, froz_stays hb e1 f1, froz_stays hb e2 f2⟩⟩
theorem Two.bel (h : Two w0 u base x1 x2 v1 v2 n1 n2 f1 f2 zb) {w : World} (hw : Below w.heap.size w w0) (hb : w.heap.size ≤ base) : Below w.heap.size w u :=
  ⟨h.os.trans hw.os, h.tape.trans hw.tape, h.output.trans hw.output, Nat.le_trans hw.size h.size, fun k hk => (h.block k (Nat.lt_of_lt_of_le hk hw.size) (fun e => by have := h.lo1 k e; omega) (fun e => by have := h.lo2 k e; omega)).trans (hw.block k hk)⟩
theorem Two.cell (h : Two w0 u base x1 x2 v1 v2 n1 n2 f1 f2 zb) {k i : Nat} {v : Value} (a : x1.ownBlock ≠ some k) (b : x2.ownBlock ≠ some k) (hc : w0.cell? ⟨k, i, none⟩ = some v) : u.cell? ⟨k, i, none⟩ = some v :=
  (World.cell?_of_block (w := w0) (a := ⟨k, i, none⟩) (h.block k (World.block_lt_of_cell? _ _ hc) a b)).trans hc
theorem Two.froz (h : Two w0 u base x1 x2 v1 v2 n1 n2 f1 f2 zb) {k i : Nat} {v : Value} (a : x1.ownBlock ≠ some k) (b : x2.ownBlock ≠ some k) (hc : w0.cell? ⟨k, i, none⟩ = some v) (hf : w0.frozen? ⟨k, i, none⟩ = false) : u.frozen? ⟨k, i, none⟩ = false :=
  (World.frozen?_of_block (w := w0) (a := ⟨k, i, none⟩) (h.block k (World.block_lt_of_cell? _ _ hc) a b)).trans hf
theorem Two.rd1 (h : Two w0 u base x1 x2 v1 v2 n1 n2 f1 f2 zb) (hn : n1 ≤ 64) : RdI64 u v1 n1 f1 := (own_fr (k := .i64) (f := fun i => (f1 i : Int)) h.l1 (by omega)).read
theorem Two.rd2 (h : Two w0 u base x1 x2 v1 v2 n1 n2 f1 f2 zb) (hn : n2 ≤ 64) : RdI64 u v2 n2 f2 := h.symm.rd1 hn

set_option maxRecDepth 10000 in
/-- one number more behind the first list -/
theorem step_two1 {ops : Array Oper} {o : Oper} {a : Act} {K : Act → World → Prop} {Q : Exit → Act → World → Prop} {E : Prop} (hgd : o.guard = none) (s x : Operand)
    (ho : o.op = .call { callee := .builtin .append, args := #[s, x], argTypes := #[25, 25] }) {val : Nat}
    (h : Two w0 u base x1 x2 x1 v2 n1 n2 f1 f2 zb) (hs : a.eval s = x1) (q : Nat) (hx : a.eval x = .slice (some ⟨q, 0, none⟩) 1 1) (hnew : u.cell? ⟨q, 0, none⟩ = some (.int .i64 (val : Nat))) (hn : n1 ≤ 64) (hb : base ≤ w0.heap.size)
    (hK : ∀ g cap u', Two w0 u' base x1 x2 (.slice (some ⟨g, 0, none⟩) (n1 + 1) cap) v2 (n1 + 1) n2 (fun i => if i = n1 then val else f1 i) f2 zb → (∀ k i v, w0.heap.size ≤ k → u.cell? ⟨k, i, none⟩ = some v → u'.cell? ⟨k, i, none⟩ = some v) → K (a.put o.dst (.slice (some ⟨g, 0, none⟩) (n1 + 1) cap)) u') :
    if Region.wanted o (yielded ops a.tmps) = true then Oper.wp Try.prog o a u K Q else E := by
  obtain ⟨i0, hi, hz0, hz1, hz2⟩ := info_parts infoN
  have hlt := h.lt1
  refine step_append_lies _ hgd s x 25 ho base 3 i0 (.int .i64 0) 1 8 Try.underlying25 hi hz0 hz1 hz2 rfl (by omega) x1 n1 _ hs h.l1 ⟨q, 0, none⟩ 1 1 [.int .i64 (val : Nat)] hx rfl ?_ ?_ (by omega) (by unfold maxLen; omega) (by omega) (Nat.le_trans hb h.size) _ rfl fun g cap u' h1 h2 h3 h4 => hK g cap u' ?_ ?_
  · intro j y hj
    match j, hj with
    | 0, hj => simp at hj; subst hj; exact hnew
  · intro y hy; simp at hy; subst hy; rfl
  · refine ⟨h2.os.trans h.os, h2.tape.trans h.tape, h2.output.trans h.output, Nat.le_trans h.size h2.size, ?_, ?_, ?_, ?_, ?_, h.o2, h.lo1, h.lo2, h.lt1, h.lt2, ?_⟩
    · intro k hk a1 a2
      exact (h2.block k (Nat.lt_of_lt_of_le hk h.size) (fun e => a1 e.symm)).trans (h.block k hk a1 a2)
    · have e : ((List.range (n1 + 1)).map fun i => Value.int .i64 ((if i = n1 then val else f1 i : Nat) : Int)) = ((List.range n1).map fun i => Value.int .i64 ((f1 i : Nat) : Int)) ++ [Value.int .i64 (val : Nat)] := by
        rw [List.range_succ, List.map_append]
        congr 1
        · exact List.map_congr_left fun i hi => by rw [if_neg (by have := List.mem_range.1 hi; omega)]
        · simp
      show u'.ownsRow _ _ _ _ _ _
      rw [e]; exact h1
    · refine World.ownsRow.kept h.l2 h2 ?_
      cases hv : v2.ownBlock with
      | none => exact Or.inl rfl
      | some b => exact Or.inr fun e => h.ap b e.symm hv
    · intro b hb1 hb2
      simp [Value.ownBlock] at hb1
      subst hb1
      rcases h3 with h3 | h3
      · exact h.ap g h3 hb2
      · have := (World.ownsRow.lt h.l2 g hb2).2; omega
    · intro b hb1
      simp [Value.ownBlock] at hb1
      subst hb1
      rcases h3 with h3 | h3
      · exact Or.inl h3
      · right; have := h.size; omega
    · intro q e
      obtain ⟨a1, a2, a3, a4, ⟨e0, e1, e2⟩, f0, f1, f2⟩ := h.box q e
      have hb : u'.heap[q]? = u.heap[q]? := h2.block q a2 (fun e => a3 e.symm)
      refine ⟨a1, Nat.lt_of_lt_of_le a2 h2.size, ?_, a4, ⟨(World.cell?_of_block (w := u) (a := ⟨q, 0, none⟩) hb).trans e0, (World.cell?_of_block (w := u) (a := ⟨q, 1, none⟩) hb).trans e1, (World.cell?_of_block (w := u) (a := ⟨q, 2, none⟩) hb).trans e2⟩, (World.frozen?_of_block (w := u) (a := ⟨q, 0, none⟩) hb).trans f0, (World.frozen?_of_block (w := u) (a := ⟨q, 1, none⟩) hb).trans f1, (World.frozen?_of_block (w := u) (a := ⟨q, 2, none⟩) hb).trans f2⟩
      intro e'
      simp [Value.ownBlock] at e'
      subst e'
      rcases h3 with h3 | h3
      · exact a3 h3
      · omega
  · intro k i v hk hc
    exact h2.cell hc (fun e => by have := hlt k e.symm; omega)

set_option maxRecDepth 10000 in
/-- one number more behind the second list -/
theorem step_two2 {ops : Array Oper} {o : Oper} {a : Act} {K : Act → World → Prop} {Q : Exit → Act → World → Prop} {E : Prop} (hgd : o.guard = none) (s x : Operand)
    (ho : o.op = .call { callee := .builtin .append, args := #[s, x], argTypes := #[25, 25] }) {val : Nat}
    (h : Two w0 u base x1 x2 v1 x2 n1 n2 f1 f2 zb) (hs : a.eval s = x2) (q : Nat) (hx : a.eval x = .slice (some ⟨q, 0, none⟩) 1 1) (hnew : u.cell? ⟨q, 0, none⟩ = some (.int .i64 (val : Nat))) (hn : n2 ≤ 64) (hb : base ≤ w0.heap.size)
    (hK : ∀ g cap u', Two w0 u' base x1 x2 v1 (.slice (some ⟨g, 0, none⟩) (n2 + 1) cap) n1 (n2 + 1) f1 (fun i => if i = n2 then val else f2 i) zb → (∀ k i v, w0.heap.size ≤ k → u.cell? ⟨k, i, none⟩ = some v → u'.cell? ⟨k, i, none⟩ = some v) → K (a.put o.dst (.slice (some ⟨g, 0, none⟩) (n2 + 1) cap)) u') :
    if Region.wanted o (yielded ops a.tmps) = true then Oper.wp Try.prog o a u K Q else E :=
  step_two1 hgd s x ho h.symm hs q hx hnew hn hb fun g cap u' h1 h2 => hK g cap u' h1.symm h2
theorem Two.alloc (h : Two w0 u base x1 x2 v1 v2 n1 n2 f1 f2 zb) (o : Obj) : Two w0 (u.alloc o) base x1 x2 v1 v2 n1 n2 f1 f2 zb := h.below (bl_alloc _ _)
theorem Two.drew (h : Two w0 u base x1 x2 v1 v2 n1 n2 f1 f2 zb) : Two w0 u.drew base x1 x2 v1 v2 n1 n2 f1 f2 zb := h.below (bl_drew _)
theorem Two.boxed (h : Two w0 u base x1 x2 v1 v2 n1 n2 f1 f2 none) : Two w0 (u.alloc (.cells #[.int .i64 0, .int .i64 0, .slice none 0 0] 24)) base x1 x2 v1 v2 n1 n2 f1 f2 (some u.heap.size) := by
  have k := three_cells u (.int .i64 0) (.int .i64 0) (.slice none 0 0) 24
  have h' := h.alloc (.cells #[.int .i64 0, .int .i64 0, .slice none 0 0] 24)
  refine { h' with box := fun q e => ?_ }
  obtain rfl := Option.some.inj e
  exact ⟨h.size, by simp, fun e => by have := (World.ownsRow.lt h.l1 _ e).2; omega, fun e => by have := (World.ownsRow.lt h.l2 _ e).2; omega, ⟨(k 0 _ rfl).1, (k 1 _ rfl).1, (k 2 _ rfl).1⟩, (k 0 _ rfl).2, (k 1 _ rfl).2, (k 2 _ rfl).2⟩
end
end Go.Proofs.Ytncldpadakckjaa

namespace Go.Proofs.Ytncldpadakckjaa
open Go.RowKit

theorem zCmp_same (x y : Value) (a : Int) (w : World) (hx : RdZ w x a) (hy : RdZ w y a) :
    Calls Try.prog 37 #[x, y] w fun e w' => e = .returned (.int .i64 0) ∧ Below w.heap.size w w' := by
  have h := zCmp_any x y a a w hx hy
  rw [show cmpZ a a = 0 by unfold cmpZ; rw [if_neg (by omega), if_neg (by omega)]] at h
  exact h

set_option maxHeartbeats 4000000 in
set_option maxRecDepth 100000 in
theorem Cores_bad (r c row col : Int) (a : Option Addr) (n cap : Nat) (hn : n ≤ 17592186044416) (hE : checkE r c n = 1) (w : World) :
    Calls Try.prog 7 #[.agg #[.int .i64 r, .int .i64 c, .slice a n cap], .int .i64 row, .int .i64 col] w fun e w' => e = .returned (.bool true) ∧ Below w.heap.size w w' := by
  obtain ⟨⟨c0, c1, c2⟩, hB, hsz⟩ := boxM w (.int .i64 r) (.int .i64 c) (.slice a n cap)
  have hck := fun (u : World) => Check_any r c a n cap hn u
  have hco := fun (u : World) => Core_bad r c a n cap hn hE u
  have hrk := fun (u : World) => Rank_bad r c a n cap hn hE u
  rw [hE] at hck
  have HCK := Lib.hid hck
  have HCO := Lib.hid hco
  have HRK := Lib.hid hrk
  have HB := Lib.hid hB
  clear hck hco hrk hB hE hsz
  go_enter Try.func7, Try.ntmps7
  go_upto_region 1 with fail
  generalize w.alloc (.cells #[.int .i64 r, .int .i64 c, .slice a n cap] 24) = W at *
  go_wp2_with fail
  (refine (HCO.out W).mono ?_)
  rintro e w1 ⟨rfl, hb_w1⟩
  have ba_w1 := bl_alloc w1 (.cells #[.bool false, .slice none 0 0] 42)
  replace hb_w1 := below_via hb_w1 ba_w1
  obtain ⟨d0, d1, -, -⟩ := two_cells w1 (.bool false) (.slice none 0 0) 42
  replace c0 := cell_stays hb_w1 c0
  replace c1 := cell_stays hb_w1 c1
  replace c2 := cell_stays hb_w1 c2
  replace HB := Lib.hid (below_via HB.out hb_w1)
  clear hb_w1 ba_w1 HCO
  go_upto_region 2 with fail
  generalize hq_w1 : w1.heap.size = q_w1 at *
  generalize w1.alloc (.cells #[.bool false, .slice none 0 0] 42) = v_w1 at *
  clear hq_w1
  go_wp2_with fail
  (refine (HRK.out v_w1).mono ?_)
  rintro e w2 ⟨rfl, hb_w2⟩
  replace c0 := cell_stays hb_w2 c0
  replace c1 := cell_stays hb_w2 c1
  replace c2 := cell_stays hb_w2 c2
  replace d0 := cell_stays hb_w2 d0
  replace d1 := cell_stays hb_w2 d1
  replace HB := Lib.hid (below_via HB.out hb_w2)
  clear hb_w2 HRK
  go_wp2_with fail
  (refine (awake_any w2).mono ?_)
  rintro e w3 ⟨rfl, hb_w3⟩
  replace c0 := cell_stays hb_w3 c0
  replace c1 := cell_stays hb_w3 c1
  replace c2 := cell_stays hb_w3 c2
  replace d0 := cell_stays hb_w3 d0
  replace d1 := cell_stays hb_w3 d1
  replace HB := Lib.hid (below_via HB.out hb_w3)
  clear hb_w3
  go_wp2_with fail
  (refine (HCK.out w3).mono ?_)
  rintro e w4 ⟨rfl, hb_w4⟩
  replace c0 := cell_stays hb_w4 c0
  replace c1 := cell_stays hb_w4 c1
  replace c2 := cell_stays hb_w4 c2
  replace d0 := cell_stays hb_w4 d0
  replace d1 := cell_stays hb_w4 d1
  replace HB := Lib.hid (below_via HB.out hb_w4)
  clear hb_w4 HCK
  have HSG := Lib.hid (zSign_any _ 0 w4 (rd_zero w4))
  rw [sgZ_zero] at HSG
  go_wp2_with fail
  (refine (HSG.out).mono ?_)
  rintro e w5 ⟨rfl, hb_w5⟩
  replace c0 := cell_stays hb_w5 c0
  replace c1 := cell_stays hb_w5 c1
  replace c2 := cell_stays hb_w5 c2
  replace d0 := cell_stays hb_w5 d0
  replace d1 := cell_stays hb_w5 d1
  replace HB := Lib.hid (below_via HB.out hb_w5)
  clear hb_w5 HSG
  go_wp2_with fail
  go_ret
  exact ⟨rfl, HB.out⟩
end Go.Proofs.Ytncldpadakckjaa

namespace Go.Proofs.Ytncldpadakckjaa
open Go.RowKit

theorem own_ne {v : Value} {m k : Nat} (h : ∀ b, v.ownBlock = some b → b < m) (hk : m ≤ k) : v.ownBlock ≠ some k := fun e => by have := h k e; omega
theorem FrA.own_lt {k : IntKind} {e : TypeId} {w : World} {base : Nat} {v : Value} {n : Nat} {f : Nat → Int} (h : FrA k e w base v n f) : ∀ b, v.ownBlock = some b → b < w.heap.size := by
  intro b hb
  rcases h with ⟨rfl, -⟩ | ⟨g, cap, rfl, -, -, -, hB, -⟩
  · simp [Value.ownBlock] at hb
  · simp [Value.ownBlock] at hb
    subst hb
    exact hB.lt
theorem sgZ_eq0 (a : Int) : sgZ a = 0 ↔ a = 0 := by unfold sgZ; (repeat' split) <;> omega
/-- a box with two cells -/
def K4 (u : World) (b : Nat) (v0 v1 : Value) : Prop := (u.cell? ⟨b, 0, none⟩ = some v0 ∧ u.cell? ⟨b, 1, none⟩ = some v1) ∧ u.frozen? ⟨b, 0, none⟩ = false ∧ u.frozen? ⟨b, 1, none⟩ = false
theorem K4.below {u u' : World} {b : Nat} {v0 v1 : Value} (h : K4 u b v0 v1) (hb : Below u.heap.size u u') : K4 u' b v0 v1 :=
  ⟨⟨cell_stays hb h.1.1, cell_stays hb h.1.2⟩, froz_stays hb h.1.1 h.2.1, froz_stays hb h.1.2 h.2.2⟩
theorem K4.far {u : World} {b q : Nat} {v0 v1 x0 x1 x2 : Value} (h : K4 u b v0 v1) (hne : b ≠ q) : K4 (((u.setCell ⟨q, 0, none⟩ x0).setCell ⟨q, 1, none⟩ x1).setCell ⟨q, 2, none⟩ x2) b v0 v1 :=
  ⟨⟨three_far h.1.1 hne, three_far h.1.2 hne⟩, by rw [World.frozen?_setCell, World.frozen?_setCell, World.frozen?_setCell]; exact h.2.1, by rw [World.frozen?_setCell, World.frozen?_setCell, World.frozen?_setCell]; exact h.2.2⟩
theorem Two.k4 {w0 u : World} {base : Nat} {x1 x2 v1 v2 : Value} {n1 n2 : Nat} {f1 f2 : Nat → Nat} {zb : Option Nat} (h : Two w0 u base x1 x2 v1 v2 n1 n2 f1 f2 zb) {b : Nat} {y0 y1 : Value} (a1 : x1.ownBlock ≠ some b) (a2 : x2.ownBlock ≠ some b) (k : K4 w0 b y0 y1) : K4 u b y0 y1 :=
  ⟨⟨h.cell a1 a2 k.1.1, h.cell a1 a2 k.1.2⟩, h.froz a1 a2 k.1.1 k.2.1, h.froz a1 a2 k.1.2 k.2.2⟩
theorem pickA_zb {A : Nat → Int} {R C S r : Nat} {Q P : Nat → Nat} (hA : ∀ q, q < R * C → ZB S (A q)) (hQ : ∀ i, i < r → Q i < R) (hP : ∀ i, i < r → P i < C) : ∀ q, q < r * r → ZB S (A (Q (q / r) * C + P (q % r))) := fun q hq => by
  obtain ⟨h1, h2⟩ := idx_at hq
  exact hA _ (idx_lt (hQ _ h1) (hP _ h2) rfl).1
theorem pick_det (A : Nat → Int) (C r : Nat) (Q P : Nat → Nat) : laZ.dt r (fun i j => A (Q ((i * r + j) / r) * C + P ((i * r + j) % r))) = laZ.dt r (fun i j => A (Q i * C + P j)) := laZ.dt_congr fun i j _ hj => by
  obtain ⟨h1, h2⟩ := idx_dm (i := i) hj
  rw [h1, h2]

set_option maxHeartbeats 8000000 in
set_option maxRecDepth 100000 in
theorem Cores_good (R C : Nat) (row col : Int) (sl : Value) (A : Nat → Int) (S : Nat) (w : World) (hR : R ≤ 64) (hC : C ≤ 64) (hS : S ≤ 100000000) (hr : RdE w sl (R * C) A) (hA : ∀ q, q < R * C → ZB S (A q)) :
    Calls Try.prog 7 #[.agg #[.int .i64 R, .int .i64 C, sl], .int .i64 row, .int .i64 col] w fun e w' => e = .returned (.bool true) ∧ Below w.heap.size w w' := by
  have hK4 : R * C ≤ 4096 := Nat.mul_le_mul hR hC
  obtain ⟨a, cap, rfl, hcap⟩ := hr.slice
  obtain ⟨⟨c0, c1, c2⟩, hB, hsz⟩ := boxM w (.int .i64 R) (.int .i64 C) (.slice a (R * C) cap)
  have hck := fun (u : World) => Check_any R C a (R * C) cap (by omega) u
  rw [checkE_ok hR hC rfl] at hck
  have hco := fun (u : World) (hu : Below w.heap.size w u) => Core_good R C S _ A u hR hC (by omega) (hr.below hu) hA
  have hrk := fun (u : World) (hu : Below w.heap.size w u) => Rank_good R C S _ A u hR hC (by omega) (hr.below hu) hA
  have hpk := fun (r : Nat) (Q P : Nat → Nat) (rv cv : Value) (u : World) (hu : Below w.heap.size w u) (hr64 : r ≤ 64) (hQ : ∀ i, i < r → Q i < R) (hP : ∀ i, i < r → P i < C) (h1 : RdI64 u rv r Q) (h2 : RdI64 u cv r P) =>
    Pick_good R C r r (.slice a (R * C) cap) rv cv P Q A u hR hC hr64 hr64 hQ hP (hr.below hu) h1 h2
  have hdx := fun (r : Nat) (Q P : Nat → Nat) (sl : Value) (u : World) (hr64 : r ≤ 64) (hQ : ∀ i, i < r → Q i < R) (hP : ∀ i, i < r → P i < C) (h1 : RdE u sl (r * r) (fun q => A (Q (q / r) * C + P (q % r)))) => by
    have h := det13_good r S sl _ u hr64 (by omega) h1 (pickA_zb hA hQ hP)
    rw [pick_det] at h
    exact h
  have hzb := fun (r : Nat) (Q P : Nat → Nat) (hr64 : r ≤ 64) (hQ : ∀ i, i < r → Q i < R) (hP : ∀ i, i < r → P i < C) => by
    have h : ZB (r * (S + 1) + 1) (laZ.dt r (fun i j => A (Q i * C + P j))) := dtZ_zb r _ (by omega) fun i j hi hj => hA _ (idx_lt (hQ i hi) (hP j hj) rfl).1
    exact h.mono (show r * (S + 1) + 1 ≤ 64 * (S + 1) + 1 by have := Nat.mul_le_mul_right (S + 1) hr64; omega)
  have hS1 : 64 * (S + 1) + 1 ≤ 274877906944 := by omega
  generalize R * C = K at *
  have HCK := Lib.hid hck
  have HCO := Lib.hid hco
  have HRK := Lib.hid hrk
  have HPK := Lib.hid hpk
  have HDX := Lib.hid hdx
  have HZB := Lib.hid hzb
  have HB := Lib.hid hB
  have HS1 := Lib.hid hS1
  have HW := Lib.hid hsz
  clear hck hco hrk hpk hdx hzb hB hA hr hsz hS1
  go_enter Try.func7, Try.ntmps7
  go_upto_region 1 with fail
  generalize w.alloc (.cells #[.int .i64 R, .int .i64 C, .slice a K cap] 24) = W at *
  go_wp2_with fail
  (refine (HCO.out W HB.out).mono ?_)
  rintro e w1 ⟨r, Q, P, rv, cv, dv, rfl, hpQ, hpP, hfQ, hfP, hf1, hb_w1, hap, hcq, hcp⟩
  have HW1 := Lib.hid hb_w1.size
  have HSW := Lib.hid (show w.heap.size + 1 ≤ W.heap.size by rw [HW.out]; exact Nat.le_refl _)
  have hr64 : r ≤ 64 := by have := hpP.le; omega
  have hDn : laZ.dt r (fun i j => A (Q i * C + P j)) ≠ 0 := hpP.core hpQ
  obtain ⟨D, hD⟩ : ∃ D, D = laZ.dt r (fun i j => A (Q i * C + P j)) := ⟨_, rfl⟩
  rw [← hD] at hf1 hDn
  have HD := Lib.hid hD
  have HDN := Lib.hid hDn
  have HQL := Lib.hid hpQ.lt
  have HPL := Lib.hid hpP.lt
  have HZD := Lib.hid (show ZB (64 * (S + 1) + 1) D by rw [hD]; exact HZB.out r Q P hr64 hpQ.lt hpP.lt)
  have hz1 := hf1.rd HZD.out HS1.out
  obtain ⟨am, an, ac, rfl, -⟩ := hf1.agg
  obtain ⟨ra, rc, rfl⟩ := hfQ.slice
  obtain ⟨ca, cc, rfl⟩ := hfP.slice
  obtain ⟨sg, hsg⟩ : ∃ sg, sg = decide (D < 0) := ⟨_, rfl⟩
  rw [← hsg] at hz1 ⊢
  have HPQ := Lib.hid hpQ
  have HPP := Lib.hid hpP
  have HAP := Lib.hid hap
  have HLQ := Lib.hid hfQ.own_lt
  have HLP := Lib.hid hfP.own_lt
  clear hsg hD
  have ba_w1 := bl_alloc w1 (.cells #[.bool sg, .slice am an ac] 42)
  replace hb_w1 := below_via hb_w1 ba_w1
  obtain ⟨d0, d1, -, -⟩ := two_cells w1 (.bool sg) (.slice am an ac) 42
  have HOQ := Lib.hid (own_below (hfQ.ownL hcq) ba_w1)
  have HOP := Lib.hid (own_below (hfP.ownL hcp) ba_w1)
  have RD := Lib.hid (hz1.below ba_w1)
  have HMN := Lib.hid ba_w1.size
  replace c0 := cell_stays hb_w1 c0
  replace c1 := cell_stays hb_w1 c1
  replace c2 := cell_stays hb_w1 c2
  replace HB := Lib.hid (below_via HB.out hb_w1)
  clear hb_w1 ba_w1 hf1 hz1 hpQ hpP hfQ hfP hap hcq hcp HCO hDn
  go_upto_region 2 with fail
  generalize hq_w1 : w1.heap.size = q_w1 at *
  generalize w1.alloc (.cells #[.bool sg, .slice am an ac] 42) = v_w1 at *
  clear hq_w1
  go_wp2_with fail
  (refine (HRK.out v_w1 HB.out).mono ?_)
  rintro e w2 ⟨r', P', rfl, hp', hb_w2⟩
  obtain ⟨rfl, -⟩ := HPP.out.unique hp'
  replace HMN := Lib.hid (Nat.le_trans HMN.out hb_w2.size)
  replace HOQ := Lib.hid (own_below HOQ.out hb_w2)
  replace HOP := Lib.hid (own_below HOP.out hb_w2)
  replace c0 := cell_stays hb_w2 c0
  replace c1 := cell_stays hb_w2 c1
  replace c2 := cell_stays hb_w2 c2
  replace d0 := cell_stays hb_w2 d0
  replace d1 := cell_stays hb_w2 d1
  replace RD := Lib.hid (RD.out.below hb_w2)
  replace HB := Lib.hid (below_via HB.out hb_w2)
  clear hb_w2 hp' HRK
  go_wp2_with fail
  (refine (awake_any w2).mono ?_)
  rintro e w3 ⟨rfl, hb_w3⟩
  replace HMN := Lib.hid (Nat.le_trans HMN.out hb_w3.size)
  replace HOQ := Lib.hid (own_below HOQ.out hb_w3)
  replace HOP := Lib.hid (own_below HOP.out hb_w3)
  replace c0 := cell_stays hb_w3 c0
  replace c1 := cell_stays hb_w3 c1
  replace c2 := cell_stays hb_w3 c2
  replace d0 := cell_stays hb_w3 d0
  replace d1 := cell_stays hb_w3 d1
  replace RD := Lib.hid (RD.out.below hb_w3)
  replace HB := Lib.hid (below_via HB.out hb_w3)
  clear hb_w3
  go_wp2_with fail
  (refine (HCK.out w3).mono ?_)
  rintro e w4 ⟨rfl, hb_w4⟩
  replace HMN := Lib.hid (Nat.le_trans HMN.out hb_w4.size)
  replace HOQ := Lib.hid (own_below HOQ.out hb_w4)
  replace HOP := Lib.hid (own_below HOP.out hb_w4)
  replace c0 := cell_stays hb_w4 c0
  replace c1 := cell_stays hb_w4 c1
  replace c2 := cell_stays hb_w4 c2
  replace d0 := cell_stays hb_w4 d0
  replace d1 := cell_stays hb_w4 d1
  replace RD := Lib.hid (RD.out.below hb_w4)
  replace HB := Lib.hid (below_via HB.out hb_w4)
  clear hb_w4 HCK
  have HRI := Lib.hid (fun u (hu : Below w4.heap.size w4 u) => rising_yes (.slice ra r rc) r R Q u hr64 hR (own_fr (k := .i64) (f := fun i => (Q i : Int)) (own_below HOQ.out hu) (by omega)).read HPQ.out.mono HQL.out)
  have HRJ := Lib.hid (fun u (hu : Below w4.heap.size w4 u) => rising_yes (.slice ca r cc) r C P u hr64 hC (own_fr (k := .i64) (f := fun i => (P i : Int)) (own_below HOP.out hu) (by omega)).read HPP.out.mono HPL.out)
  go_wp2_with fail
  (refine (HRI.out w4 (bl_refl _)).mono ?_)
  rintro e w5 ⟨rfl, rfl⟩
  go_wp2_with fail
  (refine (HRJ.out w4 (bl_refl _)).mono ?_)
  rintro e w6 ⟨rfl, rfl⟩
  clear HRI HRJ
  have hrr : r * r ≤ 1048576 := Nat.le_trans (Nat.mul_le_mul hr64 hr64) (by decide)
  go_wp2_with fail
  (refine (HPK.out r Q P _ _ w4 HB.out hr64 HQL.out HPL.out (own_fr (k := .i64) (f := fun i => (Q i : Int)) HOQ.out (by omega)).read (own_fr (k := .i64) (f := fun i => (P i : Int)) HOP.out (by omega)).read).mono ?_)
  rintro e w7 ⟨lb, rfl, hf3, hb_w7⟩
  have ba_w7 := bl_alloc w7 (.cells #[.int .i64 r, .int .i64 r, .slice (some ⟨lb, 0, none⟩) (r * r) (r * r)] 24)
  replace hb_w7 := below_via hb_w7 ba_w7
  have bk_w7 := three_cells w7 (.int .i64 r) (.int .i64 r) (.slice (some ⟨lb, 0, none⟩) (r * r) (r * r)) 24
  have e0 := (bk_w7 0 _ rfl).1
  have e1 := (bk_w7 1 _ rfl).1
  have e2 := (bk_w7 2 _ rfl).1
  have HDY := Lib.hid (HDX.out r Q P _ _ hr64 HQL.out HPL.out ((hf3.rd (Nat.le_refl _) hrr).below ba_w7))
  replace HMN := Lib.hid (Nat.le_trans HMN.out hb_w7.size)
  replace HOQ := Lib.hid (own_below HOQ.out hb_w7)
  replace HOP := Lib.hid (own_below HOP.out hb_w7)
  replace c0 := cell_stays hb_w7 c0
  replace c1 := cell_stays hb_w7 c1
  replace c2 := cell_stays hb_w7 c2
  replace d0 := cell_stays hb_w7 d0
  replace d1 := cell_stays hb_w7 d1
  replace RD := Lib.hid (RD.out.below hb_w7)
  replace HB := Lib.hid (below_via HB.out hb_w7)
  clear hb_w7 ba_w7 bk_w7 hf3 hrr
  go_upto_region 10 with fail
  generalize hq_w7 : w7.heap.size = q_w7 at *
  generalize w7.alloc (.cells #[.int .i64 r, .int .i64 r, .slice (some ⟨lb, 0, none⟩) (r * r) (r * r)] 24) = v_w7 at *
  clear hq_w7
  go_wp2_with fail
  (refine (HDY.out).mono ?_)
  rintro e w8 ⟨xv, rfl, hf8, hb_w8⟩
  have hq8 := Nat.le_trans HMN.out hb_w8.size
  rw [← HD.out] at hf8
  have hz8 := hf8.rd HZD.out HS1.out
  obtain ⟨am8, an8, ac8, rfl, -⟩ := hf8.agg
  obtain ⟨sg8, hsg8⟩ : ∃ sg, sg = decide (D < 0) := ⟨_, rfl⟩
  rw [← hsg8]
  rw [← hsg8] at hz8
  clear hsg8
  have ba_w8 := bl_alloc w8 (.cells #[.bool sg8, .slice am8 an8 ac8] 42)
  replace hb_w8 := below_via hb_w8 ba_w8
  obtain ⟨x0, x1, -, -⟩ := two_cells w8 (.bool sg8) (.slice am8 an8 ac8) 42
  obtain ⟨-, -, y0, y1⟩ := two_cells w8 (.bool sg8) (.slice am8 an8 ac8) 42
  have RX := Lib.hid (hz8.below ba_w8)
  replace HMN := Lib.hid (Nat.le_trans HMN.out hb_w8.size)
  replace HOQ := Lib.hid (own_below HOQ.out hb_w8)
  replace HOP := Lib.hid (own_below HOP.out hb_w8)
  replace c0 := cell_stays hb_w8 c0
  replace c1 := cell_stays hb_w8 c1
  replace c2 := cell_stays hb_w8 c2
  replace d0 := cell_stays hb_w8 d0
  replace d1 := cell_stays hb_w8 d1
  replace RD := Lib.hid (RD.out.below hb_w8)
  replace HB := Lib.hid (below_via HB.out hb_w8)
  clear hb_w8 ba_w8 hf8 hz8 HDY
  clear e0 e1 e2
  go_upto_region 11 with fail
  generalize hq_w8 : w8.heap.size = q_w8 at *
  generalize w8.alloc (.cells #[.bool sg8, .slice am8 an8 ac8] 42) = v_w8 at *
  clear hq_w8
  go_wp2_with fail
  (refine (zCmp_same _ _ D v_w8 RX.out RD.out).mono ?_)
  rintro e w9 ⟨rfl, hb_w9⟩
  replace HMN := Lib.hid (Nat.le_trans HMN.out hb_w9.size)
  replace HOQ := Lib.hid (own_below HOQ.out hb_w9)
  replace HOP := Lib.hid (own_below HOP.out hb_w9)
  replace y0 := froz_stays hb_w9 x0 y0
  replace y1 := froz_stays hb_w9 x1 y1
  replace c0 := cell_stays hb_w9 c0
  replace c1 := cell_stays hb_w9 c1
  replace c2 := cell_stays hb_w9 c2
  replace d0 := cell_stays hb_w9 d0
  replace d1 := cell_stays hb_w9 d1
  replace x0 := cell_stays hb_w9 x0
  replace x1 := cell_stays hb_w9 x1
  replace RD := Lib.hid (RD.out.below hb_w9)
  replace RX := Lib.hid (RX.out.below hb_w9)
  replace HB := Lib.hid (below_via HB.out hb_w9)
  clear hb_w9
  have hsg9 := zSign_any _ D w9 RD.out
  obtain ⟨zz, hzz⟩ : ∃ zz, zz = sgZ D := ⟨_, rfl⟩
  have hz0 : (zz == 0) = false := by rw [beq_eq_false_iff_ne, hzz]; exact fun e => HDN.out ((sgZ_eq0 D).1 e)
  rw [← hzz] at hsg9
  have HSG := Lib.hid hsg9
  clear hsg9 hzz
  go_wp2_with fail
  (refine (HSG.out).mono ?_)
  rintro e w10 ⟨rfl, hb_w10⟩
  replace HMN := Lib.hid (Nat.le_trans HMN.out hb_w10.size)
  replace HOQ := Lib.hid (own_below HOQ.out hb_w10)
  replace HOP := Lib.hid (own_below HOP.out hb_w10)
  replace y0 := froz_stays hb_w10 x0 y0
  replace y1 := froz_stays hb_w10 x1 y1
  replace c0 := cell_stays hb_w10 c0
  replace c1 := cell_stays hb_w10 c1
  replace c2 := cell_stays hb_w10 c2
  replace d0 := cell_stays hb_w10 d0
  replace d1 := cell_stays hb_w10 d1
  replace x0 := cell_stays hb_w10 x0
  replace x1 := cell_stays hb_w10 x1
  replace RD := Lib.hid (RD.out.below hb_w10)
  replace RX := Lib.hid (RX.out.below hb_w10)
  replace HB := Lib.hid (below_via HB.out hb_w10)
  clear hb_w10 HSG
  go_upto_region 13 with fail
  clear hz0 RD RX HDN HZD d0 d1
  go_cut [17, 18, 19, 20, 21, 22, 23, 24, 25, 26, 27, 28, 29, 30, 31, 32, 33, 34, 35, 36, 37, 38, 39, 40, 41, 42, 43, 44, 45, 46, 47, 48, 49, 50, 51, 52, 53, 54, 55, 56, 57, 58, 59, 60, 61, 62, 63, 64, 65, 66, 67, 68, 69, 70, 71, 72, 73, 74, 75, 76, 77, 78, 79, 80, 81, 82, 83, 84, 85, 86, 87, 88, 89, 90, 91, 92, 93, 94, 95, 96, 97, 98, 99, 100, 101, 102, 103, 104, 105, 106, 107, 108, 109, 110, 111, 112, 113, 114, 115, 116, 117, 118, 119, 120, 121, 122, 123, 124, 125, 126, 127, 128, 129, 130, 131, 132, 133, 134, 135, 136, 137, 138, 139, 140, 141] (fun s17 s18 s19 s20 s21 s22 s23 s24 s25 s26 s27 s28 s29 s30 s31 s32 s33 s34 s35 s36 s37 s38 s39 s40 s41 s42 s43 s44 s45 s46 s47 s48 s49 s50 s51 s52 s53 s54 s55 s56 s57 s58 s59 s60 s61 s62 s63 s64 s65 s66 s67 s68 s69 s70 s71 s72 s73 s74 s75 s76 s77 s78 s79 s80 s81 s82 s83 s84 s85 s86 s87 s88 s89 s90 s91 s92 s93 s94 s95 s96 s97 s98 s99 s100 s101 s102 s103 s104 s105 s106 s107 s108 s109 s110 s111 s112 s113 s114 s115 s116 s117 s118 s119 s120 s121 s122 s123 s124 s125 s126 s127 s128 s129 s130 s131 s132 s133 s134 s135 s136 s137 s138 s139 s140 v wx => (∃ b : Bool, v = .bool b ∧ (b = false → 0 ≤ row ∧ row < (R : Int) ∧ 0 ≤ col ∧ col < (C : Int) ∧ r < 64)) ∧ wx = w10)
  case first =>
    by_cases h0 : row < 0
    · go_wp2_with fail
      go_meet
      exact ⟨⟨_, rfl, fun h => by simp at h⟩, rfl⟩
    by_cases h1 : (R : Int) ≤ row
    · go_wp2_with fail
      go_meet
      exact ⟨⟨_, rfl, fun h => by simp at h⟩, rfl⟩
    by_cases h2 : col < 0
    · go_wp2_with fail
      go_meet
      exact ⟨⟨_, rfl, fun h => by simp at h⟩, rfl⟩
    by_cases h3 : (C : Int) ≤ col
    · go_wp2_with fail
      go_meet
      exact ⟨⟨_, rfl, fun h => by simp at h⟩, rfl⟩
    by_cases h4 : 64 ≤ r
    · have h4' : (64 : Int) ≤ (r : Int) := by omega
      go_wp2_with fail
      go_meet
      exact ⟨⟨_, rfl, fun h => by simp at h⟩, rfl⟩
    · have h4' : ¬ (64 : Int) ≤ (r : Int) := by omega
      go_wp2_with fail
      go_meet
      exact ⟨⟨_, rfl, fun _ => by omega⟩, rfl⟩
  case rest =>
  obtain ⟨⟨b, rfl, hb⟩, hw⟩ := hcut
  obtain rfl := hw.symm
  have HBB := Lib.hid hb
  clear hb hw
  cases b
  case true =>
    go_wp2_with fail
    go_ret
    exact ⟨rfl, HB.out⟩
  case false =>
  obtain ⟨h0, h1, h2, h3, h4⟩ := HBB.out rfl
  obtain ⟨rw', rfl⟩ := Int.eq_ofNat_of_zero_le h0
  obtain ⟨cl', rfl⟩ := Int.eq_ofNat_of_zero_le h2
  have hr1 : r + 1 ≤ 64 := by omega
  have hQ1 : ∀ i, i < r + 1 → (if i = r then rw' else Q i) < R := fun i hi => by
    by_cases e : i = r
    · rw [if_pos e]; omega
    · rw [if_neg e]; exact HQL.out i (by omega)
  have hP1 : ∀ i, i < r + 1 → (if i = r then cl' else P i) < C := fun i hi => by
    by_cases e : i = r
    · rw [if_pos e]; omega
    · rw [if_neg e]; exact HPL.out i (by omega)
  have hdz : laZ.dt (r + 1) (fun i j => A ((if i = r then rw' else Q i) * C + (if j = r then cl' else P j))) = 0 := HPP.out.more (show r < r + 1 by omega) (Q' := fun i => if i = r then rw' else Q i) (P' := fun j => if j = r then cl' else P j) hQ1 hP1
  have hdy := fun (sl : Value) (u : World) (h1 : RdE u sl ((r + 1) * (r + 1)) (fun q => A ((if q / (r + 1) = r then rw' else Q (q / (r + 1))) * C + (if q % (r + 1) = r then cl' else P (q % (r + 1)))))) => HDX.out (r + 1) (fun i => if i = r then rw' else Q i) (fun j => if j = r then cl' else P j) sl u hr1 hQ1 hP1 h1
  rw [hdz] at hdy
  have HDY := Lib.hid hdy
  have HQ1' := Lib.hid hQ1
  have HP1' := Lib.hid hP1
  have hrr : (r + 1) * (r + 1) ≤ 1048576 := Nat.le_trans (Nat.mul_le_mul hr1 hr1) (by decide)
  have HRR := Lib.hid hrr
  have TW0 := Lib.hid (Two.start HOQ.out HOP.out HAP.out)
  have hbw : W.heap.size ≤ w10.heap.size := by rw [HW.out]; exact World.block_lt_of_cell? _ _ c0
  have HBW := Lib.hid hbw
  clear hdz hdy hQ1 hP1 hrr h0 h1 h2 h3 HBB HDX HD HPQ HPP
  have hn1 : (Value.slice ra r rc).ownBlock ≠ some q_w8 := own_ne HLQ.out hq8
  have hn2 : (Value.slice ca r cc).ownBlock ≠ some q_w8 := own_ne HLP.out hq8
  have hK4 := Lib.hid (show K4 w10 q_w8 (.bool sg8) (.slice am8 an8 ac8) from ⟨⟨x0, x1⟩, y0, y1⟩)
  have HN12 := Lib.hid (And.intro hn1 hn2)
  have hm1 : ∀ b, (Value.slice ra r rc).ownBlock = some b → b ≠ w.heap.size := fun b hb e => by have := TW0.out.lo1 b hb; have := HSW.out; omega
  have hm2 : ∀ b, (Value.slice ca r cc).ownBlock = some b → b ≠ w.heap.size := fun b hb e => by have := TW0.out.lo2 b hb; have := HSW.out; omega
  have HKC := Lib.hid (fun (u : World) (v1 v2 : Value) (n1 n2 : Nat) (f1 f2 : Nat → Nat) (zb : Option Nat) (h : Two w10 u W.heap.size (.slice ra r rc) (.slice ca r cc) v1 v2 n1 n2 f1 f2 zb) =>
    (show u.cell? ⟨w.heap.size, 0, none⟩ = some (.int .i64 R) ∧ u.cell? ⟨w.heap.size, 1, none⟩ = some (.int .i64 C) ∧ u.cell? ⟨w.heap.size, 2, none⟩ = some (.slice a K cap) from
      ⟨h.cell (fun e => hm1 _ e rfl) (fun e => hm2 _ e rfl) c0, h.cell (fun e => hm1 _ e rfl) (fun e => hm2 _ e rfl) c1, h.cell (fun e => hm1 _ e rfl) (fun e => hm2 _ e rfl) c2⟩))
  have hw10 : w.heap.size < w10.heap.size := World.block_lt_of_cell? _ _ c0
  have hw8 : q_w8 < w10.heap.size := World.block_lt_of_cell? _ _ x0
  have hqw : w.heap.size ≤ q_w8 := by have := HW1.out; have := HSW.out; omega
  clear hm1 hm2 hn1 hn2 hq8 HLQ HLP x0 x1 y0 y1
  go_upto_region 15 with fail
  go_cut [16, 10] (fun v16 v10 wx => ∃ q, v16 = .pointer (some ⟨q, 0, none⟩) ∧ v10 = .int .i64 0 ∧ BoxE w wx q (r + 1) (r + 1) ((r + 1) * (r + 1)) (fun q => A ((if q / (r + 1) = r then rw' else Q (q / (r + 1))) * C + (if q % (r + 1) = r then cl' else P (q % (r + 1))))) ∧ K4 wx q_w8 (.bool sg8) (.slice am8 an8 ac8))
  case first => as_aux_lemma =>
    go_region_held3 (fun w' => w'.cell? ⟨w.heap.size, 0, none⟩ = some (.int .i64 R) ∧ w'.cell? ⟨w.heap.size, 1, none⟩ = some (.int .i64 C) ∧ w'.cell? ⟨w.heap.size, 2, none⟩ = some (.slice a K cap))
      (first
        | with_reducible exact ⟨c0, c1, c2⟩
        | with_reducible exact HKC.out _ _ _ _ _ _ _ _ TW3.out
        | with_reducible exact HKC.out _ _ _ _ _ _ _ _ (Two.alloc TW3.out _)
        | with_reducible exact HKC.out _ _ _ _ _ _ _ _ (Two.drew TW3.out)
        | with_reducible exact far3 (by omega) (HKC.out _ _ _ _ _ _ _ _ TW3.out)
        | (refine HKC.out _ ?_ ?_ ?_ ?_ ?_ ?_ ?_ ?_; rotate_left 7; (repeat (first | with_reducible exact TW1.out | with_reducible exact TW2.out | with_reducible exact TW0.out | with_reducible refine Two.boxed ?_ | with_reducible refine Two.drew ?_ | with_reducible refine Two.alloc ?_ _)))
        | go_keep)
      (first
        | (go_at_call 18
           first
             | (have tw2 := TW1.out; (with_reducible refine (HPK.out (r + 1) (fun i => if i = r then rw' else Q i) (fun j => if j = r then cl' else P j) _ _ _ (tw2.bel HB.out (by have := HSW.out; omega)) hr1 HQ1'.out HP1'.out (tw2.rd1 hr1) (tw2.rd2 hr1)).mono ?_))
             | (have tw2 := TW2.out; (with_reducible refine (HPK.out (r + 1) (fun i => if i = r then rw' else Q i) (fun j => if j = r then cl' else P j) _ _ _ (tw2.bel HB.out (by have := HSW.out; omega)) hr1 HQ1'.out HP1'.out (tw2.rd1 hr1) (tw2.rd2 hr1)).mono ?_))
             | (have tw2 := Two.boxed TW1.out; (with_reducible refine (HPK.out (r + 1) (fun i => if i = r then rw' else Q i) (fun j => if j = r then cl' else P j) _ _ _ (tw2.bel HB.out (by have := HSW.out; omega)) hr1 HQ1'.out HP1'.out (tw2.rd1 hr1) (tw2.rd2 hr1)).mono ?_))
             | (have tw2 := Two.boxed TW2.out; (with_reducible refine (HPK.out (r + 1) (fun i => if i = r then rw' else Q i) (fun j => if j = r then cl' else P j) _ _ _ (tw2.bel HB.out (by have := HSW.out; omega)) hr1 HQ1'.out HP1'.out (tw2.rd1 hr1) (tw2.rd2 hr1)).mono ?_))
           rintro e w20 ⟨lb, rfl, hf, hb⟩
           have tw3 := tw2.below hb
           have TW3 := Lib.hid tw3
           have F20 := Lib.hid hf
           have B20 := Lib.hid (tw3.bel HB.out (by have := HSW.out; omega))
           have K20 := Lib.hid (tw3.k4 HN12.out.1 HN12.out.2 hK4.out)
           first
             | (have zl := Nat.lt_of_lt_of_le (tw2.box _ rfl).2.1 hf.own
                obtain ⟨zs, -, -, -, ⟨z0, z1, z2⟩, zf0, zf1, zf2⟩ := tw3.box _ rfl
                try simp only [World.size_alloc] at zl zs z0 z1 z2 zf0 zf1 zf2)
             | skip
           clear tw2 tw3 hf hb)
        | (refine step_two1 (w0 := w10) (base := W.heap.size) (x1 := .slice ra r rc) (x2 := .slice ca r cc) (v2 := ?_) (n1 := r) (n2 := ?_) (f1 := Q) (f2 := ?_) (zb := ?_) (val := rw') rfl (.tmp 144) (.tmp 146) rfl ?_ rfl _ rfl ?_ (by omega) HBW.out ?_
           rotate_left 4
           · (repeat (first | with_reducible exact TW1.out | with_reducible exact TW2.out | with_reducible exact TW0.out | with_reducible refine Two.boxed ?_ | with_reducible refine Two.drew ?_ | with_reducible refine Two.alloc ?_ _))
           · first | with_reducible exact KP2.out _ _ _ (by omega) (by go_simp) | with_reducible exact cell_alloc (KP2.out _ _ _ (by omega) (by go_simp)) _ | go_simp
           intro g1 cap1 u1 tw kp
           have TW1 := Lib.hid tw
           have KP1 := Lib.hid kp
           clear tw kp)
        | (refine step_two2 (w0 := w10) (base := W.heap.size) (x1 := .slice ra r rc) (x2 := .slice ca r cc) (v1 := ?_) (n2 := r) (n1 := ?_) (f2 := P) (f1 := ?_) (zb := ?_) (val := cl') rfl (.tmp 148) (.tmp 150) rfl ?_ rfl _ rfl ?_ (by omega) HBW.out ?_
           rotate_left 4
           · (repeat (first | with_reducible exact TW1.out | with_reducible exact TW2.out | with_reducible exact TW0.out | with_reducible refine Two.boxed ?_ | with_reducible refine Two.drew ?_ | with_reducible refine Two.alloc ?_ _))
           · first | with_reducible exact KP1.out _ _ _ (by omega) (by go_simp) | with_reducible exact cell_alloc (KP1.out _ _ _ (by omega) (by go_simp)) _ | go_simp
           intro g2 cap2 u2 tw kp
           have TW2 := Lib.hid tw
           have KP2 := Lib.hid kp
           clear tw kp))
    all_goals
      go_wp2_with fail
      go_meet
      first
        | exact ⟨_, rfl, rfl, boxE_new F20.out HRR.out B20.out _ _, K20.out.below (bl_alloc _ _)⟩
        | exact ⟨_, rfl, rfl, boxE_old F20.out HRR.out B20.out _ _ (by have := HB.out.size; omega) zl ⟨⟨z0, z1, z2⟩, ⟨zf0, zf1, zf2⟩, World.block_lt_of_cell? _ _ z0⟩, K20.out.far (by omega)⟩
  case rest =>
  obtain ⟨q, rfl, rfl, hbx, hk⟩ := hcut
  obtain ⟨w16, hw⟩ : ∃ x, x = wc := ⟨_, rfl⟩
  subst hw
  obtain ⟨hb16, lb, ⟨e0, e1, e2⟩, hre⟩ := hbx
  obtain ⟨⟨x0, x1⟩, y0, y1⟩ := hk
  have HB16 := Lib.hid hb16
  have HDE := Lib.hid (HDY.out _ _ hre)
  have hq16 : q_w8 < w16.heap.size := World.block_lt_of_cell? _ _ x0
  clear hb16 hre HKC hK4 HN12 TW0 HOQ HOP HAP HPK HDY HZB HRR HQ1' HP1' hbw HBW HB c0 c1 c2 hw8 hw10 HQL HPL HMN
  go_wp2_with fail
  (refine HDE.out.mono ?_)
  rintro e w17 ⟨xv, rfl, hf, hb17⟩
  obtain ⟨am, an, ac, rfl, -⟩ := hf.agg
  rw [show decide ((0 : Int) < 0) = false from rfl] at hf ⊢
  replace y0 := froz_stays hb17 x0 y0
  replace y1 := froz_stays hb17 x1 y1
  replace x0 := cell_stays hb17 x0
  replace x1 := cell_stays hb17 x1
  have g5 := stored2_gb w17 q_w8 (.bool false) (.slice am an ac)
  have hz : RdZ ((w17.setCell ⟨q_w8, 0, none⟩ (.bool false)).setCell ⟨q_w8, 1, none⟩ (.slice am an ac)) (.agg #[.bool false, .slice am an ac]) 0 := (hf.far g5 hq16).rd (S := 1) (by unfold ZB; decide) (by omega)
  have hbf : Below w.heap.size w ((w17.setCell ⟨q_w8, 0, none⟩ (.bool false)).setCell ⟨q_w8, 1, none⟩ (.slice am an ac)) := (below_via HB16.out hb17).grown g5 (below_via HB16.out hb17).size (fun k hk => by injection hk with hk; omega)
  have HSG := Lib.hid (zSign_any _ 0 _ hz)
  rw [sgZ_zero] at HSG
  have HBF := Lib.hid hbf
  obtain ⟨m0, m1⟩ := two_own (x0 := .bool false) (x1 := .slice am an ac) x0 x1
  unfold stored2 at m0 m1
  clear hz hbf g5 hf hb17 HDE HB16 e0 e1 e2
  go_wp2_with fail
  (refine HSG.out.mono ?_)
  rintro e w18 ⟨rfl, hb18⟩
  have HFF := Lib.hid (below_via HBF.out hb18)
  clear hb18 HSG HBF
  go_wp2_with fail
  go_ret
  exact ⟨rfl, HFF.out⟩

/-- the law, for any arguments -/
theorem Cores_law (r c row col : Int) (s : Value) (n : Nat) (x : Nat → Raw) (w : World) (hr : RdL w s n x) (hx : ∀ i, i < n → (x i).n ≤ 1048576) :
    Calls Try.prog 7 #[.agg #[.int .i64 r, .int .i64 c, s], .int .i64 row, .int .i64 col] w fun e w' => e = .returned (.bool true) ∧ Below w.heap.size w w' := by
  obtain ⟨a, cap, rfl, hcap, hn, -⟩ := id hr
  rcases check_cases r c n with h | ⟨R, C, rfl, rfl, hR, hC, rfl⟩
  · exact Cores_bad r c row col a n cap (by omega) h w
  · have hK4 : R * C ≤ 4096 := Nat.mul_le_mul hR hC
    exact Cores_good R C row col _ (fun i => (x i).val) 1048576 w hR hC (by omega) (hr.rde (by omega) (fun i hi => by have := hx i hi; omega)) (hr.zbs hx)
end Go.Proofs.Ytncldpadakckjaa

namespace Go.Proofs.Ytncldpadakckjaa.bareissCores
open Go.ChangeShapes Go.WideShapes Go.ChangeAt Go.RowKit

theorem own : ownKnob Try.prog.godebug = none := by kernel_rfl

set_option maxRecDepth 100000 in
theorem contract (H : Type) (enc : TypeId × Value → H) (W : World) (base : Nat) (args : Array Value) (ds gs : List (DataW H)) (before : List MemPlace)
    (hval : ∀ (j : Nat) t v, Try.f7.params[j]? = some t → args[j]? = some v → Value.okWide Try.prog W .any base t v)
    (hW : DataW.Whole enc Try.prog Try.f7.params.toList Rows.bareissCoresSpec.vars false W args.toList ds gs before) (hk : Rows.uptoSmall H (ds ++ gs) = true) :
    Calls Try.prog 7 args W fun e W' => ∃ v, e = .returned v ∧ Rows.bareissCoresSpec.post enc Try.prog Try.f7 false true false false W args v W' := by
  have hW' := hW
  have hlt : ∀ x ∈ before, x.block < W.heap.size := fun x hx => hW.lt x hx
  obtain ⟨p, q, hA0, hV, rfl, hfz, hnd⟩ := hW
  have hA : DataW.TrodAll enc Try.prog W 0 (fun _ => true) true Try.f7.params.toList args.toList ds p := hA0
  rw [Try.params7] at hA hval
  obtain ⟨v0, vs0, d0, ds0, p0, q0, hargs, rfl, rfl, h0, r0⟩ := trodAll_cons hA
  obtain ⟨v1, vs1, d1, ds1, p1, q1, rfl, rfl, rfl, h1, r1⟩ := trodAll_cons r0
  obtain ⟨v2, vs2, d2, ds2, p2, q2, rfl, rfl, rfl, h2, r2⟩ := trodAll_cons r1
  obtain ⟨rfl, rfl, rfl⟩ := trodAll_nil r2
  obtain rfl : args = #[v0, v1, v2] := by cases args; simp_all
  obtain ⟨rfl, rfl⟩ := trodVars_none hV
  have h0k := h0
  obtain ⟨k1, rfl, rfl, rfl, wk1⟩ := open_int Try.underlying3 (hval 1 3 v1 rfl rfl) h1
  obtain ⟨k2, rfl, rfl, rfl, wk2⟩ := open_int Try.underlying3 (hval 2 3 v2 rfl rfl) h2
  clear hA0
  simp only [List.append_nil] at hW' hk hlt
  have hbk : Rows.uptoBulkAll [d0, DataW.lit (.int .i64 k1), DataW.lit (.int .i64 k2)] ≤ 1048576 := of_decide_eq_true hk
  simp only [Rows.uptoBulkAll] at hbk
  obtain ⟨R0, C0, s0, n0, x0, rfl, hr0, hn0, hx0, -, -⟩ := open_mat (B := 1048576) (hval 0 24 v0 rfl rfl) h0 (by omega) (by omega)
  have bk1 : -9223372036854775808 ≤ k1 ∧ k1 ≤ 9223372036854775807 := by simp [Lit.wf, IntKind.min, IntKind.max, IntKind.signed, IntKind.bits] at wk1; omega
  have bk2 : -9223372036854775808 ≤ k2 ∧ k2 ≤ 9223372036854775807 := by simp [Lit.wf, IntKind.min, IntKind.max, IntKind.signed, IntKind.bits] at wk2; omega
  refine (Cores_law R0 C0 k1 k2 s0 n0 x0 W hr0 hx0).mono fun e W' ⟨he, hg⟩ => ?_
  subst he
  refine ⟨_, rfl, post_of_below (pa := (p0 ++ ([] ++ ([] ++ [])))) (pv := []) hW' (fun _ _ _ => (trodAll_cons_mk (shut_bool Try.underlying4 _) trodAll_mk0)) (fun sp hsp => (trodAll_cons_mk (WideElems.Trod_stays (P := Try.prog) (by kernel_rfl) (by kernel_rfl) (of_decide_eq_true (by kernel_rfl)) h0k (fun x hx => hg.same (hlt x (by simp [hx]))) (fun x hx => hsp x (by simp [hx]))) (trodAll_cons_mk (shut_int Try.underlying3 wk1) (trodAll_cons_mk (shut_int Try.underlying3 wk2) trodAll_mk0)))) (fun _ _ => rfl) (by simp)
    hg (ok_one (by kernel_rfl) rfl (okWide_bool_mk Try.underlying4 _))⟩

set_option maxRecDepth 100000 in
theorem lifted (os : Os) (started : os.Started) (H : Type) (enc : TypeId × Value → H) (F : Stop.Interp) :
    ReturnsInHanded {} Try.checked os 7 .any ((Rows.OpenSpec.upto Rows.bareissCoresSpec).pre6 enc Try.prog Try.f7 Rows.bareissCoresUptoRow.domain false) (((Rows.OpenSpec.upto Rows.bareissCoresSpec).at F).post enc Try.prog Try.f7 false true false false) := by
  refine returnsInHanded_of_cond (C := Try.checked) (s := Rows.OpenSpec.upto Rows.bareissCoresSpec) (k := Rows.uptoSmall) rfl own started (by kernel_rfl) Try.func7
    (OpenSpec.witness (enc := enc) (C := Try.checked) (s := Rows.OpenSpec.upto Rows.bareissCoresSpec) (k := Rows.uptoSmall) rfl false ⟨#[], #[.agg #[.int .i64 0, .int .i64 0, .slice none 0 0], .int .i64 0, .int .i64 0], []⟩ 8 (by kernel_rfl) (by kernel_rfl) (by kernel_rfl)
      (x := ([.agg [.lit (.int .i64 0), .lit (.int .i64 0), .nil], .lit (.int .i64 0), .lit (.int .i64 0)], [], [])) (by kernel_rfl) rfl (by kernel_rfl)) ?_
  intro W base args ds gs before hval hW _ hk _
  exact contract H enc W base args ds gs before hval hW hk

/-- the statement -/
theorem proved : Rows.BareissCoresUptoSaid :=
  OpenClaim.holds_of_cond 7 Try.f7 rfl rfl rfl rfl rfl rfl rfl ⟨rfl, rfl, rfl, rfl, rfl⟩ rfl rfl rfl rfl rfl (by kernel_rfl) Try.func7 (by kernel_rfl)
    (of_decide_eq_true (by kernel_rfl)) (by unfold Func.isWrapper; first | (rw [if_pos (by decide +kernel)]; kernel_rfl) | (rw [if_neg (by decide +kernel)]; exact ⟨rfl, rfl⟩))
    (fun os started H enc _ F => lifted os started H enc F)
#print axioms proved
end Go.Proofs.Ytncldpadakckjaa.bareissCores
