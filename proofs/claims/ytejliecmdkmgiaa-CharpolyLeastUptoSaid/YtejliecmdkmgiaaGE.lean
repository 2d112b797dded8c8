/- The walks of the closures of mat: Turn$1, Pick$1, product$1. The walks of mat.Turn and mat.Pick where the matrix is sound; Turn where it is not. The walks of mat.Turn where the matrix is not sound, mat.Pick, mat.Least where it is. The walk of mat.Pick where the matrix is sound and all places lie in it. A range over a function whose iterator lays a new list for each round: the round is told what the list holds. The walks of mat.Lines and of the iterator that it answers. The walk of the iterator of mat.Lines, for rounds that know their row. The state while bareiss.of fills its rows. A region that draws its order, in a round of a range over a function: by the walk of the plain region. A field of bareiss in memory: its rows, each in a block of its own, and its other cells. The walk of bareiss.of. -/
import Derived.Test.YtejliecmdkmgiaaGD
import Derived.RangeFuncNested
import Derived.RangeFuncBound
import Derived.RangeFuncCalls
import Derived.RangeFuncLeaves
import Derived.Shelf.Abstract
import Derived.Shelf.RegionOpen
import Derived.WalkKit
import Derived.OwnWalkIn
import Derived.TacticsInMore
import Derived.LoopNIn
import Derived.LoopIn
import Derived.OrdersHeld
import Derived.Deep.AppendLies
set_option linter.unusedVariables false
set_option linter.unusedSimpArgs false
namespace Go.Proofs.Ytejliecmdkmgiaa
open Go.RowKit

theorem RdZ.agg {w : World} {s : Bool} {m : Value} {z : Int} (h : RdZ w (.agg #[.bool s, m]) z) : ∃ a n c, m = .slice a n c := by
  obtain ⟨s', am, n', c, f, e, -⟩ := h.parts
  simp at e
  exact ⟨am, n', c, e.2⟩
theorem RdE.slice {w : World} {v : Value} {n : Nat} {E : Nat → Int} (h : RdE w v n E) : ∃ a cap, v = .slice a n cap ∧ n ≤ cap := by
  obtain ⟨a, cap, e, h1, -⟩ := h
  exact ⟨a, cap, e, h1⟩
theorem idx_lt {R C i j q : Nat} (hi : i < R) (hj : j < C) (hq : q = i * C + j) : q < R * C ∧ (i : Int) * C + j = (q : Int) := by
  have := Nat.mul_le_mul_right C (show i + 1 ≤ R by omega)
  rw [Nat.add_mul, Nat.one_mul] at this
  exact ⟨by omega, by rw [hq]; simp⟩

/-- a list of ints, read -/
def RdI64 (w : World) (v : Value) (n : Nat) (f : Nat → Nat) : Prop := RdA .i64 w v n (fun i => (f i : Int))

end Go.Proofs.Ytejliecmdkmgiaa

namespace Go.Proofs.Ytejliecmdkmgiaa
open Go.RowKit

/-- what is stored in a box of three cells -/
def stored3 (w3 : World) (b : Nat) (u v x : Value) : World := ((w3.setCell ⟨b, 0, none⟩ u).setCell ⟨b, 1, none⟩ v).setCell ⟨b, 2, none⟩ x
theorem stored3_gb (w3 : World) (b : Nat) (u v x : Value) : w3.grownBy (stored3 w3 b u v x) (some b) := gb_trans (gb_trans (gb_set _ _ _) (gb_set _ _ _)) (gb_set _ _ _)
theorem checkE_ok {R C n : Nat} (hR : R ≤ 64) (hC : C ≤ 64) (hn : n = R * C) : checkE R C n = 0 := by
  unfold checkE soundB sideB
  rw [hn]
  simp
  omega

end Go.Proofs.Ytejliecmdkmgiaa

namespace Go.Proofs.Ytejliecmdkmgiaa
open Go.RowKit

end Go.Proofs.Ytejliecmdkmgiaa

namespace Go.Proofs.Ytejliecmdkmgiaa
open Go.RowKit

end Go.Proofs.Ytejliecmdkmgiaa

namespace Go.Proofs.Ytejliecmdkmgiaa
open Go.RowKit Go.Shelf

/-- kept where blocks are laid, and where one of the walk's own blocks turns -/
def Abid {β : Sort _} (B : Nat) (I : β → World → Prop) : Prop :=
  ∀ s W W' r, I s W → W.grownBy W' r → (∀ k, r = some k → k = B + 1) → I s W'

theorem Abid.put {β : Sort _} {B : Nat} {I : β → World → Prop} (h : Abid B I) {s : β} {W : World} {l : Nat} (o' : Obj) (hs : I s W) (hB : l = B + 1) : I s (W.putObj l o') :=
  h s W _ (some l) hs (grownBy_putObj' W l o') (fun k e => by cases e; exact hB)
theorem Abid.below {β : Sort _} {B : Nat} {I : β → World → Prop} (h : Abid B I) {s : β} {W W' : World} (hs : I s W) (hb : Below W.heap.size W W') : I s W' :=
  h s W _ none hs (gb_below hb none) (fun k e => by cases e)

end Go.Proofs.Ytejliecmdkmgiaa

namespace Go.Proofs.Ytejliecmdkmgiaa
open Go.RowKit Go.Shelf

end Go.Proofs.Ytejliecmdkmgiaa

namespace Go.Proofs.Ytejliecmdkmgiaa
open Go.RowKit Go.Shelf

attribute [local go_sem] Oper.semAt_some

end Go.Proofs.Ytejliecmdkmgiaa

namespace Go.Proofs.Ytejliecmdkmgiaa
open Go.RowKit Go.Shelf

/-- what must not hold words: the field, the lists of rows and numbers, the rows, and all from N on -/
def DB (base fb N q : Nat) (B : Nat → Nat) (rs ns : Value) (b : Nat) : Prop := (b = fb ∨ base ≤ b ∧ b < base + 2) ∨ N ≤ b ∨ rs.ownBlock = some b ∨ ns.ownBlock = some b ∨ ∃ t, t < q ∧ b = B t

/-- q rows and q' numbers stand -/
structure FlB (W : World) (base fb C q q' N : Nat) (B : Nat → Nat) (A : Nat → Int) (rs ns : Value) : Prop where
  fbl : fb < base
  c0 : W.cell? ⟨fb, 0, none⟩ = some rs ∧ W.frozen? ⟨fb, 0, none⟩ = false
  c1 : W.cell? ⟨fb, 1, none⟩ = some ns ∧ W.frozen? ⟨fb, 1, none⟩ = false
  r : W.ownsRow base 22 1 rs q ((List.range q).map fun (j : Nat) => .slice (some ⟨B j, 0, none⟩) C C)
  n : W.ownsRow base 3 1 ns q' ((List.range q').map fun (j : Nat) => .int .i64 (j : Int))
  rN : ∀ b, rs.ownBlock = some b → b < N
  nN : ∀ b, ns.ownBlock = some b → b < N
  r2 : ∀ b, (rs.ownBlock = some b ∨ ns.ownBlock = some b ∨ ∃ j, j < q ∧ b = B j) → base + 2 ≤ b
  rn : ∀ b, rs.ownBlock = some b → ns.ownBlock ≠ some b
  bN : ∀ j, j < q → B j < N
  inj : ∀ i j, i < q → j < q → B i = B j → i = j
  off : ∀ j, j < q → rs.ownBlock ≠ some (B j) ∧ ns.ownBlock ≠ some (B j)
  lie : ∀ j, j < q → PaE W base (DB base fb N q B rs ns) (B j) C C (fun c => A (j * C + c))
  NW : N ≤ W.heap.size
  bs : base ≤ N

theorem grow_row {w w' : World} {base : Nat} {e : TypeId} {v : Value} {n : Nat} {xs : List Value} {r : Option Nat} (h : w.ownsRow base e 1 v n xs) (hg : w.grownBy w' r) (hr : ∀ b, v.ownBlock = some b → r ≠ some b) : w'.ownsRow base e 1 v n xs :=
  h.kept hg (by cases hv : v.ownBlock with
    | none => exact Or.inl rfl
    | some b => exact Or.inr (fun e => hr b hv e.symm))
theorem own_ge {w : World} {base : Nat} {e : TypeId} {v : Value} {n : Nat} {xs : List Value} (h : w.ownsRow base e 1 v n xs) (b : Nat) (hb : v.ownBlock = some b) : base ≤ b ∧ b < w.heap.size := h.lt b hb

section
variable {W W' : World} {base fb C q q' N : Nat} {B : Nat → Nat} {A : Nat → Int} {rs ns : Value}
/-- blocks are laid, or one turns that is none of ours -/
theorem FlB.grown (h : FlB W base fb C q q' N B A rs ns) {r : Option Nat} (hg : W.grownBy W' r) (hr : ∀ k, r = some k → base ≤ k ∧ k < base + 2) : FlB W' base fb C q q' N B A rs ns := by
  have fz (i : Nat) (u : Value) (hu : W.cell? ⟨fb, i, none⟩ = some u ∧ W.frozen? ⟨fb, i, none⟩ = false) : W'.cell? ⟨fb, i, none⟩ = some u ∧ W'.frozen? ⟨fb, i, none⟩ = false := by
    have hne : some fb ≠ r := fun e => by have := hr fb e.symm; have := h.fbl; omega
    exact ⟨hg.cell hu.1 hne, (World.frozen?_of_block (hg.block fb (World.block_lt_of_cell? W _ hu.1) hne)).trans hu.2⟩
  refine { h with c0 := fz _ _ h.c0, c1 := fz _ _ h.c1, r := grow_row h.r hg (fun b hb e => by have := hr b e; have := h.r2 b (Or.inl hb); omega), n := grow_row h.n hg (fun b hb e => by have := hr b e; have := h.r2 b (Or.inr (Or.inl hb)); omega), NW := Nat.le_trans h.NW hg.size, lie := fun j hj => ?_ }
  cases r with
  | none =>
    have := h.lie j hj
    exact ⟨this.own, this.blk.grown hg (by simp), fun i hi => by
      obtain ⟨s, m, c1, c2, c3, c4⟩ := this.cells i hi
      refine ⟨s, m, hg.cell c1 (by simp), hg.cell c2 (by simp), ?_, fun b hb => ⟨Nat.lt_of_lt_of_le (c4 b hb).1 hg.size, (c4 b hb).2⟩⟩
      exact c3.below ⟨hg.os, hg.tape, hg.output, hg.size, fun k hk => hg.block k hk (by simp)⟩⟩
  | some k =>
    have h1 := hr k rfl
    exact (h.lie j hj).grown hg (by have := h.r2 (B j) (Or.inr (Or.inr ⟨j, hj, rfl⟩)); omega) (Or.inl (Or.inr h1))
/-- the bound turns up -/
theorem FlB.up (h : FlB W base fb C q q' N B A rs ns) {N' : Nat} (h1 : N ≤ N') (h2 : N' ≤ W.heap.size) : FlB W base fb C q q' N' B A rs ns :=
  { h with rN := fun b hb => Nat.lt_of_lt_of_le (h.rN b hb) h1, nN := fun b hb => Nat.lt_of_lt_of_le (h.nN b hb) h1, bN := fun j hj => Nat.lt_of_lt_of_le (h.bN j hj) h1, NW := h2, bs := Nat.le_trans h.bs h1,
           lie := fun j hj => (h.lie j hj).turnD fun b _ hb hd => hb (by rcases hd with e | e | e | e | e; exact Or.inl e; exact Or.inr (Or.inl (by omega)); exact Or.inr (Or.inr (Or.inl e)); exact Or.inr (Or.inr (Or.inr (Or.inl e))); exact Or.inr (Or.inr (Or.inr (Or.inr e)))) }

theorem PaE.grow {w w' : World} {base : Nat} {D : Nat → Prop} {lb n k : Nat} {E : Nat → Int} (h : PaE w base D lb n k E) {r : Option Nat} (hg : w.grownBy w' r) (hr : ∀ d, r = some d → lb ≠ d ∧ D d) : PaE w' base D lb n k E := by
  cases r with
  | none =>
    exact ⟨h.own, h.blk.grown hg (by simp), fun i hi => by
      obtain ⟨s, m, c1, c2, c3, c4⟩ := h.cells i hi
      refine ⟨s, m, hg.cell c1 (by simp), hg.cell c2 (by simp), ?_, fun b hb => ⟨Nat.lt_of_lt_of_le (c4 b hb).1 hg.size, (c4 b hb).2⟩⟩
      exact c3.below ⟨hg.os, hg.tape, hg.output, hg.size, fun k hk => hg.block k hk (by simp)⟩⟩
  | some d => exact h.grown hg (hr d rfl).1 (hr d rfl).2

end
end Go.Proofs.Ytejliecmdkmgiaa

namespace Go.Proofs.Ytejliecmdkmgiaa
open Go.RowKit

section
variable {P : Program} {n l : Nat} {Q : Exit → Act → World → Prop} {md : Region.Mode} {ops : Array Oper}
/-- is none of the operations from f on listed? -/
def tailOff (f : Nat) (l : Array Bool) : Bool := (List.range l.size).all fun j => decide (j < f) || !(l.getD j true)
theorem tailOff_set {f i : Nat} {l : Array Bool} (hi : i < f) : tailOff f (l.setIfInBounds i true) = tailOff f l := by
  unfold tailOff
  rw [Array.size_setIfInBounds]
  refine congrArg _ ?_ |>.trans rfl
  funext j
  by_cases h : i = j
  · subst h; simp [hi]
  · rw [getD_set_ne true h]
/-- whatever order is picked; S holds behind every operation as long as none from f on has come up -/
def wpAnyL (P : Program) (md : Region.Mode) (ops : Array Oper) (Q : Exit → Act → World → Prop) (S : World → Prop) (f : Nat) : Nat → Array Bool → Act → World → Prop
  | 0, listed, a, w => Region.ready md ops listed = [] ∧ Q .normal a w
  | fuel + 1, listed, a, w =>
    (Region.ready md ops listed = [] → Q .normal a w) ∧
    ∀ i ∈ Region.ready md ops listed, wpOp P ops Q i (fun a' w' => (tailOff f (listed.setIfInBounds i true) = true → S w') ∧ wpAnyL P md ops Q S f fuel (listed.setIfInBounds i true) a' w') a w

theorem any_of_L {S : World → Prop} {f : Nat} : ∀ (fuel : Nat) (listed : Array Bool) (a : Act) (w : World), wpAnyL P md ops Q S f fuel listed a w → wpAny P md ops Q fuel listed a w
  | 0, _, _, _, h => h
  | fuel + 1, _, _, _, h => ⟨h.1, fun i hi => wpOp_mono (fun a' w' h' => any_of_L fuel _ a' w' h'.2) (h.2 i hi)⟩

/-- do all operations from f on wait for i by their own words? -/
def waitsB (md : Region.Mode) (ops : Array Oper) (f i : Nat) : Bool := (List.range ops.size).all fun j => decide (j < f) || match ops[j]? with | some o => o.after.any fun e => Region.binds md e && e.on == i | none => false

/-- a load: what it asks of the world holds as long as it is open -/
theorem anyL_first {S : World → Prop} {f i : Nat} {oi : Oper} {v : Value} (hi : ops[i]? = some oi) (hif : i < f) (hsel : ∀ (j : Nat) (o : Oper) cs b, ops[j]? = some o → o.op ≠ .select cs b)
    (hQ : ∀ c a w, Q (.panic c) (a.put oi.dst v) w → Q (.panic c) a w) (hw : waitsB md ops f i = true) :
    ∀ (fuel : Nat) (listed : Array Bool) (a : Act) (w : World),
      (∀ j oj, ops[j]? = some oj → j ≠ i → listed.getD j true = false → (∀ e ∈ oj.after, Region.binds md e = true → e.on ≠ i) → oi.apart ops oj = true) →
      i ∈ Region.ready md ops listed → YieldsIf P ops S oi v a → S w → tailOff f listed = true →
      wpAnyL P md ops Q S f fuel (listed.setIfInBounds i true) (a.put oi.dst v) w → wpAnyL P md ops Q S f (fuel + 1) listed a w := by
  intro fuel
  induction fuel with
  | zero =>
    intro listed a w _ hr hy hS h0 H
    refine ⟨fun h => (by rw [h] at hr; cases hr), fun j hj => ?_⟩
    by_cases hji : j = i
    · subst hji; exact hy.wpOp hi hS ⟨fun _ => hS, H⟩
    · have := ready_mono hj hji
      rw [H.1] at this
      cases this
  | succ fuel ih =>
    intro listed a w hfree hr hy hS h0 H
    refine ⟨fun h => (by rw [h] at hr; cases hr), fun j hj => ?_⟩
    by_cases hji : j = i
    · subst hji; exact hy.wpOp hi hS ⟨fun _ => hS, H⟩
    · have h1 := H.2 j (ready_mono hj hji)
      obtain ⟨hjun, oj, hoj, hall⟩ := mem_ready.1 hj
      have hnot : ∀ e ∈ oj.after, Region.binds md e = true → e.on ≠ i := fun e he hb heq => by
        have h1 := hall e he hb
        have h0 := (mem_ready.1 hr).1
        rw [heq] at h1
        rcases Nat.lt_or_ge i listed.size with h' | h'
        · simp [h'] at h0 h1; rw [h0] at h1; cases h1
        · simp [Array.getElem?_eq_none h'] at h1
      have hjf : j < f := by
        rcases Nat.lt_or_ge j f with h | h
        · exact h
        · exfalso
          unfold waitsB at hw
          have h3 := List.all_eq_true.1 hw j (List.mem_range.2 (Array.getElem?_eq_some_iff.1 hoj).1)
          rw [hoj] at h3
          simp only [Bool.or_eq_true, decide_eq_true_eq] at h3
          rcases h3 with h3 | h3
          · omega
          · obtain ⟨k, hk, he⟩ := Array.any_eq_true.1 h3
            simp only [Bool.and_eq_true, beq_iff_eq] at he
            exact hnot _ (Array.getElem_mem _) he.1 he.2
      have h2 := wpOp_putIf hoj (hfree j oj hoj hji hjun hnot) (fun cs b => hsel i oi cs b hi) (fun cs b => hsel j oj cs b hoj) hQ hy h1
      have hfree' : ∀ k ok, ops[k]? = some ok → k ≠ i → (listed.setIfInBounds j true).getD k true = false →
          (∀ e ∈ ok.after, Region.binds md e = true → e.on ≠ i) → oi.apart ops ok = true := fun k ok hk hki hun hno => by
        refine hfree k ok hk hki ?_ hno
        by_cases hjk : j = k
        · subst hjk; exact hjun
        · rw [getD_set_ne true hjk] at hun; exact hun
      have hcom : (listed.setIfInBounds i true).setIfInBounds j true = (listed.setIfInBounds j true).setIfInBounds i true := Array.setIfInBounds_comm _ _ (Ne.symm hji)
      have htl : tailOff f ((listed.setIfInBounds i true).setIfInBounds j true) = tailOff f (listed.setIfInBounds j true) := by rw [hcom, tailOff_set hif]
      have h00 : tailOff f (listed.setIfInBounds j true) = true := by rw [tailOff_set hjf]; exact h0
      refine wpOp_mono (fun a' w' h3 => ⟨fun _ => h3.2.1 (by rw [htl]; exact h00), ih (listed.setIfInBounds j true) a' w' hfree' (ready_mono hr (Ne.symm hji)) h3.1 (h3.2.1 (by rw [htl]; exact h00)) h00 ?_⟩) h2
      rw [← hcom]
      exact h3.2.2

/-- what yields in whatever world -/
theorem anyL_firstP {S : World → Prop} {f i : Nat} {oi : Oper} {v : Value} (hi : ops[i]? = some oi) (hif : i < f) (hsel : ∀ (j : Nat) (o : Oper) cs b, ops[j]? = some o → o.op ≠ .select cs b)
    (hQ : ∀ c a w, Q (.panic c) (a.put oi.dst v) w → Q (.panic c) a w) :
    ∀ (fuel : Nat) (listed : Array Bool) (a : Act) (w : World),
      (∀ j oj, ops[j]? = some oj → j ≠ i → listed.getD j true = false → (∀ e ∈ oj.after, Region.binds md e = true → e.on ≠ i) → oi.apart ops oj = true) →
      i ∈ Region.ready md ops listed → YieldsIf P ops (fun _ => True) oi v a → (tailOff f listed = true → S w) →
      wpAnyL P md ops Q S f fuel (listed.setIfInBounds i true) (a.put oi.dst v) w → wpAnyL P md ops Q S f (fuel + 1) listed a w := by
  intro fuel
  induction fuel with
  | zero =>
    intro listed a w _ hr hy hS H
    refine ⟨fun h => (by rw [h] at hr; cases hr), fun j hj => ?_⟩
    by_cases hji : j = i
    · subst hji; exact hy.wpOp hi trivial ⟨fun e => hS (by rw [tailOff_set hif] at e; exact e), H⟩
    · have := ready_mono hj hji
      rw [H.1] at this
      cases this
  | succ fuel ih =>
    intro listed a w hfree hr hy hS H
    refine ⟨fun h => (by rw [h] at hr; cases hr), fun j hj => ?_⟩
    by_cases hji : j = i
    · subst hji; exact hy.wpOp hi trivial ⟨fun e => hS (by rw [tailOff_set hif] at e; exact e), H⟩
    · have h1 := H.2 j (ready_mono hj hji)
      obtain ⟨hjun, oj, hoj, hall⟩ := mem_ready.1 hj
      have hnot : ∀ e ∈ oj.after, Region.binds md e = true → e.on ≠ i := fun e he hb heq => by
        have h1 := hall e he hb
        have h0 := (mem_ready.1 hr).1
        rw [heq] at h1
        rcases Nat.lt_or_ge i listed.size with h' | h'
        · simp [h'] at h0 h1; rw [h0] at h1; cases h1
        · simp [Array.getElem?_eq_none h'] at h1
      have h2 := wpOp_putIf hoj (hfree j oj hoj hji hjun hnot) (fun cs b => hsel i oi cs b hi) (fun cs b => hsel j oj cs b hoj) hQ hy h1
      have hfree' : ∀ k ok, ops[k]? = some ok → k ≠ i → (listed.setIfInBounds j true).getD k true = false →
          (∀ e ∈ ok.after, Region.binds md e = true → e.on ≠ i) → oi.apart ops ok = true := fun k ok hk hki hun hno => by
        refine hfree k ok hk hki ?_ hno
        by_cases hjk : j = k
        · subst hjk; exact hjun
        · rw [getD_set_ne true hjk] at hun; exact hun
      have hcom : (listed.setIfInBounds i true).setIfInBounds j true = (listed.setIfInBounds j true).setIfInBounds i true := Array.setIfInBounds_comm _ _ (Ne.symm hji)
      have htl : tailOff f ((listed.setIfInBounds i true).setIfInBounds j true) = tailOff f (listed.setIfInBounds j true) := by rw [hcom, tailOff_set hif]
      refine wpOp_mono (fun a' w' h3 => ⟨fun e => h3.2.1 (by rw [htl]; exact e), ih (listed.setIfInBounds j true) a' w' hfree' (ready_mono hr (Ne.symm hji)) h3.1 (fun e => h3.2.1 (by rw [htl]; exact e)) ?_⟩) h2
      rw [← hcom]
      exact h3.2.2

theorem anyL_take {S : World → Prop} {f i : Nat} {oi : Oper} {v : Value} {fuel : Nat} {listed : Array Bool} {a : Act} {w : World} (hi : ops[i]? = some oi)
    (hs : Region.noSelect ops = true) (hfr : Region.free md ops listed i = true) (hr : (Region.ready md ops listed).contains i = true) (hf : (waitsB md ops f i && tailOff f listed && decide (i < f)) = true)
    (hQ : ∀ c a w, Q (.panic c) (a.put oi.dst v) w → Q (.panic c) a w) (hy : YieldsIf P ops S oi v a) (hS : S w)
    (h : wpAnyL P md ops Q S f fuel (listed.setIfInBounds i true) (a.put oi.dst v) w) : wpAnyL P md ops Q S f (fuel + 1) listed a w := by
  simp only [Bool.and_eq_true, decide_eq_true_eq] at hf
  exact anyL_first hi hf.2 (Region.noSelect_spec hs) hQ hf.1.1 fuel listed a w (Region.free_spec hi hfr) (by simpa using hr) hy hS hf.1.2 h
/-- what yields in whatever world -/
theorem anyL_pure {S : World → Prop} {f i : Nat} {oi : Oper} {v : Value} {fuel : Nat} {listed : Array Bool} {a : Act} {w : World} (hi : ops[i]? = some oi)
    (hs : Region.noSelect ops = true) (hfr : Region.free md ops listed i = true) (hr : (Region.ready md ops listed).contains i = true) (hf : decide (i < f) = true)
    (hQ : ∀ c a w, Q (.panic c) (a.put oi.dst v) w → Q (.panic c) a w) (hy : YieldsIf P ops (fun _ => True) oi v a) (hS : S w)
    (h : wpAnyL P md ops Q S f fuel (listed.setIfInBounds i true) (a.put oi.dst v) w) : wpAnyL P md ops Q S f (fuel + 1) listed a w :=
  anyL_firstP hi (of_decide_eq_true hf) (Region.noSelect_spec hs) hQ fuel listed a w (Region.free_spec hi hfr) (by simpa using hr) hy (fun _ => hS) h

theorem anyL_done {S : World → Prop} {f : Nat} {listed : Array Bool} {a : Act} {w : World} (hr : Region.ready md ops listed = []) (h : Q .normal a w) : ∀ fuel, wpAnyL P md ops Q S f fuel listed a w
  | 0 => ⟨hr, h⟩
  | _ + 1 => ⟨fun _ => h, by rw [hr]; simp⟩

/-- the one operation that may come up -/
theorem anyL_one {S : World → Prop} {f i fuel : Nat} {o : Oper} {listed : Array Bool} {a : Act} {w : World} (hr : Region.ready md ops listed = [i]) (ho : ops[i]? = some o) (hw : Region.wanted o (yielded ops a.tmps) = true)
    (h : ∀ K : Act → World → Prop, (∀ a' w', (tailOff f (listed.setIfInBounds i true) = true → S w') → wpAnyL P md ops Q S f fuel (listed.setIfInBounds i true) a' w' → K a' w') → o.wp P a w K Q) : wpAnyL P md ops Q S f (fuel + 1) listed a w := by
  refine ⟨fun h0 => (by rw [hr] at h0; cases h0), fun j hj => ?_⟩
  rw [hr] at hj
  obtain rfl : j = i := by simpa using hj
  unfold wpOp
  rw [ho]
  dsimp only
  rw [if_pos hw]
  exact Or.inl (h _ fun a' w' h1 h2 => ⟨h1, h2⟩)

/-- one of two may come up -/
theorem anyL_two {S : World → Prop} {f i j fuel : Nat} {o o' : Oper} {listed : Array Bool} {a : Act} {w : World} (hr : Region.ready md ops listed = [i, j]) (ho : ops[i]? = some o) (hw : Region.wanted o (yielded ops a.tmps) = true) (ho' : ops[j]? = some o') (hw' : Region.wanted o' (yielded ops a.tmps) = true)
    (h : ∀ K : Act → World → Prop, (∀ a' w', (tailOff f (listed.setIfInBounds i true) = true → S w') → wpAnyL P md ops Q S f fuel (listed.setIfInBounds i true) a' w' → K a' w') → o.wp P a w K Q)
    (h' : ∀ K : Act → World → Prop, (∀ a' w', (tailOff f (listed.setIfInBounds j true) = true → S w') → wpAnyL P md ops Q S f fuel (listed.setIfInBounds j true) a' w' → K a' w') → o'.wp P a w K Q) : wpAnyL P md ops Q S f (fuel + 1) listed a w := by
  refine ⟨fun h0 => (by rw [hr] at h0; cases h0), fun t ht => ?_⟩
  rw [hr] at ht
  simp only [List.mem_cons, List.not_mem_nil, or_false] at ht
  unfold wpOp
  rcases ht with rfl | rfl
  · rw [ho]
    dsimp only
    rw [if_pos hw]
    exact Or.inl (h _ fun a' w' h1 h2 => ⟨h1, h2⟩)
  · rw [ho']
    dsimp only
    rw [if_pos hw']
    exact Or.inl (h' _ fun a' w' h1 h2 => ⟨h1, h2⟩)

theorem region_held (S : World → Prop) (f : Nat) {id : Nat} {a : Act} {w : World} (hm : P.follows .mixedOrders = true)
    (h : wpAnyL P .any ops Q S f ops.size (Array.replicate ops.size false) a w.drew) : (Code.region id ops true).wp P Q a w := wp_region_any hm (any_of_L _ _ _ _ h)

end
end Go.Proofs.Ytejliecmdkmgiaa

namespace Go.Proofs.Ytejliecmdkmgiaa
open Go.RowKit

/-- a list of the call's own, one cell an element -/
def OwnL (w : World) (base : Nat) (e : TypeId) (v : Value) (n : Nat) (F : Nat → Value) : Prop := w.ownsRow base e 1 v n ((List.range n).map F)

theorem OwnL.cell {w : World} {base : Nat} {e : TypeId} {v : Value} {n : Nat} {F : Nat → Value} (h : OwnL w base e v n F) (hn : 0 < n) : ∃ g cap, v = .slice (some ⟨g, 0, none⟩) n cap ∧ n ≤ cap ∧ base ≤ g ∧ g < w.heap.size ∧ ∀ i, i < n → w.cell? ⟨g, i, none⟩ = some (F i) ∧ w.frozen? ⟨g, i, none⟩ = false := by
  obtain ⟨h0, h⟩ := h
  rcases h with ⟨rfl, h⟩ | ⟨g, cap, cur, rfl, h2, h3, h4, h5, h6, h7⟩
  · omega
  · refine ⟨g, cap, rfl, h4, h2, (Array.getElem?_eq_some_iff.1 h3).1, fun i hi => ⟨?_, ?_⟩⟩
    · rw [cell_of_row _ _ _ _ _ _ h3]
      have := congrArg (·[i]?) h7
      rw [List.getElem?_take, if_pos (by omega)] at this
      simpa [hi] using this
    · unfold World.frozen?
      simp only [h3]; simp
theorem OwnL.slice {w : World} {base : Nat} {e : TypeId} {v : Value} {n : Nat} {F : Nat → Value} (h : OwnL w base e v n F) : ∃ a cap, v = .slice a n cap ∧ n ≤ cap ∧ cap ≤ maxLen := by
  obtain ⟨h0, h⟩ := h
  rcases h with ⟨rfl, rfl⟩ | ⟨g, cap, cur, rfl, h2, h3, h4, h5, h6, h7⟩
  · exact ⟨none, 0, rfl, Nat.le_refl _, Nat.zero_le _⟩
  · exact ⟨_, cap, rfl, h4, h5⟩
theorem OwnL.congr {w : World} {base : Nat} {e : TypeId} {v : Value} {n : Nat} {F G : Nat → Value} (h : OwnL w base e v n F) (hF : ∀ i, i < n → F i = G i) : OwnL w base e v n G := by
  have e : (List.range n).map F = (List.range n).map G := List.map_congr_left fun i hi => hF i (List.mem_range.1 hi)
  unfold OwnL at *
  rw [← e]; exact h
theorem OwnL.grow {w w' : World} {base : Nat} {e : TypeId} {v : Value} {n : Nat} {F : Nat → Value} {r : Option Nat} (h : OwnL w base e v n F) (hg : w.grownBy w' r) (hr : ∀ b, v.ownBlock = some b → r ≠ some b) : OwnL w' base e v n F := grow_row h hg hr
theorem OwnL.set {w : World} {base : Nat} {e : TypeId} {g n cap : Nat} {F : Nat → Value} (h : OwnL w base e (.slice (some ⟨g, 0, none⟩) n cap) n F) {i : Nat} (hi : i < n) (u : Value) : OwnL (w.setCell ⟨g, i, none⟩ u) base e (.slice (some ⟨g, 0, none⟩) n cap) n (fun j => if j = i then u else F j) := by
  obtain ⟨h0, h⟩ := h
  rcases h with ⟨h, _⟩ | ⟨g', cap', cur, h1, h2, h3, h4, h5, h6, h7⟩
  · simp at h
  · simp only [Value.slice.injEq, Option.some.injEq, Addr.mk.injEq, and_true, true_and] at h1
    obtain ⟨rfl, rfl⟩ := h1
    refine ⟨by simp, Or.inr ⟨g, cap, cur.setIfInBounds i u, rfl, h2, heap_setCell_same w g i cur e u h3, h4, h5, by simp [h6], ?_⟩⟩
    apply List.ext_getElem?
    intro j
    have := congrArg (·[j]?) h7
    simp only [List.getElem?_take, Nat.mul_one] at this ⊢
    by_cases hj : j < n
    · rw [if_pos hj] at this ⊢
      by_cases e : i = j
      · subst e
        simp [hi, h6, show i < cap by omega]
      · simp [e, hj, Ne.symm e] at this ⊢
        exact this
    · rw [if_neg hj]
      simp [show ¬ j < n from hj]

/-- the blocks of a field: no words lie in them -/
def DF (fb m : Nat) (B : Nat → Nat) (rs ns : Value) (b : Nat) : Prop := b = fb ∨ rs.ownBlock = some b ∨ ns.ownBlock = some b ∨ ∃ t, t < m ∧ b = B t

abbrev RowV (C : Nat) (B : Nat → Nat) (j : Nat) : Value := .slice (some ⟨B j, 0, none⟩) C C

/-- the blocks of a field, and those of X, which are others' -/
def DX (X : Nat → Prop) (fb m : Nat) (B : Nat → Nat) (rs ns : Value) (b : Nat) : Prop := DF fb m B rs ns b ∨ X b

/-- a field with m rows of C integers each: G; turned or not; the pivot taken last; how many were taken -/
structure Fl (X : Nat → Prop) (W : World) (base fb m C : Nat) (B : Nat → Nat) (G : Nat → Nat → Int) (tn : Bool) (last : Int) (k : Nat) (rs ns : Value) : Prop where
  own : base ≤ fb
  xlt : ∀ b, X b → b < W.heap.size
  c0 : W.cell? ⟨fb, 0, none⟩ = some rs ∧ W.frozen? ⟨fb, 0, none⟩ = false
  c1 : W.cell? ⟨fb, 1, none⟩ = some ns ∧ W.frozen? ⟨fb, 1, none⟩ = false
  c2 : W.cell? ⟨fb, 2, none⟩ = some (.bool tn) ∧ W.frozen? ⟨fb, 2, none⟩ = false
  c3 : ∃ s mv, (W.cell? ⟨fb, 3, none⟩ = some (.bool s) ∧ W.frozen? ⟨fb, 3, none⟩ = false) ∧ (W.cell? ⟨fb, 4, none⟩ = some mv ∧ W.frozen? ⟨fb, 4, none⟩ = false) ∧ RdZ W (.agg #[.bool s, mv]) last ∧ ∀ b, mv.ownBlock = some b → b < W.heap.size ∧ ¬ DX X fb m B rs ns b
  c5 : W.cell? ⟨fb, 5, none⟩ = some (.int .i64 k) ∧ W.frozen? ⟨fb, 5, none⟩ = false
  r : OwnL W base 22 rs m (RowV C B)
  n : ∃ f : Nat → Int, OwnL W base 3 ns m (fun j => .int .i64 (f j))
  rf : rs.ownBlock ≠ some fb ∧ ns.ownBlock ≠ some fb ∧ ∀ b, rs.ownBlock = some b → ns.ownBlock ≠ some b
  inj : ∀ i j, i < m → j < m → B i = B j → i = j
  off : ∀ j, j < m → rs.ownBlock ≠ some (B j) ∧ ns.ownBlock ≠ some (B j) ∧ B j ≠ fb
  lie : ∀ j, j < m → PaE W base (DX X fb m B rs ns) (B j) C C (G j)
end Go.Proofs.Ytejliecmdkmgiaa

namespace Go.Proofs.Ytejliecmdkmgiaa
open Go.RowKit Go.Shelf

attribute [local go_sem] Oper.semAt_some

/-- the rest of the field: not turned, the last pivot 1, none taken -/
structure RestF (W : World) (fb : Nat) (s : Bool) (m : Value) : Prop where
  c2 : W.cell? ⟨fb, 2, none⟩ = some (.bool false) ∧ W.frozen? ⟨fb, 2, none⟩ = false
  c3 : W.cell? ⟨fb, 3, none⟩ = some (.bool s) ∧ W.frozen? ⟨fb, 3, none⟩ = false
  c4 : W.cell? ⟨fb, 4, none⟩ = some m ∧ W.frozen? ⟨fb, 4, none⟩ = false
  c5 : W.cell? ⟨fb, 5, none⟩ = some (.int .i64 0) ∧ W.frozen? ⟨fb, 5, none⟩ = false
theorem kept_cell {W W' : World} {r : Option Nat} (hg : W.grownBy W' r) {b i : Nat} {u : Value} (hb : r ≠ some b) (hu : W.cell? ⟨b, i, none⟩ = some u ∧ W.frozen? ⟨b, i, none⟩ = false) : W'.cell? ⟨b, i, none⟩ = some u ∧ W'.frozen? ⟨b, i, none⟩ = false :=
  ⟨hg.cell hu.1 (fun e => hb e.symm), (World.frozen?_of_block (hg.block b (World.block_lt_of_cell? W _ hu.1) (fun e => hb e.symm))).trans hu.2⟩
theorem kept_set {W : World} {b i j : Nat} {u v : Value} (hb : i ≠ j) (hu : W.cell? ⟨b, i, none⟩ = some u ∧ W.frozen? ⟨b, i, none⟩ = false) : (W.setCell ⟨b, j, none⟩ v).cell? ⟨b, i, none⟩ = some u ∧ (W.setCell ⟨b, j, none⟩ v).frozen? ⟨b, i, none⟩ = false :=
  ⟨by rw [World.cell?_setCell_other _ _ _ _ (by intro e'; injection e' with _ e3 _; omega)]; exact hu.1, by rw [World.frozen?_setCell]; exact hu.2⟩
theorem RestF.grown {W W' : World} {fb : Nat} {s : Bool} {m : Value} (h : RestF W fb s m) {r : Option Nat} (hg : W.grownBy W' r) (hb : r ≠ some fb) : RestF W' fb s m :=
  ⟨kept_cell hg hb h.c2, kept_cell hg hb h.c3, kept_cell hg hb h.c4, kept_cell hg hb h.c5⟩
theorem RestF.set {W : World} {fb j : Nat} {s : Bool} {m v : Value} (h : RestF W fb s m) (hj : j < 2) : RestF (W.setCell ⟨fb, j, none⟩ v) fb s m :=
  ⟨kept_set (by omega) h.c2, kept_set (by omega) h.c3, kept_set (by omega) h.c4, kept_set (by omega) h.c5⟩

/-- between two rounds of bareiss.of -/
def OfI (w4 : World) (fb C : Nat) (A : Nat → Int) (s : Bool) (m : Value) (p : Nat × Nat) (W : World) : Prop :=
  w4.grownBy W (some fb) ∧ RestF W fb s m ∧ ∃ B rs ns, FlB W w4.heap.size fb C p.1 p.1 p.2 B A rs ns

theorem OfI.up {w4 : World} {fb C : Nat} {A : Nat → Int} {s : Bool} {m : Value} {i b : Nat} {W : World} (h : OfI w4 fb C A s m (i, b) W) : OfI w4 fb C A s m (i, W.heap.size) W := by
  obtain ⟨h1, h2, B, rs, ns, h3⟩ := h
  exact ⟨h1, h2, B, rs, ns, h3.up h3.NW (Nat.le_refl _)⟩

end Go.Proofs.Ytejliecmdkmgiaa
