/- What memory holds: lists of words, integers, lists of integers, matrices; and what stays of it. -/
import Derived.WalkKit
import Derived.WalkSpells
import Derived.Lib.Hide
import Derived.WalkSmall
import Derived.WalkLawsBesides
set_option linter.unusedVariables false
set_option linter.unusedSimpArgs false
namespace Go.Proofs.Ytdlpemmoobbgnaa
open Go.RowKit

/-- the number of m words from the place i on, the lowest first -/
def natFrom (f : Nat → Int) : Nat → Nat → Int
  | _, 0 => 0
  | i, m + 1 => f i + 18446744073709551616 * natFrom f (i + 1) m

/-- an integer as it stands: a sign and n words -/
structure Raw where
  neg : Bool
  n : Nat
  f : Nat → Int

def Raw.mag (r : Raw) : Int := natFrom r.f 0 r.n
def Raw.val (r : Raw) : Int := if r.neg then - r.mag else r.mag

/-- the value v reads as n numbers of kind k, f 0, f 1, .. -/
def RdA (k : IntKind) (w : World) (v : Value) (n : Nat) (f : Nat → Int) : Prop :=
  ∃ a cap, v = .slice a n cap ∧ n ≤ cap ∧ n ≤ 17592186044416 ∧ (0 < n → ∃ b o, a = some ⟨b, o, none⟩ ∧ ∀ i, i < n → w.cell? ⟨b, o + i, none⟩ = some (.int k (f i)))

/-- words are words -/
def Words (n : Nat) (f : Nat → Int) : Prop := ∀ i, i < n → 0 ≤ f i ∧ f i ≤ 18446744073709551615

def RdW (w : World) (v : Value) (n : Nat) (f : Nat → Int) : Prop := RdA .u64 w v n f ∧ Words n f

/-- the value v reads as the integer r -/
def RdI (w : World) (v : Value) (r : Raw) : Prop := ∃ m, v = .agg #[.bool r.neg, m] ∧ RdW w m r.n r.f

/-- the value v reads as n integers -/
def RdL (w : World) (v : Value) (n : Nat) (x : Nat → Raw) : Prop :=
  ∃ a cap, v = .slice a n cap ∧ n ≤ cap ∧ n ≤ 4398046511104 ∧ (0 < n → ∃ b o, a = some ⟨b, o, none⟩ ∧ ∀ i, i < n →
    ∃ m, w.cell? ⟨b, o + i * 2, none⟩ = some (.bool (x i).neg) ∧ w.cell? ⟨b, o + i * 2 + 1, none⟩ = some m ∧ RdW w m (x i).n (x i).f)

/-- the value v reads as a matrix, as it was handed in -/
def RdM (w : World) (v : Value) (rows cols : Int) (n : Nat) (x : Nat → Raw) : Prop :=
  ∃ s, v = .agg #[.int .i64 rows, .int .i64 cols, s] ∧ RdL w s n x

theorem cell_stays {w w' : World} (h : Below w.heap.size w w') {a : Addr} {v : Value} (hc : w.cell? a = some v) : w'.cell? a = some v := by
  rw [h.cell (World.block_lt_of_cell? w a hc)]; exact hc

theorem froz_stays {w w' : World} (h : Below w.heap.size w w') {a : Addr} {v : Value} (hc : w.cell? a = some v) (hf : w.frozen? a = false) : w'.frozen? a = false := by
  rw [h.frozen (World.block_lt_of_cell? w a hc)]; exact hf

theorem RdA.below {k : IntKind} {w w' : World} {v : Value} {n : Nat} {f : Nat → Int} (h : RdA k w v n f) (hb : Below w.heap.size w w') : RdA k w' v n f := by
  obtain ⟨a, cap, e, h1, h2, h3⟩ := h
  refine ⟨a, cap, e, h1, h2, fun hn => ?_⟩
  obtain ⟨b, o, e, h4⟩ := h3 hn
  exact ⟨b, o, e, fun i hi => cell_stays hb (h4 i hi)⟩

theorem RdW.below {w w' : World} {v : Value} {n : Nat} {f : Nat → Int} (h : RdW w v n f) (hb : Below w.heap.size w w') : RdW w' v n f := ⟨h.1.below hb, h.2⟩

theorem RdI.below {w w' : World} {v : Value} {r : Raw} (h : RdI w v r) (hb : Below w.heap.size w w') : RdI w' v r := by
  obtain ⟨m, e, h1⟩ := h
  exact ⟨m, e, h1.below hb⟩

theorem RdL.below {w w' : World} {v : Value} {n : Nat} {x : Nat → Raw} (h : RdL w v n x) (hb : Below w.heap.size w w') : RdL w' v n x := by
  obtain ⟨a, cap, e, h1, h2, h3⟩ := h
  refine ⟨a, cap, e, h1, h2, fun hn => ?_⟩
  obtain ⟨b, o, e, h4⟩ := h3 hn
  refine ⟨b, o, e, fun i hi => ?_⟩
  obtain ⟨m, c1, c2, c3⟩ := h4 i hi
  exact ⟨m, cell_stays hb c1, cell_stays hb c2, c3.below hb⟩

theorem RdM.below {w w' : World} {v : Value} {rows cols : Int} {n : Nat} {x : Nat → Raw} (h : RdM w v rows cols n x) (hb : Below w.heap.size w w') : RdM w' v rows cols n x := by
  obtain ⟨m, e, h1⟩ := h
  exact ⟨m, e, h1.below hb⟩

/-- the rules by which the walk carries old cells over a call that leaves old memory alone -/
theorem bcell {W w1 : World} (hb : Below W.heap.size W w1) : (∀ b o, b < W.heap.size → w1.cell? ⟨b, o, none⟩ = W.cell? ⟨b, o, none⟩) ∧ (∀ b o, b < W.heap.size → w1.frozen? ⟨b, o, none⟩ = W.frozen? ⟨b, o, none⟩) :=
  ⟨fun b o h => hb.cell (p := ⟨b, o, none⟩) h, fun b o h => hb.frozen (p := ⟨b, o, none⟩) h⟩

/-- a row of the call's own, or one that may be written: its cells, none of them frozen -/
def RowAt (k : IntKind) (w : World) (b o n : Nat) (f : Nat → Int) : Prop := ∀ i, i < n → w.cell? ⟨b, o + i, none⟩ = some (.int k (f i)) ∧ w.frozen? ⟨b, o + i, none⟩ = false

theorem RowAt.congr {k : IntKind} {w : World} {b o n : Nat} {f g : Nat → Int} (h : RowAt k w b o n f) (e : ∀ i, i < n → f i = g i) : RowAt k w b o n g :=
  fun i hi => by rw [← e i hi]; exact h i hi

theorem RowAt.get {k : IntKind} {w : World} {b o n : Nat} {f : Nat → Int} (h : RowAt k w b o n f) {i : Nat} (hi : i < n) {x : Int} (e : f i = x) :
    w.cell? ⟨b, o + i, none⟩ = some (.int k x) ∧ w.frozen? ⟨b, o + i, none⟩ = false := by rw [← e]; exact h i hi

theorem RowAt.block {k : IntKind} {w w' : World} {b o n : Nat} {f : Nat → Int} (h : RowAt k w b o n f) (e : w'.heap[b]? = w.heap[b]?) : RowAt k w' b o n f :=
  fun i hi => ⟨(World.cell?_of_block (w := w) (a := ⟨b, o + i, none⟩) e).trans (h i hi).1, (World.frozen?_of_block (w := w) (a := ⟨b, o + i, none⟩) e).trans (h i hi).2⟩

theorem RowAt.below {k : IntKind} {w w' : World} {b o n : Nat} {f : Nat → Int} (h : RowAt k w b o n f) (hb : Below w.heap.size w w') : RowAt k w' b o n f := by
  intro i hi
  have hlt := World.block_lt_of_cell? w _ (h i hi).1
  exact ⟨cell_stays hb (h i hi).1, (hb.frozen hlt).trans (h i hi).2⟩

theorem RowAt.set {k : IntKind} {w : World} {b o n : Nat} {f : Nat → Int} (h : RowAt k w b o n f) {j : Nat} (hj : j < n) (x : Int) :
    RowAt k (w.setCell ⟨b, o + j, none⟩ (.int k x)) b o n (fun i => if i = j then x else f i) := by
  intro i hi
  refine ⟨?_, by rw [World.frozen?_setCell]; exact (h i hi).2⟩
  show _ = some (Value.int k (if i = j then x else f i))
  by_cases e : i = j
  · subst e
    rw [if_pos rfl]
    exact World.cell?_setCell_same w _ _ (h i hi).1
  · rw [if_neg e, World.cell?_setCell_other w _ _ _ (by intro e'; injection e' with _ e2 _; omega)]
    exact (h i hi).1

theorem RowAt.other {k : IntKind} {w : World} {b o n : Nat} {f : Nat → Int} (h : RowAt k w b o n f) {a : Addr} (ha : a.block ≠ b) (x : Value) : RowAt k (w.setCell a x) b o n f := by
  refine h.block ?_
  exact heap_setCell_other w a b x (fun e => ha e.symm)

theorem RowAt.lt {k : IntKind} {w : World} {b o n : Nat} {f : Nat → Int} (h : RowAt k w b o n f) (hn : 0 < n) : b < w.heap.size := World.block_lt_of_cell? w _ (h 0 hn).1

/-- an owned row is a slice -/
theorem own_slice {w : World} {base : Nat} {e : TypeId} {size : Nat} {v : Value} {n : Nat} {xs : List Value} (h : w.ownsRow base e size v n xs) : ∃ a c, v = .slice a n c := by
  rcases h.2 with ⟨rfl, rfl⟩ | ⟨g, cap, cur, rfl, _⟩
  · exact ⟨none, 0, rfl⟩
  · exact ⟨_, _, rfl⟩
theorem own_block {w : World} {base : Nat} {e : TypeId} {size : Nat} {v : Value} {n : Nat} {xs : List Value} (h : w.ownsRow base e size v n xs) {b : Nat} (hb : b < base) : v.ownBlock = none ∨ v.ownBlock ≠ some b := by
  cases hv : v.ownBlock with
  | none => exact Or.inl rfl
  | some k => right; have := (h.lt k hv).1; intro e; injection e with e; omega

theorem gb_refl (w : World) (r : Option Nat) : w.grownBy w r := World.grownBy.refl w r
theorem gb_trans {w1 w2 w3 : World} {r : Option Nat} (h : w1.grownBy w2 r) (g : w2.grownBy w3 r) : w1.grownBy w3 r :=
  ⟨g.os.trans h.os, g.tape.trans h.tape, g.output.trans h.output, Nat.le_trans h.size g.size, fun k hk hr => (g.block k (Nat.lt_of_lt_of_le hk h.size) hr).trans (h.block k hk hr)⟩
theorem gb_set (w : World) (a : Addr) (v : Value) : w.grownBy (w.setCell a v) (some a.block) :=
  ⟨rfl, rfl, rfl, by simp [World.setCell], fun k _ hr => heap_setCell_other w a k v (fun e => hr (by rw [e]))⟩
theorem gb_drew (w : World) (r : Option Nat) : w.grownBy w.drew r := ⟨rfl, rfl, rfl, Nat.le_refl _, fun _ _ _ => rfl⟩
theorem gb_drewN (w : World) (n : Nat) (r : Option Nat) : w.grownBy (w.drewN n) r := ⟨rfl, rfl, rfl, Nat.le_refl _, fun _ _ _ => rfl⟩
theorem gb_below {w w' : World} (h : Below w.heap.size w w') (r : Option Nat) : w.grownBy w' r := ⟨h.os, h.tape, h.output, h.size, fun k hk _ => h.block k hk⟩

theorem RowAt.gb {k : IntKind} {w w' : World} {b o n : Nat} {f : Nat → Int} (h : RowAt k w b o n f) {r : Option Nat} (hg : w.grownBy w' r) (hr : some b ≠ r) : RowAt k w' b o n f := by
  rcases Nat.eq_zero_or_pos n with rfl | hn
  · exact fun i hi => absurd hi (by omega)
  · exact h.block (hg.block b (h.lt hn) hr)

/-- n cells from the place o of block b on, none of them frozen -/
def CellsAt (w : World) (b o n : Nat) (F : Nat → Value) : Prop := ∀ i, i < n → w.cell? ⟨b, o + i, none⟩ = some (F i) ∧ w.frozen? ⟨b, o + i, none⟩ = false

/-- block b is a row of n cells of element type e -/
def Blk (w : World) (b n : Nat) (e : TypeId) : Prop := ∃ cur : Array Value, w.heap[b]? = some (.cells cur e (0, 0)) ∧ cur.size = n

theorem CellsAt.row {k : IntKind} {w : World} {b o n : Nat} {f : Nat → Int} (h : CellsAt w b o n fun i => .int k (f i)) : RowAt k w b o n f := h
theorem CellsAt.congr {w : World} {b o n : Nat} {F G : Nat → Value} (h : CellsAt w b o n F) (e : ∀ i, i < n → F i = G i) : CellsAt w b o n G := fun i hi => by rw [← e i hi]; exact h i hi
theorem CellsAt.get {w : World} {b o n : Nat} {F : Nat → Value} (h : CellsAt w b o n F) {i : Nat} (hi : i < n) {x : Value} (e : F i = x) : w.cell? ⟨b, o + i, none⟩ = some x ∧ w.frozen? ⟨b, o + i, none⟩ = false := by
  rw [← e]; exact h i hi
theorem CellsAt.lt {w : World} {b o n : Nat} {F : Nat → Value} (h : CellsAt w b o n F) (hn : 0 < n) : b < w.heap.size := World.block_lt_of_cell? w _ (h 0 hn).1
theorem CellsAt.block {w w' : World} {b o n : Nat} {F : Nat → Value} (h : CellsAt w b o n F) (e : w'.heap[b]? = w.heap[b]?) : CellsAt w' b o n F :=
  fun i hi => ⟨(World.cell?_of_block (w := w) (a := ⟨b, o + i, none⟩) e).trans (h i hi).1, (World.frozen?_of_block (w := w) (a := ⟨b, o + i, none⟩) e).trans (h i hi).2⟩
theorem CellsAt.grown {w w' : World} {b o n : Nat} {F : Nat → Value} (h : CellsAt w b o n F) {r : Option Nat} (hg : w.grownBy w' r) (hr : some b ≠ r) : CellsAt w' b o n F := by
  rcases Nat.eq_zero_or_pos n with rfl | hn
  · exact fun i hi => absurd hi (by omega)
  · exact h.block (hg.block b (h.lt hn) hr)
theorem CellsAt.set {w : World} {b o n : Nat} {F : Nat → Value} (h : CellsAt w b o n F) {j : Nat} (hj : j < n) (x : Value) :
    CellsAt (w.setCell ⟨b, o + j, none⟩ x) b o n (fun i => if i = j then x else F i) := by
  intro i hi
  refine ⟨?_, by rw [World.frozen?_setCell]; exact (h i hi).2⟩
  show _ = some (if i = j then x else F i)
  by_cases e : i = j
  · subst e
    rw [if_pos rfl]
    exact World.cell?_setCell_same w _ _ (h i hi).1
  · rw [if_neg e, World.cell?_setCell_other w _ _ _ (by intro e'; injection e' with _ e2 _; omega)]
    exact (h i hi).1
theorem CellsAt.other {w : World} {b o n : Nat} {F : Nat → Value} (h : CellsAt w b o n F) {a : Addr} (ha : a.block ≠ b) (x : Value) : CellsAt (w.setCell a x) b o n F :=
  h.block (heap_setCell_other w a b x (fun e => ha e.symm))

theorem CellsAt.get0 {w : World} {b n : Nat} {F : Nat → Value} (h : CellsAt w b 0 n F) {i : Nat} (hi : i < n) {x : Value} (e : F i = x) : w.cell? ⟨b, i, none⟩ = some x ∧ w.frozen? ⟨b, i, none⟩ = false := by
  have := h i hi; rw [Nat.zero_add] at this; rw [← e]; exact this
theorem RowAt.get0 {k : IntKind} {w : World} {b n : Nat} {f : Nat → Int} (h : RowAt k w b 0 n f) {i : Nat} (hi : i < n) {x : Int} (e : f i = x) : w.cell? ⟨b, i, none⟩ = some (.int k x) ∧ w.frozen? ⟨b, i, none⟩ = false := by
  have := h i hi; rw [Nat.zero_add] at this; rw [← e]; exact this
theorem RowAt.set0 {k : IntKind} {w : World} {b n : Nat} {f : Nat → Int} (h : RowAt k w b 0 n f) {j : Nat} (hj : j < n) (x : Int) :
    RowAt k (w.setCell ⟨b, j, none⟩ (.int k x)) b 0 n (fun i => if i = j then x else f i) := by
  have := h.set hj x; rwa [Nat.zero_add] at this
theorem CellsAt.set0 {w : World} {b n : Nat} {F : Nat → Value} (h : CellsAt w b 0 n F) {j : Nat} (hj : j < n) (x : Value) :
    CellsAt (w.setCell ⟨b, j, none⟩ x) b 0 n (fun i => if i = j then x else F i) := by
  have := h.set hj x; rwa [Nat.zero_add] at this

theorem Blk.lt {w : World} {b n : Nat} {e : TypeId} (h : Blk w b n e) : b < w.heap.size := by obtain ⟨cur, h, _⟩ := h; exact lt_of_block h
theorem Blk.grown {w w' : World} {b n : Nat} {e : TypeId} (h : Blk w b n e) {r : Option Nat} (hg : w.grownBy w' r) (hr : some b ≠ r) : Blk w' b n e := by
  have hl := h.lt
  obtain ⟨cur, h, hs⟩ := h
  exact ⟨cur, (hg.block b hl hr).trans h, hs⟩
theorem Blk.set {w : World} {b n : Nat} {e : TypeId} (h : Blk w b n e) (i : Nat) (x : Value) : Blk (w.setCell ⟨b, i, none⟩ x) b n e := by
  obtain ⟨cur, h, hs⟩ := h
  refine ⟨cur.setIfInBounds i x, heap_setCell_same w b i cur e x h, by simpa using hs⟩
theorem Blk.other {w : World} {b n : Nat} {e : TypeId} (h : Blk w b n e) {a : Addr} (ha : a.block ≠ b) (x : Value) : Blk (w.setCell a x) b n e :=
  h.grown (gb_set w a x) (fun e => ha (Option.some.inj e).symm)

/-- a block just made -/
theorem Blk.made (w : World) (z : Value) (n : Nat) (e : TypeId) : Blk (w.alloc (.cells (madeCells #[z] n) e)) w.heap.size n e :=
  ⟨madeCells #[z] n, heap_alloc_new w _, by simp [madeCells]⟩
theorem CellsAt.made (w : World) (z : Value) (n : Nat) (e : TypeId) : CellsAt (w.alloc (.cells (madeCells #[z] n) e)) w.heap.size 0 n (fun _ => z) := by
  intro i hi
  have h := heap_alloc_new w (.cells (madeCells #[z] n) e)
  refine ⟨?_, ?_⟩
  · rw [Nat.zero_add, cell_of_row _ _ _ _ _ _ h]
    simp [madeCells, hi, Nat.mod_one]
  · unfold World.frozen?
    rw [show (⟨w.heap.size, 0 + i, none⟩ : Addr).block = w.heap.size from rfl, h]
    simp

/-- what a row of the call's own is to the law on append -/
theorem own_of {w : World} {base b n : Nat} {e : TypeId} {F : Nat → Value} (h : Blk w b n e) (hc : CellsAt w b 0 n F) (hb : base ≤ b) (hn : n ≤ maxLen) :
    w.ownsRow base e 1 (.slice (some ⟨b, 0, none⟩) n n) n ((List.range n).map F) := by
  obtain ⟨cur, h, hs⟩ := h
  refine ⟨by simp, Or.inr ⟨b, n, cur, rfl, hb, h, Nat.le_refl _, hn, by omega, ?_⟩⟩
  apply List.ext_getElem?
  intro i
  rw [Nat.mul_one, List.getElem?_take]
  by_cases hi : i < n
  · rw [if_pos hi]
    have := (hc i hi).1
    rw [Nat.zero_add, cell_of_row _ _ _ _ _ _ h] at this
    simp [hi, this]
  · rw [if_neg hi, List.getElem?_eq_none (by simp; omega)]

/-- a block whose cells are known as a list -/
theorem cells_list {w : World} {b n : Nat} {e : TypeId} {F : Nat → Value} (h : w.heap[b]? = some (.cells ((List.range n).map F).toArray e (0, 0))) : Blk w b n e ∧ CellsAt w b 0 n F := by
  refine ⟨⟨_, h, by simp⟩, fun i hi => ⟨?_, ?_⟩⟩
  · rw [Nat.zero_add, cell_of_row _ _ _ _ _ _ h]; simp [hi]
  · unfold World.frozen?
    rw [show (⟨b, 0 + i, none⟩ : Addr).block = b from rfl, h]; simp

/-- fresh numbers: a slice of n numbers of kind k in a block of its own, from base on -/
def FrA (k : IntKind) (e : TypeId) (w : World) (base : Nat) (v : Value) (n : Nat) (f : Nat → Int) : Prop :=
  (v = .slice none 0 0 ∧ n = 0) ∨ ∃ b cap, v = .slice (some ⟨b, 0, none⟩) n cap ∧ n ≤ cap ∧ n ≤ 17592186044416 ∧ base ≤ b ∧ Blk w b cap e ∧ RowAt k w b 0 n f

theorem FrA.read {k : IntKind} {e : TypeId} {w : World} {base : Nat} {v : Value} {n : Nat} {f : Nat → Int} (h : FrA k e w base v n f) : RdA k w v n f := by
  rcases h with ⟨rfl, rfl⟩ | ⟨b, cap, rfl, h1, h2, _, _, h3⟩
  · exact ⟨none, 0, rfl, Nat.le_refl _, by omega, fun h => absurd h (by omega)⟩
  · exact ⟨_, cap, rfl, h1, h2, fun _ => ⟨b, 0, rfl, fun i hi => (h3 i hi).1⟩⟩
theorem FrA.grown {k : IntKind} {e : TypeId} {w w' : World} {base : Nat} {v : Value} {n : Nat} {f : Nat → Int} (h : FrA k e w base v n f) {r : Option Nat} (hg : w.grownBy w' r) (hr : v.ownBlock = none ∨ v.ownBlock ≠ r) : FrA k e w' base v n f := by
  rcases h with ⟨rfl, rfl⟩ | ⟨b, cap, rfl, h1, h2, h3, h4, h5⟩
  · exact Or.inl ⟨rfl, rfl⟩
  · have hr' : some b ≠ r := by simpa [Value.ownBlock] using hr
    exact Or.inr ⟨b, cap, rfl, h1, h2, h3, h4.grown hg hr', h5.gb hg hr'⟩
theorem FrA.below {k : IntKind} {e : TypeId} {w w' : World} {base : Nat} {v : Value} {n : Nat} {f : Nat → Int} (h : FrA k e w base v n f) (hb : Below w.heap.size w w') : FrA k e w' base v n f :=
  h.grown (gb_below hb none) (by cases v.ownBlock <;> simp)
theorem FrA.mono {k : IntKind} {e : TypeId} {w : World} {base base' : Nat} {v : Value} {n : Nat} {f : Nat → Int} (h : FrA k e w base v n f) (hb : base' ≤ base) : FrA k e w base' v n f := by
  rcases h with h | ⟨b, cap, rfl, h1, h2, h3, h4, h5⟩
  · exact Or.inl h
  · exact Or.inr ⟨b, cap, rfl, h1, h2, Nat.le_trans hb h3, h4, h5⟩
theorem FrA.congr {k : IntKind} {e : TypeId} {w : World} {base : Nat} {v : Value} {n : Nat} {f g : Nat → Int} (h : FrA k e w base v n f) (hg : ∀ i, i < n → f i = g i) : FrA k e w base v n g := by
  rcases h with h | ⟨b, cap, rfl, h1, h2, h3, h4, h5⟩
  · exact Or.inl h
  · exact Or.inr ⟨b, cap, rfl, h1, h2, h3, h4, h5.congr hg⟩

end Go.Proofs.Ytdlpemmoobbgnaa
