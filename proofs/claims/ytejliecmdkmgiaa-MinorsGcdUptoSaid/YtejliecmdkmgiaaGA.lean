import Derived.WalkKit
import Derived.WalkSpells
import Derived.Lib.Hide
import Derived.WalkSmall
import Derived.WalkLawsBesides
import Derived.ArgAppend
import Derived.Test.YtejliecmdkmgiaaProg
import Derived.Deep.RegionHeld3
import Derived.Laws.Externs
import Derived.Shelf.Spec.BitsCarry
import Derived.Lib.Mul64
import Derived.Laws.Bits64b
import Derived.Laws.CopyOwn
import Derived.Lib.BitFns
set_option linter.unusedVariables false
set_option linter.unusedSimpArgs false
set_option maxHeartbeats 8000000
set_option maxRecDepth 100000
namespace Go.Proofs.Ytejliecmdkmgiaa
open Go.RowKit
def natFrom (f : Nat → Int) : Nat → Nat → Int
  | _, 0 => 0
  | i, m + 1 => f i + 18446744073709551616 * natFrom f (i + 1) m
structure Raw where
  neg : Bool
  n : Nat
  f : Nat → Int
def Raw.mag (r : Raw) : Int := natFrom r.f 0 r.n
def Raw.val (r : Raw) : Int := if r.neg then - r.mag else r.mag
def RdA (k : IntKind) (w : World) (v : Value) (n : Nat) (f : Nat → Int) : Prop :=
  ∃ a cap, v = .slice a n cap ∧ n ≤ cap ∧ n ≤ 17592186044416 ∧ (0 < n → ∃ b o, a = some ⟨b, o, none⟩ ∧ ∀ i, i < n → w.cell? ⟨b, o + i, none⟩ = some (.int k (f i)))
def Words (n : Nat) (f : Nat → Int) : Prop := ∀ i, i < n → 0 ≤ f i ∧ f i ≤ 18446744073709551615
def RdW (w : World) (v : Value) (n : Nat) (f : Nat → Int) : Prop := RdA .u64 w v n f ∧ Words n f
def RdI (w : World) (v : Value) (r : Raw) : Prop := ∃ m, v = .agg #[.bool r.neg, m] ∧ RdW w m r.n r.f
def RdL (w : World) (v : Value) (n : Nat) (x : Nat → Raw) : Prop :=
  ∃ a cap, v = .slice a n cap ∧ n ≤ cap ∧ n ≤ 4398046511104 ∧ (0 < n → ∃ b o, a = some ⟨b, o, none⟩ ∧ ∀ i, i < n →
    ∃ m, w.cell? ⟨b, o + i * 2, none⟩ = some (.bool (x i).neg) ∧ w.cell? ⟨b, o + i * 2 + 1, none⟩ = some m ∧ RdW w m (x i).n (x i).f)
def RdM (w : World) (v : Value) (rows cols : Int) (n : Nat) (x : Nat → Raw) : Prop :=
  ∃ s, v = .agg #[.int .i64 rows, .int .i64 cols, s] ∧ RdL w s n x
theorem cell_stays {w w' : World} (h : Below w.heap.size w w') {a : Addr} {v : Value} (hc : w.cell? a = some v) : w'.cell? a = some v := by
  rw [h.cell (World.block_lt_of_cell? w a hc)]; exact hc
theorem froz_stays {w w' : World} (h : Below w.heap.size w w') {a : Addr} {v : Value} (hc : w.cell? a = some v) (hf : w.frozen? a = false) : w'.frozen? a = false := by
  rw [h.frozen (World.block_lt_of_cell? w a hc)]; exact hf
theorem RdA.below {k : IntKind} {w w' : World} {v : Value} {n : Nat} {f : Nat → Int} (h : RdA k w v n f) (hb : Below w.heap.size w w') : RdA k w' v n f := by
  obtain ⟨a, cap, e, h1, h2, h3⟩ := h
  refine ⟨a, cap, e, h1, h2, fun hn => ?_⟩
  obtain ⟨b, o, e, h4⟩ := h3 hn
  exact ⟨b, o, e, fun i hi => cell_stays hb (h4 i hi)⟩
theorem RdW.below {w w' : World} {v : Value} {n : Nat} {f : Nat → Int} (h : RdW w v n f) (hb : Below w.heap.size w w') : RdW w' v n f := ⟨h.1.below hb, h.2⟩
theorem RdI.below {w w' : World} {v : Value} {r : Raw} (h : RdI w v r) (hb : Below w.heap.size w w') : RdI w' v r := by
  obtain ⟨m, e, h1⟩ := h
  exact ⟨m, e, h1.below hb⟩
theorem RdL.below {w w' : World} {v : Value} {n : Nat} {x : Nat → Raw} (h : RdL w v n x) (hb : Below w.heap.size w w') : RdL w' v n x := by
  obtain ⟨a, cap, e, h1, h2, h3⟩ := h
  refine ⟨a, cap, e, h1, h2, fun hn => ?_⟩
  obtain ⟨b, o, e, h4⟩ := h3 hn
  refine ⟨b, o, e, fun i hi => ?_⟩
  obtain ⟨m, c1, c2, c3⟩ := h4 i hi
  exact ⟨m, cell_stays hb c1, cell_stays hb c2, c3.below hb⟩
theorem RdM.below {w w' : World} {v : Value} {rows cols : Int} {n : Nat} {x : Nat → Raw} (h : RdM w v rows cols n x) (hb : Below w.heap.size w w') : RdM w' v rows cols n x := by
  obtain ⟨m, e, h1⟩ := h
  exact ⟨m, e, h1.below hb⟩
def RowAt (k : IntKind) (w : World) (b o n : Nat) (f : Nat → Int) : Prop := ∀ i, i < n → w.cell? ⟨b, o + i, none⟩ = some (.int k (f i)) ∧ w.frozen? ⟨b, o + i, none⟩ = false
theorem RowAt.congr {k : IntKind} {w : World} {b o n : Nat} {f g : Nat → Int} (h : RowAt k w b o n f) (e : ∀ i, i < n → f i = g i) : RowAt k w b o n g :=
  fun i hi => by rw [← e i hi]; exact h i hi
theorem RowAt.get {k : IntKind} {w : World} {b o n : Nat} {f : Nat → Int} (h : RowAt k w b o n f) {i : Nat} (hi : i < n) {x : Int} (e : f i = x) :
    w.cell? ⟨b, o + i, none⟩ = some (.int k x) ∧ w.frozen? ⟨b, o + i, none⟩ = false := by rw [← e]; exact h i hi
theorem RowAt.block {k : IntKind} {w w' : World} {b o n : Nat} {f : Nat → Int} (h : RowAt k w b o n f) (e : w'.heap[b]? = w.heap[b]?) : RowAt k w' b o n f :=
  fun i hi => ⟨(World.cell?_of_block (w := w) (a := ⟨b, o + i, none⟩) e).trans (h i hi).1, (World.frozen?_of_block (w := w) (a := ⟨b, o + i, none⟩) e).trans (h i hi).2⟩
theorem RowAt.below {k : IntKind} {w w' : World} {b o n : Nat} {f : Nat → Int} (h : RowAt k w b o n f) (hb : Below w.heap.size w w') : RowAt k w' b o n f := by
  intro i hi
  have hlt := World.block_lt_of_cell? w _ (h i hi).1
  exact ⟨cell_stays hb (h i hi).1, (hb.frozen hlt).trans (h i hi).2⟩
theorem RowAt.set {k : IntKind} {w : World} {b o n : Nat} {f : Nat → Int} (h : RowAt k w b o n f) {j : Nat} (hj : j < n) (x : Int) :
    RowAt k (w.setCell ⟨b, o + j, none⟩ (.int k x)) b o n (fun i => if i = j then x else f i) := by
  intro i hi
  refine ⟨?_, by rw [World.frozen?_setCell]; exact (h i hi).2⟩
  show _ = some (Value.int k (if i = j then x else f i))
  by_cases e : i = j
  · subst e
    rw [if_pos rfl]
    exact World.cell?_setCell_same w _ _ (h i hi).1
  · rw [if_neg e, World.cell?_setCell_other w _ _ _ (by intro e'; injection e' with _ e2 _; omega)]
    exact (h i hi).1
theorem RowAt.other {k : IntKind} {w : World} {b o n : Nat} {f : Nat → Int} (h : RowAt k w b o n f) {a : Addr} (ha : a.block ≠ b) (x : Value) : RowAt k (w.setCell a x) b o n f := by
  refine h.block ?_
  exact heap_setCell_other w a b x (fun e => ha e.symm)
theorem RowAt.lt {k : IntKind} {w : World} {b o n : Nat} {f : Nat → Int} (h : RowAt k w b o n f) (hn : 0 < n) : b < w.heap.size := World.block_lt_of_cell? w _ (h 0 hn).1
theorem own_slice {w : World} {base : Nat} {e : TypeId} {size : Nat} {v : Value} {n : Nat} {xs : List Value} (h : w.ownsRow base e size v n xs) : ∃ a c, v = .slice a n c := by
  rcases h.2 with ⟨rfl, rfl⟩ | ⟨g, cap, cur, rfl, _⟩
  · exact ⟨none, 0, rfl⟩
  · exact ⟨_, _, rfl⟩
theorem gb_refl (w : World) (r : Option Nat) : w.grownBy w r := World.grownBy.refl w r
theorem gb_trans {w1 w2 w3 : World} {r : Option Nat} (h : w1.grownBy w2 r) (g : w2.grownBy w3 r) : w1.grownBy w3 r :=
  ⟨g.os.trans h.os, g.tape.trans h.tape, g.output.trans h.output, Nat.le_trans h.size g.size, fun k hk hr => (g.block k (Nat.lt_of_lt_of_le hk h.size) hr).trans (h.block k hk hr)⟩
theorem gb_set (w : World) (a : Addr) (v : Value) : w.grownBy (w.setCell a v) (some a.block) :=
  ⟨rfl, rfl, rfl, by simp [World.setCell], fun k _ hr => heap_setCell_other w a k v (fun e => hr (by rw [e]))⟩
theorem gb_drew (w : World) (r : Option Nat) : w.grownBy w.drew r := ⟨rfl, rfl, rfl, Nat.le_refl _, fun _ _ _ => rfl⟩
theorem gb_drewN (w : World) (n : Nat) (r : Option Nat) : w.grownBy (w.drewN n) r := ⟨rfl, rfl, rfl, Nat.le_refl _, fun _ _ _ => rfl⟩
theorem gb_below {w w' : World} (h : Below w.heap.size w w') (r : Option Nat) : w.grownBy w' r := ⟨h.os, h.tape, h.output, h.size, fun k hk _ => h.block k hk⟩
theorem RowAt.gb {k : IntKind} {w w' : World} {b o n : Nat} {f : Nat → Int} (h : RowAt k w b o n f) {r : Option Nat} (hg : w.grownBy w' r) (hr : some b ≠ r) : RowAt k w' b o n f := by
  rcases Nat.eq_zero_or_pos n with rfl | hn
  · exact fun i hi => absurd hi (by omega)
  · exact h.block (hg.block b (h.lt hn) hr)
def CellsAt (w : World) (b o n : Nat) (F : Nat → Value) : Prop := ∀ i, i < n → w.cell? ⟨b, o + i, none⟩ = some (F i) ∧ w.frozen? ⟨b, o + i, none⟩ = false
def Blk (w : World) (b n : Nat) (e : TypeId) : Prop := ∃ cur : Array Value, w.heap[b]? = some (.cells cur e (0, 0)) ∧ cur.size = n
theorem CellsAt.row {k : IntKind} {w : World} {b o n : Nat} {f : Nat → Int} (h : CellsAt w b o n fun i => .int k (f i)) : RowAt k w b o n f := h
theorem CellsAt.congr {w : World} {b o n : Nat} {F G : Nat → Value} (h : CellsAt w b o n F) (e : ∀ i, i < n → F i = G i) : CellsAt w b o n G := fun i hi => by rw [← e i hi]; exact h i hi
theorem CellsAt.get {w : World} {b o n : Nat} {F : Nat → Value} (h : CellsAt w b o n F) {i : Nat} (hi : i < n) {x : Value} (e : F i = x) : w.cell? ⟨b, o + i, none⟩ = some x ∧ w.frozen? ⟨b, o + i, none⟩ = false := by
  rw [← e]; exact h i hi
theorem CellsAt.lt {w : World} {b o n : Nat} {F : Nat → Value} (h : CellsAt w b o n F) (hn : 0 < n) : b < w.heap.size := World.block_lt_of_cell? w _ (h 0 hn).1
theorem CellsAt.block {w w' : World} {b o n : Nat} {F : Nat → Value} (h : CellsAt w b o n F) (e : w'.heap[b]? = w.heap[b]?) : CellsAt w' b o n F :=
  fun i hi => ⟨(World.cell?_of_block (w := w) (a := ⟨b, o + i, none⟩) e).trans (h i hi).1, (World.frozen?_of_block (w := w) (a := ⟨b, o + i, none⟩) e).trans (h i hi).2⟩
theorem CellsAt.grown {w w' : World} {b o n : Nat} {F : Nat → Value} (h : CellsAt w b o n F) {r : Option Nat} (hg : w.grownBy w' r) (hr : some b ≠ r) : CellsAt w' b o n F := by
  rcases Nat.eq_zero_or_pos n with rfl | hn
  · exact fun i hi => absurd hi (by omega)
  · exact h.block (hg.block b (h.lt hn) hr)
theorem CellsAt.set {w : World} {b o n : Nat} {F : Nat → Value} (h : CellsAt w b o n F) {j : Nat} (hj : j < n) (x : Value) :
    CellsAt (w.setCell ⟨b, o + j, none⟩ x) b o n (fun i => if i = j then x else F i) := by
  intro i hi
  refine ⟨?_, by rw [World.frozen?_setCell]; exact (h i hi).2⟩
  show _ = some (if i = j then x else F i)
  by_cases e : i = j
  · subst e
    rw [if_pos rfl]
    exact World.cell?_setCell_same w _ _ (h i hi).1
  · rw [if_neg e, World.cell?_setCell_other w _ _ _ (by intro e'; injection e' with _ e2 _; omega)]
    exact (h i hi).1
theorem CellsAt.other {w : World} {b o n : Nat} {F : Nat → Value} (h : CellsAt w b o n F) {a : Addr} (ha : a.block ≠ b) (x : Value) : CellsAt (w.setCell a x) b o n F :=
  h.block (heap_setCell_other w a b x (fun e => ha e.symm))
theorem CellsAt.get0 {w : World} {b n : Nat} {F : Nat → Value} (h : CellsAt w b 0 n F) {i : Nat} (hi : i < n) {x : Value} (e : F i = x) : w.cell? ⟨b, i, none⟩ = some x ∧ w.frozen? ⟨b, i, none⟩ = false := by
  have := h i hi; rw [Nat.zero_add] at this; rw [← e]; exact this
theorem RowAt.get0 {k : IntKind} {w : World} {b n : Nat} {f : Nat → Int} (h : RowAt k w b 0 n f) {i : Nat} (hi : i < n) {x : Int} (e : f i = x) : w.cell? ⟨b, i, none⟩ = some (.int k x) ∧ w.frozen? ⟨b, i, none⟩ = false := by
  have := h i hi; rw [Nat.zero_add] at this; rw [← e]; exact this
theorem RowAt.set0 {k : IntKind} {w : World} {b n : Nat} {f : Nat → Int} (h : RowAt k w b 0 n f) {j : Nat} (hj : j < n) (x : Int) :
    RowAt k (w.setCell ⟨b, j, none⟩ (.int k x)) b 0 n (fun i => if i = j then x else f i) := by
  have := h.set hj x; rwa [Nat.zero_add] at this
theorem CellsAt.set0 {w : World} {b n : Nat} {F : Nat → Value} (h : CellsAt w b 0 n F) {j : Nat} (hj : j < n) (x : Value) :
    CellsAt (w.setCell ⟨b, j, none⟩ x) b 0 n (fun i => if i = j then x else F i) := by
  have := h.set hj x; rwa [Nat.zero_add] at this
theorem Blk.lt {w : World} {b n : Nat} {e : TypeId} (h : Blk w b n e) : b < w.heap.size := by obtain ⟨cur, h, _⟩ := h; exact lt_of_block h
theorem Blk.grown {w w' : World} {b n : Nat} {e : TypeId} (h : Blk w b n e) {r : Option Nat} (hg : w.grownBy w' r) (hr : some b ≠ r) : Blk w' b n e := by
  have hl := h.lt
  obtain ⟨cur, h, hs⟩ := h
  exact ⟨cur, (hg.block b hl hr).trans h, hs⟩
theorem Blk.set {w : World} {b n : Nat} {e : TypeId} (h : Blk w b n e) (i : Nat) (x : Value) : Blk (w.setCell ⟨b, i, none⟩ x) b n e := by
  obtain ⟨cur, h, hs⟩ := h
  refine ⟨cur.setIfInBounds i x, heap_setCell_same w b i cur e x h, by simpa using hs⟩
theorem Blk.other {w : World} {b n : Nat} {e : TypeId} (h : Blk w b n e) {a : Addr} (ha : a.block ≠ b) (x : Value) : Blk (w.setCell a x) b n e :=
  h.grown (gb_set w a x) (fun e => ha (Option.some.inj e).symm)
theorem Blk.made (w : World) (z : Value) (n : Nat) (e : TypeId) : Blk (w.alloc (.cells (madeCells #[z] n) e)) w.heap.size n e :=
  ⟨madeCells #[z] n, heap_alloc_new w _, by simp [madeCells]⟩
theorem CellsAt.made (w : World) (z : Value) (n : Nat) (e : TypeId) : CellsAt (w.alloc (.cells (madeCells #[z] n) e)) w.heap.size 0 n (fun _ => z) := by
  intro i hi
  have h := heap_alloc_new w (.cells (madeCells #[z] n) e)
  refine ⟨?_, ?_⟩
  · rw [Nat.zero_add, cell_of_row _ _ _ _ _ _ h]
    simp [madeCells, hi, Nat.mod_one]
  · unfold World.frozen?
    rw [show (⟨w.heap.size, 0 + i, none⟩ : Addr).block = w.heap.size from rfl, h]
    simp
theorem cells_list {w : World} {b n : Nat} {e : TypeId} {F : Nat → Value} (h : w.heap[b]? = some (.cells ((List.range n).map F).toArray e (0, 0))) : Blk w b n e ∧ CellsAt w b 0 n F := by
  refine ⟨⟨_, h, by simp⟩, fun i hi => ⟨?_, ?_⟩⟩
  · rw [Nat.zero_add, cell_of_row _ _ _ _ _ _ h]; simp [hi]
  · unfold World.frozen?
    rw [show (⟨b, 0 + i, none⟩ : Addr).block = b from rfl, h]; simp
def FrA (k : IntKind) (e : TypeId) (w : World) (base : Nat) (v : Value) (n : Nat) (f : Nat → Int) : Prop :=
  (v = .slice none 0 0 ∧ n = 0) ∨ ∃ b cap, v = .slice (some ⟨b, 0, none⟩) n cap ∧ n ≤ cap ∧ n ≤ 17592186044416 ∧ base ≤ b ∧ Blk w b cap e ∧ RowAt k w b 0 n f
theorem FrA.read {k : IntKind} {e : TypeId} {w : World} {base : Nat} {v : Value} {n : Nat} {f : Nat → Int} (h : FrA k e w base v n f) : RdA k w v n f := by
  rcases h with ⟨rfl, rfl⟩ | ⟨b, cap, rfl, h1, h2, _, _, h3⟩
  · exact ⟨none, 0, rfl, Nat.le_refl _, by omega, fun h => absurd h (by omega)⟩
  · exact ⟨_, cap, rfl, h1, h2, fun _ => ⟨b, 0, rfl, fun i hi => (h3 i hi).1⟩⟩
theorem FrA.grown {k : IntKind} {e : TypeId} {w w' : World} {base : Nat} {v : Value} {n : Nat} {f : Nat → Int} (h : FrA k e w base v n f) {r : Option Nat} (hg : w.grownBy w' r) (hr : v.ownBlock = none ∨ v.ownBlock ≠ r) : FrA k e w' base v n f := by
  rcases h with ⟨rfl, rfl⟩ | ⟨b, cap, rfl, h1, h2, h3, h4, h5⟩
  · exact Or.inl ⟨rfl, rfl⟩
  · have hr' : some b ≠ r := by simpa [Value.ownBlock] using hr
    exact Or.inr ⟨b, cap, rfl, h1, h2, h3, h4.grown hg hr', h5.gb hg hr'⟩
theorem FrA.below {k : IntKind} {e : TypeId} {w w' : World} {base : Nat} {v : Value} {n : Nat} {f : Nat → Int} (h : FrA k e w base v n f) (hb : Below w.heap.size w w') : FrA k e w' base v n f :=
  h.grown (gb_below hb none) (by cases v.ownBlock <;> simp)
theorem FrA.mono {k : IntKind} {e : TypeId} {w : World} {base base' : Nat} {v : Value} {n : Nat} {f : Nat → Int} (h : FrA k e w base v n f) (hb : base' ≤ base) : FrA k e w base' v n f := by
  rcases h with h | ⟨b, cap, rfl, h1, h2, h3, h4, h5⟩
  · exact Or.inl h
  · exact Or.inr ⟨b, cap, rfl, h1, h2, Nat.le_trans hb h3, h4, h5⟩
theorem FrA.congr {k : IntKind} {e : TypeId} {w : World} {base : Nat} {v : Value} {n : Nat} {f g : Nat → Int} (h : FrA k e w base v n f) (hg : ∀ i, i < n → f i = g i) : FrA k e w base v n g := by
  rcases h with h | ⟨b, cap, rfl, h1, h2, h3, h4, h5⟩
  · exact Or.inl h
  · exact Or.inr ⟨b, cap, rfl, h1, h2, h3, h4, h5.congr hg⟩
end Go.Proofs.Ytejliecmdkmgiaa
namespace Go.Proofs.Ytejliecmdkmgiaa
open Go.RowKit
def Value.apart (u v : Value) : Prop := ∀ b, u.ownBlock = some b → v.ownBlock ≠ some b
structure LS (T E : TypeId) (w : World) (base bm lb cap q : Nat) (x : Nat → Raw) (M : Nat → Value) : Prop where
  blk : Blk w lb (2 * cap) T
  own : base ≤ lb
  le : q ≤ cap
  cells : ∀ i, i < q → w.cell? ⟨lb, i * 2, none⟩ = some (.bool (x i).neg) ∧ w.cell? ⟨lb, i * 2 + 1, none⟩ = some (M i)
  mags : ∀ i, i < q → FrA .u64 E w bm (M i) (x i).n (x i).f
  apart : ∀ i j, i < q → j < q → i ≠ j → Value.apart (M i) (M j)
  off : ∀ i, i < q → (M i).ownBlock ≠ some lb
section
variable {T E : TypeId} {w w' : World} {base bm lb cap q : Nat} {x : Nat → Raw} {M : Nat → Value}
theorem Blk.cell {b n : Nat} {e : TypeId} (h : Blk w b n e) {i : Nat} (hi : i < n) : (w.cell? ⟨b, i, none⟩).isSome = true ∧ w.frozen? ⟨b, i, none⟩ = false := by
  obtain ⟨cur, h, hs⟩ := h
  refine ⟨?_, ?_⟩
  · rw [cell_of_row _ _ _ _ _ _ h]; simp [hs, hi]
  · unfold World.frozen?; simp only; rw [h]; simp
theorem FrA.lt {k : IntKind} {e : TypeId} {v : Value} {n : Nat} {f : Nat → Int} (h : FrA k e w base v n f) {b : Nat} (hb : v.ownBlock = some b) : base ≤ b ∧ b < w.heap.size := by
  rcases h with ⟨rfl, _⟩ | ⟨b', cap, rfl, _, _, h3, h4, _⟩
  · simp [Value.ownBlock] at hb
  · simp [Value.ownBlock] at hb; subst hb; exact ⟨h3, h4.lt⟩
theorem LS.grown (h : LS T E w base bm lb cap q x M) {r : Option Nat} (hg : w.grownBy w' r) (h1 : some lb ≠ r) (h2 : ∀ i, i < q → (M i).ownBlock = none ∨ (M i).ownBlock ≠ r) : LS T E w' base bm lb cap q x M :=
  { h with
    blk := h.blk.grown hg h1
    cells := fun i hi => ⟨hg.cell (h.cells i hi).1 h1, hg.cell (h.cells i hi).2 h1⟩
    mags := fun i hi => (h.mags i hi).grown hg (h2 i hi) }
theorem LS.below (h : LS T E w base bm lb cap q x M) (hb : Below w.heap.size w w') : LS T E w' base bm lb cap q x M :=
  h.grown (gb_below hb none) (by simp) (fun i _ => by cases (M i).ownBlock <;> simp)
theorem LS.set (h : LS T E w base bm lb cap q x M) {a : Addr} (ha : a.block < bm) (hl : a.block ≠ lb) (v : Value) : LS T E (w.setCell a v) base bm lb cap q x M := by
  refine h.grown (gb_set w a v) (fun e => ?_) (fun i hi => ?_)
  · injection e with e; exact hl e.symm
  · cases hb : (M i).ownBlock with
    | none => exact Or.inl rfl
    | some b => right; have := ((h.mags i hi).lt hb).1; intro e; injection e with e; omega
theorem LS.start (w : World) (cur : Array Value) (hc : cur.size = 2 * cap) (hb : base ≤ w.heap.size) (x : Nat → Raw) (M : Nat → Value) : LS T E (w.alloc (.cells cur T)) base bm w.heap.size cap 0 x M :=
  ⟨⟨cur, heap_alloc_new w _, hc⟩, hb, by omega, fun i hi => absurd hi (by omega), fun i hi => absurd hi (by omega), fun i _ hi => absurd hi (by omega), fun i hi => absurd hi (by omega)⟩
theorem LS.push (h : LS T E w base bm lb cap q x M) (hq : q < cap) {s : Bool} {mv : Value} {n : Nat} {f : Nat → Int} (hm : FrA .u64 E w bm mv n f) (hx : x q = ⟨s, n, f⟩)
    (ha : ∀ i, i < q → Value.apart (M i) mv ∧ Value.apart mv (M i)) (ho : mv.ownBlock ≠ some lb) :
    LS T E ((w.setCell ⟨lb, q * 2, none⟩ (.bool s)).setCell ⟨lb, q * 2 + 1, none⟩ mv) base bm lb cap (q + 1) x (fun i => if i = q then mv else M i) := by
  have hg : w.grownBy ((w.setCell ⟨lb, q * 2, none⟩ (.bool s)).setCell ⟨lb, q * 2 + 1, none⟩ mv) (some lb) := gb_trans (gb_set _ _ _) (gb_set _ _ _)
  obtain ⟨a1, _⟩ := h.blk.cell (i := q * 2) (by omega)
  obtain ⟨a2, _⟩ := h.blk.cell (i := q * 2 + 1) (by omega)
  obtain ⟨u1, e1⟩ := Option.isSome_iff_exists.1 a1
  obtain ⟨u2, e2⟩ := Option.isSome_iff_exists.1 a2
  have hM : ∀ i, i < q → (if i = q then mv else M i) = M i := fun i hi => if_neg (by omega)
  refine ⟨(h.blk.set _ _).set _ _, h.own, by omega, fun i hi => ?_, fun i hi => ?_, fun i j hi hj hne => ?_, fun i hi => ?_⟩
  · by_cases e : i = q
    · subst e
      rw [if_pos rfl, hx]
      refine ⟨?_, ?_⟩
      · rw [World.cell?_setCell_other _ _ _ _ (by intro e'; injection e' with _ e3 _; omega)]
        exact World.cell?_setCell_same _ _ _ e1
      · refine World.cell?_setCell_same _ _ _ (u := u2) ?_
        rw [World.cell?_setCell_other _ _ _ _ (by intro e'; injection e' with _ e3 _; omega)]
        exact e2
    · rw [hM i (by omega)]
      obtain ⟨c1, c2⟩ := h.cells i (by omega)
      refine ⟨?_, ?_⟩
      · rw [World.cell?_setCell_other _ _ _ _ (by intro e'; injection e' with _ e3 _; omega), World.cell?_setCell_other _ _ _ _ (by intro e'; injection e' with _ e3 _; omega)]
        exact c1
      · rw [World.cell?_setCell_other _ _ _ _ (by intro e'; injection e' with _ e3 _; omega), World.cell?_setCell_other _ _ _ _ (by intro e'; injection e' with _ e3 _; omega)]
        exact c2
  · by_cases e : i = q
    · subst e
      rw [if_pos rfl, hx]
      exact hm.grown hg (Or.inr ho)
    · rw [hM i (by omega)]
      exact (h.mags i (by omega)).grown hg (Or.inr (h.off i (by omega)))
  · show Value.apart (if i = q then mv else M i) (if j = q then mv else M j)
    by_cases e : i = q
    · have : j < q := by omega
      rw [if_pos e, hM j this]; exact (ha j this).2
    · rw [hM i (by omega)]
      by_cases e' : j = q
      · rw [if_pos e']; exact (ha i (by omega)).1
      · rw [hM j (by omega)]; exact h.apart i j (by omega) (by omega) hne
  · show (if i = q then mv else M i).ownBlock ≠ _
    by_cases e : i = q
    · rw [if_pos e]; exact ho
    · rw [hM i (by omega)]; exact h.off i (by omega)
theorem LS.mono (h : LS T E w base bm lb cap q x M) {base' bm' : Nat} (h1 : base' ≤ base) (h2 : bm' ≤ bm) : LS T E w base' bm' lb cap q x M :=
  { h with own := Nat.le_trans h1 h.own, mags := fun i hi => (h.mags i hi).mono h2 }
theorem LS.congr (h : LS T E w base bm lb cap q x M) {y : Nat → Raw} (e : ∀ i, i < q → x i = y i) : LS T E w base bm lb cap q y M :=
  { h with cells := fun i hi => by rw [← e i hi]; exact h.cells i hi, mags := fun i hi => by rw [← e i hi]; exact h.mags i hi }
theorem LS.read (h : LS T E w base bm lb cap q x M) (hc : q ≤ 4398046511104) (hw : ∀ i, i < q → Words (x i).n (x i).f) : RdL w (.slice (some ⟨lb, 0, none⟩) q cap) q x := by
  refine ⟨_, cap, rfl, h.le, hc, fun _ => ⟨lb, 0, rfl, fun i hi => ⟨M i, ?_, ?_, (h.mags i hi).read, hw i hi⟩⟩⟩
  · rw [Nat.zero_add]; exact (h.cells i hi).1
  · rw [Nat.zero_add]; exact (h.cells i hi).2
end
end Go.Proofs.Ytejliecmdkmgiaa
namespace Go.Proofs.Ytejliecmdkmgiaa
open Go.RowKit
theorem infoW : (Try.prog.info? 62).map (fun i => (i.zero, i.size, i.bytes)) = some (some (.int .u64 0), 1, 8) := by kernel_rfl
theorem mk_words (n : Nat) (hn : n ≤ 17592186044416) (u : World) : (Instr.makeSlice 47 (.int .i64 n) (.int .i64 n)).run Try.prog u =
    .ok (.slice (some ⟨u.heap.size, 0, none⟩) n n) (u.alloc (.cells (madeCells #[.int .u64 0] n) 62)) := by
  obtain ⟨i0, hi, hz0, hz1, hz2⟩ := info_parts infoW
  have h := run_make (P := Try.prog) u 47 62 i0 (.int .u64 0) Try.underlying47 hi hz0 .i64 .i64 (n : Int) (n : Int) (by omega) (Int.le_refl _) (by rw [hz2]; omega) (by omega)
  simpa [hz1, Value.cells] using h
theorem infoI : (Try.prog.info? 49).map (fun i => (i.zero, i.size, i.bytes)) = some (some (.agg #[.bool false, .slice none 0 0]), 2, 32) := by kernel_rfl
theorem infoN : (Try.prog.info? 3).map (fun i => (i.zero, i.size, i.bytes)) = some (some (.int .i64 0), 1, 8) := by kernel_rfl
theorem mk_nums (l n : Nat) (hl : l ≤ n) (hn : n ≤ 17592186044416) (u : World) : (Instr.makeSlice 70 (.int .i64 l) (.int .i64 n)).run Try.prog u =
    .ok (.slice (some ⟨u.heap.size, 0, none⟩) l n) (u.alloc (.cells (madeCells #[.int .i64 0] n) 3)) := by
  obtain ⟨i0, hi, hz0, hz1, hz2⟩ := info_parts infoN
  have h := run_make (P := Try.prog) u 70 3 i0 (.int .i64 0) Try.underlying70 hi hz0 .i64 .i64 (l : Int) (n : Int) (by omega) (by omega) (by rw [hz2]; omega) (by omega)
  simpa [hz1, Value.cells] using h
theorem own_fr {k : IntKind} {w : World} {base : Nat} {e : TypeId} {v : Value} {n : Nat} {f : Nat → Int} (h : w.ownsRow base e 1 v n ((List.range n).map fun i => .int k (f i))) (hn : n ≤ 17592186044416) : FrA k e w base v n f := by
  obtain ⟨h0, h⟩ := h
  rcases h with ⟨rfl, h⟩ | ⟨g, cap, cur, rfl, h2, h3, h4, h5, h6, h7⟩
  · exact Or.inl ⟨rfl, h⟩
  · refine Or.inr ⟨g, cap, rfl, h4, hn, h2, ⟨cur, h3, by omega⟩, fun i hi => ⟨?_, ?_⟩⟩
    · rw [Nat.zero_add, cell_of_row _ _ _ _ _ _ h3]
      have := congrArg (·[i]?) h7
      rw [List.getElem?_take, if_pos (by omega)] at this
      simpa [hi] using this
    · unfold World.frozen?
      rw [show (⟨g, 0 + i, none⟩ : Addr).block = g from rfl, h3]; simp
theorem FrA.take {k : IntKind} {e : TypeId} {w : World} {base : Nat} {a : Option Addr} {n cap m : Nat} {f : Nat → Int} (h : FrA k e w base (.slice a n cap) n f) (hm : m ≤ n) : FrA k e w base (.slice a m cap) m f := by
  rcases h with ⟨h1, h2⟩ | ⟨b, cap', h1, h2, h3, h4, h5, h6⟩
  · obtain rfl : m = 0 := by omega
    simp only [Value.slice.injEq] at h1
    obtain ⟨rfl, _, rfl⟩ := h1
    exact Or.inl ⟨rfl, rfl⟩
  · simp only [Value.slice.injEq] at h1
    obtain ⟨rfl, _, rfl⟩ := h1
    exact Or.inr ⟨b, cap, rfl, by omega, by omega, h4, h5, fun i hi => h6 i (by omega)⟩
theorem FrA.slice {k : IntKind} {e : TypeId} {w : World} {base : Nat} {v : Value} {n : Nat} {f : Nat → Int} (h : FrA k e w base v n f) : ∃ a cap, v = .slice a n cap := by
  rcases h with ⟨rfl, rfl⟩ | ⟨b, cap, rfl, _⟩
  · exact ⟨_, _, rfl⟩
  · exact ⟨_, _, rfl⟩
theorem three_cells (w : World) (u v x : Value) (t : TypeId) : ∀ i y, [u, v, x][i]? = some y → (w.alloc (.cells #[u, v, x] t)).cell? ⟨w.heap.size, i, none⟩ = some y ∧ (w.alloc (.cells #[u, v, x] t)).frozen? ⟨w.heap.size, i, none⟩ = false := by
  intro i y hy
  have h := heap_alloc_new w (.cells #[u, v, x] t)
  refine ⟨by rw [cell_of_row _ _ _ _ _ _ h]; simpa using hy, ?_⟩
  unfold World.frozen?; simp only; rw [h]; simp
theorem ret_i64 {a b : Int} (h : a = b) : Ending.returned (.int .i64 a) = .returned (.int .i64 b) := by rw [h]
theorem below_drew {w w' : World} (h : Below w.drew.heap.size w.drew w') : Below w.heap.size w w' := ⟨h.os, h.tape, h.output, h.size, h.block⟩
theorem FrA.off {k : IntKind} {e : TypeId} {w : World} {base : Nat} {v : Value} {n : Nat} {f : Nat → Int} (h : FrA k e w base v n f) : v.ownBlock = none ∨ v.ownBlock ≠ some w.heap.size := by
  cases hv : v.ownBlock with
  | none => exact Or.inl rfl
  | some b => right; have := (h.lt hv).2; intro e; injection e with e; omega
end Go.Proofs.Ytejliecmdkmgiaa
namespace Go.Proofs.Ytejliecmdkmgiaa
open Go.RowKit
theorem add64 (x y c : Int) (hx : 0 ≤ x) (hy : 0 ≤ y) (hc0 : 0 ≤ c) (hc : c ≤ 1) (w : World) : (callFunc 180 #[.int .u64 x, .int .u64 y, .int .u64 c]).run Try.prog w =
    .ok (.value (.tuple #[.int .u64 ((x + y + c) % 18446744073709551616), .int .u64 ((x + y + c) / 18446744073709551616)])) w := by
  rw [run_callFunc_extern Try.func180 (by kernel_rfl) (by kernel_rfl) (by kernel_rfl) (e := add64Entry) (by kernel_rfl), run_add64 x y c hx hy hc0 hc]
  rfl
theorem add64_0 (x y : Int) (hx : 0 ≤ x) (hy : 0 ≤ y) (w : World) : (callFunc 180 #[.int .u64 x, .int .u64 y, .int .u64 0]).run Try.prog w =
    .ok (.value (.tuple #[.int .u64 ((x + y) % 18446744073709551616), .int .u64 ((x + y) / 18446744073709551616)])) w := by
  simpa using add64 x y 0 hx hy (Int.le_refl 0) (by decide) w
theorem sub64 (x y b : Int) (hx : 0 ≤ x) (hx' : x < 18446744073709551616) (hy : 0 ≤ y) (hy' : y < 18446744073709551616) (hb0 : 0 ≤ b) (hb : b ≤ 1) (w : World) : (callFunc 181 #[.int .u64 x, .int .u64 y, .int .u64 b]).run Try.prog w =
    .ok (.value (.tuple #[.int .u64 ((x - y - b) % 18446744073709551616), .int .u64 (-((x - y - b) / 18446744073709551616))])) w := by
  obtain ⟨x, rfl⟩ := Int.eq_ofNat_of_zero_le hx
  obtain ⟨y, rfl⟩ := Int.eq_ofNat_of_zero_le hy
  obtain ⟨b, rfl⟩ := Int.eq_ofNat_of_zero_le hb0
  have e1 : (((x + 18446744073709551616 - y - b) % 18446744073709551616 : Nat) : Int) = ((x : Int) - y - b) % 18446744073709551616 := by omega
  have e2 : ((if x < y + b then 1 else 0 : Nat) : Int) = -(((x : Int) - y - b) / 18446744073709551616) := by split <;> omega
  rw [← e1, ← e2, run_callFunc_extern Try.func181 (by kernel_rfl) (by kernel_rfl) (by kernel_rfl) (e := sub64Entry) (by kernel_rfl), run_sub64 x y b (by omega)]
  rfl
namespace m64
theorem maskN (a : Nat) (ha : a < 18446744073709551616) : bits .and .u64 (a : Int) 4294967295 = ((a % 4294967296 : Nat) : Int) := by
  have h := bits_and_u64_nat a 4294967295 ha (by omega)
  have e : a &&& 4294967295 = a % 4294967296 := Nat.and_two_pow_sub_one_eq_mod a 32
  rw [e] at h
  exact h
theorem divN (a : Nat) : (a : Int) / 4294967296 = ((a / 4294967296 : Nat) : Int) := by omega
theorem mulN (a b : Nat) : (a : Int) * (b : Int) = ((a * b : Nat) : Int) := (Int.natCast_mul a b).symm
theorem addN (a b : Nat) : (a : Int) + (b : Int) = ((a + b : Nat) : Int) := (Int.natCast_add a b).symm
theorem wrapN (a : Nat) (ha : a < 18446744073709551616) : IntKind.u64.wrap (a : Int) = (a : Int) := by rw [IntKind.wrap_u64]; omega
theorem wrapM (a : Nat) : IntKind.u64.wrap (a : Int) = ((a % 18446744073709551616 : Nat) : Int) := by rw [IntKind.wrap_u64]; omega
end m64
theorem Mul64_nat (x y : Nat) (hx : x < 18446744073709551616) (hy : y < 18446744073709551616) (w : World) :
    Calls Try.prog 125 #[.int .u64 x, .int .u64 y] w fun e w' => e = .returned (.tuple #[.int .u64 ((x * y / 18446744073709551616 : Nat) : Int), .int .u64 ((x * y % 18446744073709551616 : Nat) : Int)]) ∧ w' = w := by
  obtain ⟨bd, bt, bw, hhi⟩ := Lib.mul64_hi x y hx hy
  have ba := Lib.half_mul_le (a := x / 4294967296) (b := y / 4294967296) (by omega) (by omega)
  have bb := Lib.half_mul_le (a := x / 4294967296) (b := y % 4294967296) (by omega) (by omega)
  have bc := Lib.half_mul_le (a := x % 4294967296) (b := y / 4294967296) (by omega) (by omega)
  have ba' : x / 4294967296 * (y / 4294967296) < 18446744073709551616 := by omega
  have bb' : x / 4294967296 * (y % 4294967296) < 18446744073709551616 := by omega
  have bc' : x % 4294967296 * (y / 4294967296) < 18446744073709551616 := by omega
  have bh1 : x / 4294967296 * (y / 4294967296) + (x / 4294967296 * (y % 4294967296) + x % 4294967296 * (y % 4294967296) / 4294967296) / 4294967296 < 18446744073709551616 := by omega
  have bh : x / 4294967296 * (y / 4294967296) + (x / 4294967296 * (y % 4294967296) + x % 4294967296 * (y % 4294967296) / 4294967296) / 4294967296 + ((x / 4294967296 * (y % 4294967296) + x % 4294967296 * (y % 4294967296) / 4294967296) % 4294967296 + x % 4294967296 * (y / 4294967296)) / 4294967296 < 18446744073709551616 := by omega
  go_enter Try.func125, Try.ntmps125
  go_wp2
  simp only [m64.maskN x hx, m64.maskN y hy, m64.divN, m64.mulN, m64.addN, m64.wrapN _ bd, m64.wrapN _ bb', m64.wrapN _ bt, m64.maskN _ bt, m64.wrapN _ bc', m64.wrapN _ bw, m64.wrapN _ ba', m64.wrapN _ bh1, m64.wrapN _ bh, m64.wrapM (x * y)]
  rw [hhi]
  go_ret2
  exact ⟨rfl, rfl⟩
theorem Mul64_any (x y : Int) (hx : 0 ≤ x ∧ x < 18446744073709551616) (hy : 0 ≤ y ∧ y < 18446744073709551616) (w : World) :
    Calls Try.prog 125 #[.int .u64 x, .int .u64 y] w fun e w' => e = .returned (.tuple #[.int .u64 (x * y / 18446744073709551616), .int .u64 (x * y % 18446744073709551616)]) ∧ w = w' := by
  obtain ⟨x, rfl⟩ := Int.eq_ofNat_of_zero_le hx.1
  obtain ⟨y, rfl⟩ := Int.eq_ofNat_of_zero_le hy.1
  refine (Mul64_nat x y (by omega) (by omega) w).mono ?_
  rintro e w' ⟨h, rfl⟩
  refine ⟨?_, rfl⟩
  rw [h, ← Int.natCast_mul]
  generalize x * y = p
  have e1 : ((p / 18446744073709551616 : Nat) : Int) = (p : Int) / 18446744073709551616 := by omega
  have e2 : ((p % 18446744073709551616 : Nat) : Int) = (p : Int) % 18446744073709551616 := by omega
  rw [e1, e2]
end Go.Proofs.Ytejliecmdkmgiaa
namespace Go.Proofs.Ytejliecmdkmgiaa
open Go.RowKit
def sz (f : Nat → Int) : Nat → Nat
  | 0 => 0
  | n + 1 => if f n = 0 then sz f n else n + 1
theorem sz_le (f : Nat → Int) : ∀ n, sz f n ≤ n
  | 0 => Nat.le_refl _
  | n + 1 => by unfold sz; split; exact Nat.le_trans (sz_le f n) (by omega); omega
theorem sz_top (f : Nat → Int) : ∀ n, 0 < sz f n → f (sz f n - 1) ≠ 0
  | 0 => by intro h; simp [sz] at h
  | n + 1 => by
    unfold sz
    split
    · exact sz_top f n
    · intro _; simpa using by assumption
theorem sz_above (f : Nat → Int) : ∀ n i, sz f n ≤ i → i < n → f i = 0
  | 0, i => by intro _ h; omega
  | n + 1, i => by
    unfold sz
    split
    · rename_i h
      intro h1 h2
      by_cases e : i = n
      · subst e; exact h
      · exact sz_above f n i h1 (by omega)
    · intro h1 h2; omega
theorem wd_get {k : IntKind} {w : World} {v : Value} {n : Nat} {f : Nat → Int} (h : RdA k w v n f) : ∃ a cap, v = .slice a n cap ∧ n ≤ cap ∧ n ≤ 17592186044416 ∧
    (∀ i, i < n → ∃ b o, a = some ⟨b, o, none⟩ ∧ w.cell? ⟨b, o + i, none⟩ = some (.int k (f i))) := by
  obtain ⟨a, cap, e, h1, h2, h3⟩ := h
  refine ⟨a, cap, e, h1, h2, fun i hi => ?_⟩
  obtain ⟨b, o, e, h4⟩ := h3 (by omega)
  exact ⟨b, o, e, h4 i hi⟩
theorem size_any (v : Value) (n : Nat) (f : Nat → Int) (w : World) (hr : RdA .u64 w v n f) :
    Calls Try.prog 160 #[v] w fun e w' => e = .returned (.int .i64 (sz f n)) ∧ w = w' := by
  obtain ⟨a, cap, rfl, h1, h2, h3⟩ := wd_get hr
  have H3 := Lib.hid h3
  clear h3 hr
  go_enter Try.func160, Try.ntmps160
  go_wp2_with fail
  go_loop [3] (fun kv => ∃ k : Nat, k ≤ n ∧ Hid (sz f k = sz f n) ∧ kv = .int .i64 k) (fun kv => (intOf kv).toNat)
  case atStart => exact ⟨n, Nat.le_refl _, rfl, rfl⟩
  case round =>
    obtain ⟨k, k1, k2, rfl⟩ := hrel
    rcases Nat.eq_zero_or_pos k with e | hk
    · subst e
      go_wp2_with fail
      go_ret
      exact ⟨by rw [← k2.out]; rfl, rfl⟩
    · obtain ⟨b, o, rfl, hc⟩ := H3.out (k - 1) (by omega)
      have hk' : (0 : Int) < (k : Int) := by omega
      obtain ⟨x, hx⟩ : ∃ x, x = f (k - 1) := ⟨_, rfl⟩
      rw [← hx] at hc
      obtain ⟨q, hq⟩ : ∃ q, q = k - 1 := ⟨_, rfl⟩
      rw [← hq] at hc
      have hq1 : (k : Int) - 1 = (q : Int) := by omega
      have hq2 : q < n := by omega
      have HQ := Lib.hid hq
      have HX := Lib.hid hx
      clear hq hx
      by_cases hz : x = 0
      · have hzb : (x == 0) = true := beq_iff_eq.2 hz
        have HZ := Lib.hid hz
        clear hz
        go_wp2_with fail
        go_round
        case rel =>
          refine ⟨q, by omega, ?_, rfl⟩
          show _ = _
          rw [← k2.out, show k = q + 1 by have := HQ.out; omega]
          show _ = if f q = 0 then sz f q else q + 1
          rw [if_pos (by rw [HQ.out, ← HX.out]; exact HZ.out)]
        case measure => simp [intOf]; omega
      · have hzb : (x == 0) = false := beq_eq_false_iff_ne.2 hz
        have hfin : Hid (sz f n = k) := by
          show _ = _
          rw [← k2.out, show k = q + 1 by have := HQ.out; omega]
          show (if f q = 0 then sz f q else q + 1) = _
          rw [if_neg (by rw [HQ.out, ← HX.out]; exact hz)]
        clear hz
        go_wp2_with fail
        go_ret
        exact ⟨by rw [hfin.out]; rfl, rfl⟩
theorem infoW1 : (Try.prog.info? 62).map (·.size) = some 1 := by kernel_rfl
theorem own_any (v : Value) (n : Nat) (f : Nat → Int) (w : World) (hr : RdA .u64 w v n f) :
    Calls Try.prog 161 #[v] w fun e w' => ∃ b, e = .returned (.slice (some ⟨b, 0, none⟩) (sz f n) (sz f n)) ∧ w.heap.size ≤ b ∧ Blk w' b (sz f n) 62 ∧ RowAt .u64 w' b 0 (sz f n) f ∧ Below w.heap.size w w' := by
  obtain ⟨a, cap, rfl, h1, h2, h3⟩ := wd_get hr
  have hle := sz_le f n
  have hs := size_any _ n f w hr
  obtain ⟨m, hm⟩ : ∃ m, m = sz f n := ⟨_, rfl⟩
  rw [← hm] at hle hs ⊢
  have mk := mk_words m (by omega)
  have H3 := Lib.hid h3
  have HS := Lib.hid hs
  clear h3 hr hm hs
  have k1 : (w.alloc (.cells (madeCells #[Value.int .u64 0] m) 62)).heap[w.heap.size]? = some (.cells (madeCells #[Value.int .u64 0] m).toList.toArray 62 (0, 0)) := by
    simpa using heap_alloc_new w (.cells (madeCells #[Value.int .u64 0] m) 62)
  have k2 : ((List.range m).map fun i => Value.int .u64 (f i)).length = Nat.min n m := by
    rw [List.length_map, List.length_range]; show m = min n m; omega
  have k3 : 0 < ((List.range m).map fun i => Value.int .u64 (f i)).length →
      ∃ ad, a = some ad ∧ ∀ j u, ((List.range m).map fun i => Value.int .u64 (f i))[j]? = some u → (w.alloc (.cells (madeCells #[Value.int .u64 0] m) 62)).cell? (ad.add j) = some u := by
    intro hp
    obtain ⟨b, o, rfl, _⟩ := H3.out 0 (by simp at hp; omega)
    refine ⟨⟨b, o, none⟩, rfl, fun j u hj => ?_⟩
    have hjm : j < m := by have := (List.getElem?_eq_some_iff.1 hj).1; simpa using this
    obtain ⟨b', o', e, hc⟩ := H3.out j (by omega)
    injection e with e; injection e with e1 e2 _; subst e1; subst e2
    rw [Addr.add_lit]
    have : u = .int .u64 (f j) := by simp [hjm] at hj; exact hj.symm
    rw [this]
    exact cell_stays ((Below.refl _ _).alloc (Nat.le_refl _) _) hc
  have k4 : 0 + ((List.range m).map fun i => Value.int .u64 (f i)).length ≤ (madeCells #[Value.int .u64 0] m).toList.length := by simp [madeCells]
  have k5 : ∀ u ∈ ((List.range m).map fun i => Value.int .u64 (f i)), u.oneCell' = true := by
    intro u hu
    obtain ⟨i, _, rfl⟩ := List.mem_map.1 hu
    rfl
  have k6 : Below w.heap.size w (w.alloc (.cells (madeCells #[Value.int .u64 0] m) 62)) := (Below.refl _ _).alloc (Nat.le_refl _) _
  have K1 := Lib.hid k1
  have K2 := Lib.hid k2
  have K3 := Lib.hid k3
  have K4 := Lib.hid k4
  have K5 := Lib.hid k5
  clear k1 k2 k3 k4 k5
  go_enter Try.func161, Try.ntmps161
  go_wp2_with (first
    | (go_at_call 160; refine HS.out.mono ?_; rintro e w' ⟨rfl, rfl⟩)
    | (with_reducible refine wpList_copy_splice (o := ⟨some 11, _, _, _, _, _⟩) rfl (.tmp 9) (.tmp 10) 47 47 rfl 62 Try.underlying47 infoW1 (some ⟨w.heap.size, 0, none⟩) a m m n cap rfl rfl w.heap.size 0 (madeCells #[Value.int .u64 0] m).toList 62 K1.out ((List.range m).map fun i => .int .u64 (f i)) K2.out (fun hp => ⟨rfl, K3.out hp⟩) K4.out K5.out w.heap.size w k6 (Nat.le_refl _) ?_))
  · clear K1 K2 K3 K4 K5
    intro w1 hw1 hb1
    have hcl : w1.heap[w.heap.size]? = some (.cells ((List.range m).map fun i => Value.int .u64 (f i)).toArray 62 (0, 0)) := by
      have := hw1.out
      rw [this]; congr 3
      simp [splice, madeCells]
    obtain ⟨c1, c2⟩ := cells_list hcl
    have C1 := Lib.hid c1
    have C2 := Lib.hid c2
    clear hw1 hcl c1 c2
    go_wp2_with fail
    go_ret
    exact ⟨w.heap.size, rfl, Nat.le_refl _, C1.out, C2.out, hb1⟩
theorem natLeast_any (v : Value) (n : Nat) (f : Nat → Int) (w : World) (hr : RdA .u64 w v n f) :
    Calls Try.prog 107 #[v] w fun e w' => ∃ b, e = .returned (.slice (some ⟨b, 0, none⟩) (sz f n) (sz f n)) ∧ w.heap.size ≤ b ∧ Blk w' b (sz f n) 62 ∧ RowAt .u64 w' b 0 (sz f n) f ∧ Below w.heap.size w w' := by
  have H := Lib.hid (own_any v n f w hr)
  clear hr
  go_enter Try.func107, Try.ntmps107
  go_wp2_with (go_at_call 161; refine H.out.mono ?_; rintro e w1 ⟨b, rfl, h1, h2, h3, h4⟩)
  go_ret
  exact ⟨b, rfl, h1, h2, h3, h4⟩
theorem zof_any (s : Bool) (a : Option Addr) (n cap : Nat) (w : World) :
    Calls Try.prog 106 #[.bool s, .slice a n cap] w fun e w' => e = .returned (.agg #[.bool (s && decide (0 < n)), .slice a n cap]) ∧ Below w.heap.size w w' := by
  cases s with
  | false =>
    go_enter Try.func106, Try.ntmps106
    go_wp2_with fail
    exact bodyPost_ret (v := .agg #[.bool false, .slice a n cap]) (by simp [results, Try.results106, go_sem]) rfl ⟨rfl, (Below.refl _ _).alloc (Nat.le_refl _) _⟩
  | true =>
    go_enter Try.func106, Try.ntmps106
    go_wp2_with fail
    exact bodyPost_ret (v := .agg #[.bool (decide (0 < n)), .slice a n cap]) (by simp [results, Try.results106, go_sem]) rfl ⟨rfl, (Below.refl _ _).alloc (Nat.le_refl _) _⟩
def w1 (x : Int) : Nat := if x = 0 then 0 else 1
def small (x : Int) : Raw := ⟨false, w1 x, fun _ => x⟩
theorem sz_one (x : Int) : sz (fun _ => x) 1 = w1 x := by unfold sz w1; simp [sz]
theorem two_cells (w : World) (u v : Value) (t : TypeId) : (w.alloc (.cells #[u, v] t)).cell? ⟨w.heap.size, 0, none⟩ = some u ∧ (w.alloc (.cells #[u, v] t)).cell? ⟨w.heap.size, 1, none⟩ = some v ∧
    (w.alloc (.cells #[u, v] t)).frozen? ⟨w.heap.size, 0, none⟩ = false ∧ (w.alloc (.cells #[u, v] t)).frozen? ⟨w.heap.size, 1, none⟩ = false := by
  have h := heap_alloc_new w (.cells #[u, v] t)
  refine ⟨by rw [cell_of_row _ _ _ _ _ _ h]; rfl, by rw [cell_of_row _ _ _ _ _ _ h]; rfl, ?_, ?_⟩ <;> (unfold World.frozen?; simp only; rw [h]; simp)
theorem Of_any (x : Int) (h0 : 0 ≤ x) (h1 : x ≤ 9223372036854775807) (w : World) :
    Calls Try.prog 36 #[.int .i64 x] w fun e w' => ∃ b, e = .returned (.agg #[.bool false, .slice (some ⟨b, 0, none⟩) (w1 x) (w1 x)]) ∧ w.heap.size ≤ b ∧ Blk w' b (w1 x) 62 ∧ RowAt .u64 w' b 0 (w1 x) (fun _ => x) ∧ Below w.heap.size w w' := by
  obtain ⟨z0, z1, z2, z3⟩ := two_cells w (.bool false) (.slice none 0 0) 49
  have hb0 : Below w.heap.size w (w.alloc (.cells #[.bool false, .slice none 0 0] 49)) := (Below.refl _ _).alloc (Nat.le_refl _) _
  have hs0 : (w.alloc (.cells #[.bool false, .slice none 0 0] 49)).heap.size = w.heap.size + 1 := by simp
  have HB0 := Lib.hid hb0
  have Z := Lib.hid (And.intro z0 (And.intro z1 (And.intro z2 z3)))
  have HS0 := Lib.hid hs0
  clear hb0 hs0 z0 z1 z2 z3
  go_enter Try.func36, Try.ntmps36
  go_wp2_with fail
  obtain ⟨z0, z1, z2, z3⟩ := Z.out
  have hs0 := HS0.out
  rw [← hs0]
  have hb0 := HB0.out
  clear Z HS0 HB0
  generalize w.alloc (.cells #[.bool false, .slice none 0 0] 49) = W at z0 z1 z2 z3 hb0 hs0 ⊢
  have hr : RdA .u64 (W.alloc (.cells #[.int .u64 x] 62)) (.slice (some ⟨W.heap.size, 0, none⟩) 1 1) 1 (fun _ => x) := by
    refine ⟨_, 1, rfl, Nat.le_refl _, by omega, fun _ => ⟨W.heap.size, 0, rfl, fun i hi => ?_⟩⟩
    obtain rfl : i = 0 := by omega
    rw [cell_of_row _ _ _ _ _ _ (heap_alloc_new W _)]; rfl
  have hb1 : Below W.heap.size W (W.alloc (.cells #[.int .u64 x] 62)) := (Below.refl _ _).alloc (Nat.le_refl _) _
  refine (natLeast_any _ 1 _ _ hr).mono ?_
  rw [sz_one]
  rintro e w1 ⟨b, rfl, c1, c2, c3, c4⟩
  have hb2 : Below W.heap.size W w1 := hb1.trans (c4.mono (by simp))
  have y0 := cell_stays hb2 z0
  have y1 := cell_stays hb2 z1
  have y2 := froz_stays hb2 z0 z2
  have y3 := froz_stays hb2 z1 z3
  have hb3 : Below w.heap.size w w1 := hb0.trans (hb2.mono (by omega))
  have hbw : w.heap.size + 1 ≤ b := by rw [← hs0]; simp at c1; omega
  have C2 := Lib.hid c2
  have C3 := Lib.hid c3
  have HS0 := Lib.hid hs0
  clear hr hb1 c1 c2 c3 c4 hb0 hb2 z0 z1 z2 z3 hs0
  go_wp2_with (go_at_call 106; refine (zof_any false _ _ _ _).mono ?_; rintro e w3 ⟨rfl, d4⟩; have x0 := cell_stays d4 y0; have x1 := cell_stays d4 y1; have x2 := froz_stays d4 y0 y2; have x3 := froz_stays d4 y1 y3)
  have hg : w1.grownBy ((w3.setCell ⟨w.heap.size, 0, none⟩ (.bool false)).setCell ⟨w.heap.size, 1, none⟩ (.slice (some ⟨b, 0, none⟩) (Ytejliecmdkmgiaa.w1 x) (Ytejliecmdkmgiaa.w1 x))) (some w.heap.size) :=
    gb_trans (gb_below d4 _) (gb_trans (gb_set _ _ _) (gb_set _ _ _))
  refine bodyPost_ret (v := .agg #[.bool false, .slice (some ⟨b, 0, none⟩) (Ytejliecmdkmgiaa.w1 x) (Ytejliecmdkmgiaa.w1 x)]) ?_ rfl ⟨b, rfl, by omega, C2.out.grown hg (by simp; omega), C3.out.gb hg (by simp; omega), hb3.grown hg hb3.size (fun k hk => by injection hk with hk; omega)⟩
  simp [results, Try.results36, go_sem, x0, x1]
end Go.Proofs.Ytejliecmdkmgiaa
namespace Go.Proofs.Ytejliecmdkmgiaa
def dv (B : Int) (f : Nat → Int) : Nat → Int
  | 0 => 0
  | n + 1 => dv B f n + f n * B ^ n
structure Dig (B : Int) (n : Nat) (f : Nat → Int) (N : Int) : Prop where
  bd : ∀ i, i < n → 0 ≤ f i ∧ f i < B
  top : 0 < n → f (n - 1) ≠ 0
  val : dv B f n = N
theorem dv_congr {B : Int} {f g : Nat → Int} : ∀ {n : Nat}, (∀ i, i < n → f i = g i) → dv B f n = dv B g n
  | 0, _ => rfl
  | n + 1, h => by simp only [dv]; rw [dv_congr (fun i hi => h i (by omega)), h n (by omega)]
theorem pow_pos' {B : Int} (hB : 0 < B) : ∀ n : Nat, 0 < B ^ n
  | 0 => by simp
  | n + 1 => by rw [Int.pow_succ]; exact Int.mul_pos (pow_pos' hB n) hB
theorem dv_bd {B : Int} (hB : 0 < B) {f : Nat → Int} : ∀ {n : Nat}, (∀ i, i < n → 0 ≤ f i ∧ f i < B) → 0 ≤ dv B f n ∧ dv B f n < B ^ n
  | 0, _ => by simp [dv]
  | n + 1, h => by
    obtain ⟨h1, h2⟩ := dv_bd hB (n := n) (fun i hi => h i (by omega))
    obtain ⟨h3, h4⟩ := h n (by omega)
    have hp := pow_pos' hB n
    simp only [dv]
    have a1 : 0 ≤ f n * B ^ n := Int.mul_nonneg h3 (by omega)
    have a2 : f n * B ^ n ≤ (B - 1) * B ^ n := Int.mul_le_mul_of_nonneg_right (by omega) (by omega)
    rw [Int.sub_mul, Int.one_mul] at a2
    rw [Int.pow_succ, Int.mul_comm (B ^ n) B]
    omega
theorem dv_split (B : Int) (f : Nat → Int) (a : Nat) : ∀ b, dv B f (a + b) = dv B f a + B ^ a * dv B (fun i => f (a + i)) b
  | 0 => by simp [dv]
  | b + 1 => by
    rw [← Nat.add_assoc]
    simp only [dv]
    rw [dv_split B f a b, Int.mul_add, Int.pow_add]
    grind
theorem dv_zero {B : Int} {f : Nat → Int} : ∀ {n : Nat}, (∀ i, i < n → f i = 0) → dv B f n = 0
  | 0, _ => rfl
  | n + 1, h => by simp only [dv]; rw [dv_zero (fun i hi => h i (by omega)), h n (by omega)]; simp
theorem dv_more {B : Int} {f : Nat → Int} {m n : Nat} (hmn : m ≤ n) (h : ∀ i, m ≤ i → i < n → f i = 0) : dv B f n = dv B f m := by
  obtain ⟨d, rfl⟩ : ∃ d, n = m + d := ⟨n - m, by omega⟩
  rw [dv_split, dv_zero (fun i hi => h (m + i) (by omega) (by omega))]; simp
theorem natFrom_dv (f : Nat → Int) : ∀ (m i : Nat), natFrom f i m = dv 18446744073709551616 (fun k => f (i + k)) m
  | 0, _ => rfl
  | m + 1, i => by
    show f i + 18446744073709551616 * natFrom f (i + 1) m = _
    rw [natFrom_dv f m (i + 1), Nat.add_comm m 1, dv_split]
    simp only [dv, Nat.add_zero, Int.pow_zero, Int.mul_one, Int.zero_add, Int.pow_succ, Int.one_mul]
    congr 2
    exact dv_congr fun k _ => by rw [Nat.add_assoc]
theorem natFrom_dv0 (f : Nat → Int) (m : Nat) : natFrom f 0 m = dv 18446744073709551616 f m := by
  rw [natFrom_dv]; exact dv_congr fun k _ => by rw [Nat.zero_add]
theorem dig_sz {B : Int} {f : Nat → Int} {n : Nat} (h : ∀ i, i < n → 0 ≤ f i ∧ f i < B) : Dig B (sz f n) f (dv B f n) :=
  ⟨fun i hi => h i (by have := sz_le f n; omega), fun hp => sz_top f n hp, (dv_more (sz_le f n) (fun i h1 h2 => sz_above f n i h1 h2)).symm⟩
theorem Dig.nonneg {B : Int} (hB : 0 < B) {n : Nat} {f : Nat → Int} {N : Int} (h : Dig B n f N) : 0 ≤ N := by rw [← h.val]; exact (dv_bd hB h.bd).1
theorem Dig.congr {B : Int} {n : Nat} {f g : Nat → Int} {N : Int} (h : Dig B n f N) (e : ∀ i, i < n → f i = g i) : Dig B n g N :=
  ⟨fun i hi => by rw [← e i hi]; exact h.bd i hi, fun hp => by rw [← e (n - 1) (by omega)]; exact h.top hp, by rw [← h.val]; exact (dv_congr e).symm⟩
theorem Dig.ge {B : Int} (hB : 0 < B) {n : Nat} {f : Nat → Int} {N : Int} (h : Dig B n f N) (hn : 0 < n) : B ^ (n - 1) ≤ N := by
  obtain ⟨m, rfl⟩ : ∃ m, n = m + 1 := ⟨n - 1, by omega⟩
  have h1 := h.top hn
  simp only [Nat.add_sub_cancel] at h1 ⊢
  have h2 := h.bd m (by omega)
  have h3 := dv_bd hB (fun i hi => h.bd i (show i < m + 1 by omega)) (n := m)
  have hp := pow_pos' hB m
  have h4 : 1 * B ^ m ≤ f m * B ^ m := Int.mul_le_mul_of_nonneg_right (by omega) (by omega)
  rw [← h.val]; simp only [dv]; omega
theorem Dig.lt {B : Int} (hB : 0 < B) {n : Nat} {f : Nat → Int} {N : Int} (h : Dig B n f N) : N < B ^ n := by rw [← h.val]; exact (dv_bd hB h.bd).2
theorem pow_le' {B : Int} (hB : 1 ≤ B) {m n : Nat} (h : m ≤ n) : B ^ m ≤ B ^ n := by
  obtain ⟨d, rfl⟩ : ∃ d, n = m + d := ⟨n - m, by omega⟩
  rw [Int.pow_add]
  have h1 := pow_pos' (show 0 < B by omega) m
  have h2 := pow_pos' (show 0 < B by omega) d
  have := Int.mul_le_mul_of_nonneg_left (show 1 ≤ B ^ d by omega) (show 0 ≤ B ^ m by omega)
  omega
theorem Dig.len {B : Int} (hB : 1 < B) {n : Nat} {f : Nat → Int} {N : Int} (h : Dig B n f N) {k : Nat} (hk : N < B ^ k) : n ≤ k := by
  refine Nat.le_of_not_lt fun hlt => ?_
  have h1 := h.ge (by omega) (by omega)
  have h2 := pow_le' (B := B) (by omega) (show k ≤ n - 1 by omega)
  omega
theorem dv_digit {B : Int} (hB : 0 < B) {f : Nat → Int} {n : Nat} (h : ∀ i, i < n → 0 ≤ f i ∧ f i < B) {i : Nat} (hi : i < n) : f i = dv B f n / B ^ i % B := by
  obtain ⟨d, rfl⟩ : ∃ d, n = i + (1 + d) := ⟨n - i - 1, by omega⟩
  have hb := dv_bd hB (fun k hk => h k (show k < i + (1 + d) by omega)) (n := i)
  have hp := pow_pos' hB i
  rw [dv_split, Int.add_mul_ediv_left _ _ (by omega), Int.ediv_eq_zero_of_lt hb.1 hb.2, Int.zero_add, dv_split]
  simp only [dv, Int.pow_zero, Int.mul_one, Int.zero_add, Nat.add_zero, Int.pow_succ, Int.one_mul]
  rw [Int.add_mul_emod_self_left]
  exact (Int.emod_eq_of_lt (h i hi).1 (h i hi).2).symm
theorem Dig.unique {B : Int} (hB : 1 < B) {n m : Nat} {f g : Nat → Int} {N : Int} (h : Dig B n f N) (h' : Dig B m g N) : n = m ∧ ∀ i, i < n → f i = g i := by
  have e : n = m := by
    have h1 := h.len hB (h'.lt (by omega))
    have h2 := h'.len hB (h.lt (by omega))
    omega
  subst e
  exact ⟨rfl, fun i hi => by rw [dv_digit (by omega) h.bd hi, dv_digit (by omega) h'.bd hi, h.val, h'.val]⟩
theorem Dig.zero_iff {B : Int} (hB : 1 < B) {n : Nat} {f : Nat → Int} {N : Int} (h : Dig B n f N) : n = 0 ↔ N = 0 := by
  constructor
  · intro e; subst e; rw [← h.val]; rfl
  · intro e
    refine Classical.byContradiction fun hne => ?_
    have h1 := h.ge (by omega) (by omega)
    have h2 := pow_pos' (show 0 < B by omega) (n - 1)
    omega
theorem Dig.lt_of_len {B : Int} (hB : 1 < B) {n m : Nat} {f g : Nat → Int} {N M : Int} (h : Dig B n f N) (h' : Dig B m g M) (hl : n < m) : N < M := by
  have h1 := h.lt (by omega)
  have h2 := h'.ge (by omega) (by omega)
  have h3 := pow_le' (B := B) (by omega) (show n ≤ m - 1 by omega)
  omega
theorem dv_lt {B : Int} (hB : 0 < B) {f g : Nat → Int} {n : Nat} (hf : ∀ i, i < n → 0 ≤ f i ∧ f i < B) (hg : ∀ i, i < n → 0 ≤ g i ∧ g i < B) {k : Nat} (hk : k < n) (he : ∀ i, k < i → i < n → f i = g i) (hlt : f k < g k) : dv B f n < dv B g n := by
  obtain ⟨d, rfl⟩ : ∃ d, n = (k + 1) + d := ⟨n - (k + 1), by omega⟩
  rw [dv_split, dv_split (f := g), dv_congr (f := fun i => f (k + 1 + i)) (g := fun i => g (k + 1 + i)) (fun i hi => he _ (by omega) (by omega))]
  simp only [dv]
  have h1 := dv_bd hB (fun i hi => hf i (show i < (k + 1) + d by omega)) (n := k)
  have h2 := dv_bd hB (fun i hi => hg i (show i < (k + 1) + d by omega)) (n := k)
  have hp := pow_pos' hB k
  have h3 : (f k + 1) * B ^ k ≤ g k * B ^ k := Int.mul_le_mul_of_nonneg_right (by omega) (by omega)
  rw [Int.add_mul, Int.one_mul] at h3
  omega
def spl (f : Nat → Int) (t : Nat) : Int := f (t / 4) / 65536 ^ (t % 4) % 65536
theorem spl_bd (f : Nat → Int) (t : Nat) : 0 ≤ spl f t ∧ spl f t < 65536 := ⟨Int.emod_nonneg _ (by omega), Int.emod_lt_of_pos _ (by omega)⟩
theorem spl_at (f : Nat → Int) (j k : Nat) (hk : k < 4) : spl f (4 * j + k) = f j / 65536 ^ k % 65536 := by
  unfold spl
  rw [show (4 * j + k) / 4 = j by omega, show (4 * j + k) % 4 = k by omega]
theorem spl_dv (f : Nat → Int) : ∀ n, (∀ i, i < n → 0 ≤ f i ∧ f i < 18446744073709551616) → dv 65536 (spl f) (4 * n) = dv 18446744073709551616 f n
  | 0, _ => rfl
  | n + 1, h => by
    have ih := spl_dv f n (fun i hi => h i (by omega))
    have hb := h n (by omega)
    rw [show 4 * (n + 1) = 4 * n + 4 by omega, dv_split, ih]
    simp only [dv]
    have e0 := spl_at f n 0 (by omega)
    have e1 := spl_at f n 1 (by omega)
    have e2 := spl_at f n 2 (by omega)
    have e3 := spl_at f n 3 (by omega)
    have hp : (65536 : Int) ^ (4 * n) = 18446744073709551616 ^ n := by rw [Int.pow_mul]; rfl
    simp only [Nat.zero_add, Int.zero_add, Nat.add_zero] at *
    rw [e0, e1, e2, e3, hp, Int.mul_comm (f n)]
    congr 2
    have p1 : (65536 : Int) ^ 1 = 65536 := rfl
    have p2 : (65536 : Int) ^ 2 = 4294967296 := rfl
    have p3 : (65536 : Int) ^ 3 = 281474976710656 := rfl
    rw [Int.pow_zero, p1, p2, p3]
    omega
theorem Dig.split {n : Nat} {f : Nat → Int} (h : ∀ i, i < n → 0 ≤ f i ∧ f i < 18446744073709551616) : Dig 65536 (sz (spl f) (4 * n)) (spl f) (dv 18446744073709551616 f n) := by
  rw [← spl_dv f n h]; exact dig_sz fun i _ => spl_bd f i
end Go.Proofs.Ytejliecmdkmgiaa
namespace Go.Proofs.Ytejliecmdkmgiaa
def wc (X Y : Nat → Int) : Nat → Int
  | 0 => 0
  | i + 1 => (X i + Y i + wc X Y i) / 18446744073709551616
def wd (X Y : Nat → Int) (i : Nat) : Int := (X i + Y i + wc X Y i) % 18446744073709551616
theorem wc_bd {X Y : Nat → Int} : ∀ i, (∀ k, k < i → 0 ≤ X k ∧ X k < 18446744073709551616) → (∀ k, k < i → 0 ≤ Y k ∧ Y k < 18446744073709551616) → 0 ≤ wc X Y i ∧ wc X Y i ≤ 1
  | 0, _, _ => by simp [wc]
  | i + 1, hX, hY => by
    have := wc_bd i (fun k hk => hX k (by omega)) (fun k hk => hY k (by omega))
    have := hX i (by omega)
    have := hY i (by omega)
    simp only [wc]; omega
theorem wd_bd (X Y : Nat → Int) (i : Nat) : 0 ≤ wd X Y i ∧ wd X Y i < 18446744073709551616 := by unfold wd; omega
theorem wc_dv (X Y : Nat → Int) : ∀ i, dv 18446744073709551616 (wd X Y) i + wc X Y i * 18446744073709551616 ^ i = dv 18446744073709551616 X i + dv 18446744073709551616 Y i
  | 0 => by simp [dv, wc]
  | i + 1 => by
    have ih := wc_dv X Y i
    simp only [dv, wc, Int.pow_succ]
    have e : wd X Y i = X i + Y i + wc X Y i - 18446744073709551616 * ((X i + Y i + wc X Y i) / 18446744073709551616) := by unfold wd; omega
    rw [e]
    obtain ⟨q, hq⟩ : ∃ q, q = (X i + Y i + wc X Y i) / 18446744073709551616 := ⟨_, rfl⟩
    rw [← hq]
    grind
theorem wd_done {X Y : Nat → Int} {k n : Nat} (hX : ∀ i, i < n → 0 ≤ X i ∧ X i < 18446744073709551616) (hY : ∀ i, k ≤ i → Y i = 0) (hc : wc X Y k = 0) : ∀ i, k ≤ i → i < n → wc X Y i = 0 ∧ wd X Y i = X i := by
  intro i
  induction i with
  | zero =>
    intro h1 h2
    obtain rfl : k = 0 := by omega
    have := hX 0 h2
    refine ⟨rfl, ?_⟩
    unfold wd
    rw [hY 0 (by omega), hc]; omega
  | succ i ih =>
    intro h1 h2
    have hx := hX (i + 1) h2
    have hy := hY (i + 1) h1
    have h0 : wc X Y (i + 1) = 0 := by
      by_cases e : k = i + 1
      · rw [← e]; exact hc
      · obtain ⟨a, b⟩ := ih (by omega) (by omega)
        have := hX i (by omega)
        simp only [wc]
        rw [hY i (by omega), a]; omega
    refine ⟨h0, ?_⟩
    unfold wd
    rw [hy, h0]; omega
theorem wd_val {X Y : Nat → Int} {n : Nat} (hX : ∀ i, i < n → 0 ≤ X i ∧ X i < 18446744073709551616) (hY : ∀ i, i < n → 0 ≤ Y i ∧ Y i < 18446744073709551616)
    (h : dv 18446744073709551616 X n + dv 18446744073709551616 Y n < 18446744073709551616 ^ n) : dv 18446744073709551616 (wd X Y) n = dv 18446744073709551616 X n + dv 18446744073709551616 Y n := by
  have h1 := wc_dv X Y n
  have h2 := wc_bd n hX hY
  have h3 := (dv_bd (B := 18446744073709551616) (f := wd X Y) (by omega) (fun i (_ : i < n) => wd_bd X Y i)).1
  rcases (by omega : wc X Y n = 0 ∨ wc X Y n = 1) with e | e
  · rw [e] at h1; omega
  · rw [e] at h1; omega
def wb (X Y : Nat → Int) : Nat → Int
  | 0 => 0
  | i + 1 => if X i < Y i + wb X Y i then 1 else 0
def we (X Y : Nat → Int) (i : Nat) : Int := (X i - Y i - wb X Y i) % 18446744073709551616
theorem wb_bd (X Y : Nat → Int) : ∀ i, 0 ≤ wb X Y i ∧ wb X Y i ≤ 1
  | 0 => by simp [wb]
  | i + 1 => by simp only [wb]; split <;> omega
theorem we_bd (X Y : Nat → Int) (i : Nat) : 0 ≤ we X Y i ∧ we X Y i < 18446744073709551616 := by unfold we; omega
theorem wb_dv (X Y : Nat → Int) : ∀ i, (∀ k, k < i → 0 ≤ X k ∧ X k < 18446744073709551616) → (∀ k, k < i → 0 ≤ Y k ∧ Y k < 18446744073709551616) →
    dv 18446744073709551616 (we X Y) i - wb X Y i * 18446744073709551616 ^ i = dv 18446744073709551616 X i - dv 18446744073709551616 Y i
  | 0, _, _ => by simp [dv, wb]
  | i + 1, hX, hY => by
    have ih := wb_dv X Y i (fun k hk => hX k (by omega)) (fun k hk => hY k (by omega))
    have hx := hX i (by omega)
    have hy := hY i (by omega)
    have hb := wb_bd X Y i
    simp only [dv, wb, Int.pow_succ]
    by_cases c : X i < Y i + wb X Y i
    · rw [if_pos c]
      have e : we X Y i = X i - Y i - wb X Y i + 18446744073709551616 := by unfold we; omega
      rw [e]; grind
    · rw [if_neg c]
      have e : we X Y i = X i - Y i - wb X Y i := by unfold we; omega
      rw [e]; grind
theorem we_done {X Y : Nat → Int} {k n : Nat} (hX : ∀ i, i < n → 0 ≤ X i ∧ X i < 18446744073709551616) (hY : ∀ i, k ≤ i → Y i = 0) (hc : wb X Y k = 0) : ∀ i, k ≤ i → i < n → wb X Y i = 0 ∧ we X Y i = X i := by
  intro i
  induction i with
  | zero =>
    intro h1 h2
    obtain rfl : k = 0 := by omega
    have := hX 0 h2
    refine ⟨rfl, ?_⟩
    unfold we
    rw [hY 0 (by omega), hc]; omega
  | succ i ih =>
    intro h1 h2
    have hx := hX (i + 1) h2
    have hy := hY (i + 1) h1
    have h0 : wb X Y (i + 1) = 0 := by
      by_cases e : k = i + 1
      · rw [← e]; exact hc
      · obtain ⟨a, b⟩ := ih (by omega) (by omega)
        have := hX i (by omega)
        simp only [wb]
        rw [hY i (by omega), a, if_neg (by omega)]
    refine ⟨h0, ?_⟩
    unfold we
    rw [hy, h0]; omega
theorem we_val {X Y : Nat → Int} {n : Nat} (hX : ∀ i, i < n → 0 ≤ X i ∧ X i < 18446744073709551616) (hY : ∀ i, i < n → 0 ≤ Y i ∧ Y i < 18446744073709551616)
    (h : dv 18446744073709551616 Y n ≤ dv 18446744073709551616 X n) : dv 18446744073709551616 (we X Y) n = dv 18446744073709551616 X n - dv 18446744073709551616 Y n := by
  have h1 := wb_dv X Y n hX hY
  have h2 := wb_bd X Y n
  have h3 := (dv_bd (B := 18446744073709551616) (f := we X Y) (by omega) (fun i (_ : i < n) => we_bd X Y i)).2
  rcases (by omega : wb X Y n = 0 ∨ wb X Y n = 1) with e | e
  · rw [e] at h1; omega
  · rw [e] at h1; omega
def zw (f : Nat → Int) (n i : Nat) : Int := if i < n then f i else 0
theorem zw_bd {B : Int} (hB : 0 < B) {f : Nat → Int} {n : Nat} (h : ∀ i, i < n → 0 ≤ f i ∧ f i < B) (i : Nat) : 0 ≤ zw f n i ∧ zw f n i < B := by
  unfold zw; split
  · exact h i (by assumption)
  · omega
theorem zw_dv {B : Int} {f : Nat → Int} {n m : Nat} (h : n ≤ m) : dv B (zw f n) m = dv B f n := by
  rw [dv_more (f := zw f n) h (fun i hi _ => if_neg (by omega))]
  exact dv_congr fun i hi => if_pos hi
def mc (z Y : Nat → Int) (x : Int) : Nat → Int
  | 0 => 0
  | j + 1 => (z j + x * Y j + mc z Y x j) / 18446744073709551616
def md (z Y : Nat → Int) (x : Int) (j : Nat) : Int := (z j + x * Y j + mc z Y x j) % 18446744073709551616
theorem md_bd (z Y : Nat → Int) (x : Int) (i : Nat) : 0 ≤ md z Y x i ∧ md z Y x i < 18446744073709551616 := by unfold md; omega
theorem word_mul {x y : Int} (hx : 0 ≤ x ∧ x < 18446744073709551616) (hy : 0 ≤ y ∧ y < 18446744073709551616) : 0 ≤ x * y ∧ x * y ≤ 340282366920938463426481119284349108225 := by
  refine ⟨Int.mul_nonneg hx.1 hy.1, ?_⟩
  have h1 : x * y ≤ 18446744073709551615 * y := Int.mul_le_mul_of_nonneg_right (by omega) hy.1
  omega
theorem mc_bd {z Y : Nat → Int} {x : Int} (hx : 0 ≤ x ∧ x < 18446744073709551616) : ∀ i, (∀ k, k < i → 0 ≤ z k ∧ z k < 18446744073709551616) → (∀ k, k < i → 0 ≤ Y k ∧ Y k < 18446744073709551616) → 0 ≤ mc z Y x i ∧ mc z Y x i < 18446744073709551616
  | 0, _, _ => by simp [mc]
  | i + 1, hz, hY => by
    have h1 := mc_bd hx i (fun k hk => hz k (by omega)) (fun k hk => hY k (by omega))
    have h2 := hz i (by omega)
    have h3 := word_mul hx (hY i (by omega))
    simp only [mc]
    generalize x * Y i = t at *
    omega
theorem mc_dv (z Y : Nat → Int) (x : Int) : ∀ i, dv 18446744073709551616 (md z Y x) i + mc z Y x i * 18446744073709551616 ^ i = dv 18446744073709551616 z i + x * dv 18446744073709551616 Y i
  | 0 => by simp [dv, mc]
  | i + 1 => by
    have ih := mc_dv z Y x i
    simp only [dv, mc, Int.pow_succ]
    have e : md z Y x i = z i + x * Y i + mc z Y x i - 18446744073709551616 * ((z i + x * Y i + mc z Y x i) / 18446744073709551616) := by
      unfold md
      generalize z i + x * Y i + mc z Y x i = t
      omega
    rw [e]
    obtain ⟨q, hq⟩ : ∃ q, q = (z i + x * Y i + mc z Y x i) / 18446744073709551616 := ⟨_, rfl⟩
    rw [← hq]
    grind
theorem md_step {z x y c hi lo l2 c2 : Int} (hz : 0 ≤ z ∧ z < 18446744073709551616) (hx : 0 ≤ x ∧ x < 18446744073709551616) (hy : 0 ≤ y ∧ y < 18446744073709551616) (hc : 0 ≤ c ∧ c < 18446744073709551616)
    (e1 : hi = x * y / 18446744073709551616) (e2 : lo = x * y % 18446744073709551616) (e3 : l2 = (lo + c) % 18446744073709551616) (e4 : c2 = (lo + c) / 18446744073709551616) :
    0 ≤ hi + c2 ∧ hi + c2 < 18446744073709551616 ∧ (z + l2) % 18446744073709551616 = (z + x * y + c) % 18446744073709551616 ∧
      hi + c2 + (z + l2) / 18446744073709551616 = (z + x * y + c) / 18446744073709551616 ∧ (z + x * y + c) / 18446744073709551616 < 18446744073709551616 := by
  have h := word_mul hx hy
  generalize x * y = t at *
  subst e1 e2 e3 e4
  omega
def rowz (z Y : Nat → Int) (x : Int) (i m t : Nat) : Int := if i ≤ t ∧ t < i + m then md (fun j => z (i + j)) Y x (t - i) else if t = i + m then mc (fun j => z (i + j)) Y x m else z t
theorem rowz_val {z Y X : Nat → Int} {i m : Nat} (hz0 : ∀ t, i + m ≤ t → z t = 0) (hv : dv 18446744073709551616 z (i + m) = dv 18446744073709551616 X i * dv 18446744073709551616 Y m) :
    dv 18446744073709551616 (rowz z Y (X i) i m) (i + 1 + m) = dv 18446744073709551616 X (i + 1) * dv 18446744073709551616 Y m := by
  rw [show i + 1 + m = (i + m) + 1 by omega]
  simp only [dv]
  rw [dv_split] at hv ⊢
  have e1 : dv 18446744073709551616 (rowz z Y (X i) i m) i = dv 18446744073709551616 z i := dv_congr fun t ht => by unfold rowz; rw [if_neg (by omega), if_neg (by omega)]
  have e2 : dv 18446744073709551616 (fun t => rowz z Y (X i) i m (i + t)) m = dv 18446744073709551616 (md (fun j => z (i + j)) Y (X i)) m := dv_congr fun t ht => by unfold rowz; rw [if_pos (by omega)]; congr 1; omega
  have e3 : rowz z Y (X i) i m (i + m) = mc (fun j => z (i + j)) Y (X i) m := by unfold rowz; rw [if_neg (by omega), if_pos rfl]
  rw [e1, e2, e3, Int.pow_add]
  have h := mc_dv (fun j => z (i + j)) Y (X i) m
  generalize mc (fun j => z (i + j)) Y (X i) m = c at *
  grind
end Go.Proofs.Ytejliecmdkmgiaa
namespace Go.Proofs.Ytejliecmdkmgiaa
open Go.RowKit
def FrN (w : World) (base : Nat) (v : Value) (N : Int) : Prop := ∃ n f, FrA .u64 62 w base v n f ∧ Dig 18446744073709551616 n f N
def RdZ (w : World) (v : Value) (z : Int) : Prop := ∃ r : Raw, RdI w v r ∧ r.val = z ∧ r.n ≤ 274877906944
def FrZ (w : World) (base : Nat) (v : Value) (z : Int) : Prop := ∃ m n f, v = .agg #[.bool (decide (z < 0)), m] ∧ FrA .u64 62 w base m n f ∧ Dig 18446744073709551616 n f (z.natAbs : Int)
def ZB (S : Nat) (z : Int) : Prop := (z.natAbs : Int) < 18446744073709551616 ^ S
theorem Dig.words {n : Nat} {f : Nat → Int} {N : Int} (h : Dig 18446744073709551616 n f N) : Words n f := fun i hi => by have := h.bd i hi; omega
theorem words_bd {n : Nat} {f : Nat → Int} (h : Words n f) : ∀ i, i < n → 0 ≤ f i ∧ f i < 18446744073709551616 := fun i hi => by have := h i hi; omega
theorem natFrom_bd {n : Nat} {f : Nat → Int} (h : Words n f) : 0 ≤ natFrom f 0 n ∧ natFrom f 0 n < 18446744073709551616 ^ n := by
  rw [natFrom_dv0]; exact dv_bd (by omega) (words_bd h)
theorem ZB.mono {S T : Nat} {z : Int} (h : ZB S z) (hST : S ≤ T) : ZB T z := Int.lt_of_lt_of_le h (pow_le' (by omega) hST)
theorem RdI.zb {w : World} {v : Value} {r : Raw} (h : RdI w v r) : ZB r.n r.val := by
  obtain ⟨m, _, h⟩ := h
  have := natFrom_bd h.2
  unfold ZB Raw.val Raw.mag
  split <;> omega
theorem ZB.add {S T : Nat} {x y : Int} (hx : ZB S x) (hy : ZB T y) : ZB (S + T + 1) (x + y) := by
  unfold ZB at *
  have h1 := pow_le' (B := 18446744073709551616) (by omega) (show S ≤ S + T by omega)
  have h2 := pow_le' (B := 18446744073709551616) (by omega) (show T ≤ S + T by omega)
  have h3 : (18446744073709551616 : Int) ^ (S + T + 1) = 18446744073709551616 ^ (S + T) * 18446744073709551616 := Int.pow_succ _ _
  omega
theorem ZB.neg {S : Nat} {x : Int} (hx : ZB S x) : ZB S (-x) := by unfold ZB at *; rw [Int.natAbs_neg]; exact hx
theorem ZB.mul {S T : Nat} {x y : Int} (hx : ZB S x) (hy : ZB T y) : ZB (S + T) (x * y) := by
  unfold ZB at *
  rw [Int.natAbs_mul, Int.pow_add]
  push_cast
  have h1 := pow_pos' (show (0 : Int) < 18446744073709551616 by omega) S
  have h2 : (x.natAbs : Int) * y.natAbs ≤ x.natAbs * 18446744073709551616 ^ T := Int.mul_le_mul_of_nonneg_left (by omega) (by omega)
  have h3 : (x.natAbs : Int) * 18446744073709551616 ^ T < 18446744073709551616 ^ S * 18446744073709551616 ^ T := Int.mul_lt_mul_of_pos_right hx (pow_pos' (by omega) T)
  omega
theorem FrZ.rd {w : World} {base : Nat} {v : Value} {z : Int} (h : FrZ w base v z) {S : Nat} (hz : ZB S z) (hS : S ≤ 274877906944) : RdZ w v z := by
  obtain ⟨m, n, f, rfl, h1, h2⟩ := h
  have hn : n ≤ S := h2.len (by omega) hz
  refine ⟨⟨decide (z < 0), n, f⟩, ⟨m, rfl, h1.read, h2.words⟩, ?_, by show n ≤ _; omega⟩
  unfold Raw.val Raw.mag
  simp only [natFrom_dv0, h2.val]
  by_cases hneg : z < 0
  · rw [decide_eq_true hneg, if_pos rfl]; omega
  · rw [decide_eq_false hneg, if_neg (by simp)]; omega
theorem FrZ.below {w w' : World} {base : Nat} {v : Value} {z : Int} (h : FrZ w base v z) (hb : Below w.heap.size w w') : FrZ w' base v z := by
  obtain ⟨m, n, f, e, h1, h2⟩ := h
  exact ⟨m, n, f, e, h1.below hb, h2⟩
theorem FrZ.mono {w : World} {base base' : Nat} {v : Value} {z : Int} (h : FrZ w base v z) (hb : base' ≤ base) : FrZ w base' v z := by
  obtain ⟨m, n, f, e, h1, h2⟩ := h
  exact ⟨m, n, f, e, h1.mono hb, h2⟩
theorem RdZ.below {w w' : World} {v : Value} {z : Int} (h : RdZ w v z) (hb : Below w.heap.size w w') : RdZ w' v z := by
  obtain ⟨r, h1, h2⟩ := h
  exact ⟨r, h1.below hb, h2⟩
theorem cells2 (w : World) (u v : Value) (t : TypeId) : ∀ i y, [u, v][i]? = some y → (w.alloc (.cells #[u, v] t)).cell? ⟨w.heap.size, i, none⟩ = some y ∧ (w.alloc (.cells #[u, v] t)).frozen? ⟨w.heap.size, i, none⟩ = false := by
  intro i y hy
  have h := heap_alloc_new w (.cells #[u, v] t)
  refine ⟨by rw [cell_of_row _ _ _ _ _ _ h]; simpa using hy, ?_⟩
  unfold World.frozen?; simp only; rw [h]; simp
def stored2 (w3 : World) (b : Nat) (u v : Value) : World := (w3.setCell ⟨b, 0, none⟩ u).setCell ⟨b, 1, none⟩ v
theorem stored2_gb (w3 : World) (b : Nat) (u v : Value) : w3.grownBy (stored2 w3 b u v) (some b) := gb_trans (gb_set _ _ _) (gb_set _ _ _)
theorem stored2_fr {k : IntKind} {e : TypeId} {w3 : World} {b : Nat} {x : Value} {n : Nat} {f : Nat → Int} (h : FrA k e w3 (b + 1) x n f) (u v : Value) : FrA k e (stored2 w3 b u v) b x n f := by
  refine (h.grown (stored2_gb w3 b u v) ?_).mono (by omega)
  cases hb : x.ownBlock with
  | none => exact Or.inl rfl
  | some k => right; have := (h.lt hb).1; intro e; injection e with e; omega
theorem FrZ.stored {w3 : World} {b : Nat} {v : Value} {z : Int} (h : FrZ w3 (b + 1) v z) : ∃ a n cap, v = .agg #[.bool (decide (z < 0)), .slice a n cap] ∧ FrZ (stored2 w3 b (.bool (decide (z < 0))) (.slice a n cap)) b v z := by
  obtain ⟨m, n, f, rfl, h1, h2⟩ := h
  obtain ⟨a, cap, rfl⟩ := h1.slice
  exact ⟨a, n, cap, rfl, _, n, f, rfl, stored2_fr h1 _ _, h2⟩
theorem FrN.nat {w : World} {base : Nat} {v : Value} {N : Int} (h : FrN w base v N) : ∃ a n cap f, v = .slice a n cap ∧ FrA .u64 62 w base (.slice a n cap) n f ∧ Dig 18446744073709551616 n f N := by
  obtain ⟨n, f, h1, h2⟩ := h
  obtain ⟨a, cap, rfl⟩ := h1.slice
  exact ⟨a, n, cap, f, rfl, h1, h2⟩
def cmpZ (N M : Int) : Int := if N < M then -1 else if M < N then 1 else 0
end Go.Proofs.Ytejliecmdkmgiaa
namespace Go.Proofs.Ytejliecmdkmgiaa.num
theorem and_mask (a : Int) (k : Nat) (h0 : 0 ≤ a) (h1 : a < 18446744073709551616) (hk : k < 64) : bits .and .u64 a ((2 ^ k - 1 : Nat) : Int) = a % ((2 ^ k : Nat) : Int) := by
  have hp : 2 ^ k - 1 < 18446744073709551616 := by
    have : 2 ^ k < 2 ^ 64 := Nat.pow_lt_pow_right (by omega) hk
    omega
  obtain ⟨A, rfl⟩ := Int.eq_ofNat_of_zero_le h0
  rw [u64_and_nat A _ (by omega) hp, Nat.and_two_pow_sub_one_eq_mod]
  rfl
theorem and32 (a : Int) (h0 : 0 ≤ a) (h1 : a < 18446744073709551616) : bits .and .u64 a 4294967295 = a % 4294967296 := and_mask a 32 h0 h1 (by omega)
theorem or_apart (a b : Nat) (s : Nat) (hb : b < 2 ^ s) (h1 : a * 2 ^ s + b < 18446744073709551616) : bits .or .u64 ((a * 2 ^ s : Nat) : Int) (b : Int) = ((a * 2 ^ s + b : Nat) : Int) := by
  rw [u64_or_nat _ _ (by omega) (by omega), Nat.mul_comm a, Nat.two_pow_add_eq_or_of_lt hb]
theorem bitLen_bounds : ∀ (k x : Nat), 0 < x → x < 2 ^ k → k ≤ 64 → 1 ≤ Lib.bitLen x ∧ x < 2 ^ Lib.bitLen x ∧ 2 ^ Lib.bitLen x ≤ 2 * x := by
  intro k
  induction k with
  | zero => intro x h0 h; simp at h; omega
  | succ k ih =>
    intro x h0 h hk
    have h64 : x < 2 ^ 64 := Nat.lt_of_lt_of_le h (Nat.pow_le_pow_right (by omega) hk)
    rw [Lib.bitLen_half x (by omega) h64]
    by_cases h1 : x / 2 = 0
    · obtain rfl : x = 1 := by omega
      decide
    · have h2 : x / 2 < 2 ^ k := by rw [Nat.pow_succ] at h; omega
      obtain ⟨a, b, c⟩ := ih (x / 2) (by omega) h2 (by omega)
      refine ⟨by omega, ?_, ?_⟩ <;> rw [Nat.add_comm, Nat.pow_succ] <;> omega
end Go.Proofs.Ytejliecmdkmgiaa.num
