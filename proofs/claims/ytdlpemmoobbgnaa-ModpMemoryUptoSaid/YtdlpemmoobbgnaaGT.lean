/- Lists of integers of the call's own, marked and grown: what the book's ints keeps in memory. What the book's ints keeps in memory while the lists of integers are marked and grown. The walk of the book's ints: every list of integers has memory of its own. The walks of the book's nums (no list of numbers in it) and Apart: the lists have memory of their own. plays and wants with their answers written out, for whatever reads the same modulo p. -/
import Derived.Test.YtdlpemmoobbgnaaGS
import Derived.Test.YtdlpemmoobbgnaaGY
import Derived.Test.YtdlpemmoobbgnaaGR
set_option linter.unusedVariables false
set_option linter.unusedSimpArgs false
namespace Go.Proofs.Ytdlpemmoobbgnaa
open Go.RowKit

theorem tagUI2 : 22 ≠ 56 := by decide
/-- v is a list of n integers of the call's own; the first m of them hold the marks of the list with the number k, each in memory of its own (from C on) -/
def IL (w : World) (B C : Nat) (v : Value) (n m k : Nat) : Prop :=
  ∃ b M : Nat → Value, OwnR w B 56 2 v n (flatI b M n) ∧ ∀ c, c < m → b c = .bool false ∧ FrA .u64 22 w C (M c) 1 (fun _ => mkS k c)

theorem OwnR.tag {w : World} {B : Nat} {e : TypeId} {z n : Nat} {v : Value} {xs : List Value} (h : OwnR w B e z v n xs) {g : Nat} (hg : v.ownBlock = some g) : ∃ cs fr, w.heap[g]? = some (.cells cs e fr) := by
  rcases h.2 with ⟨rfl, -⟩ | ⟨g', cap, cur, rfl, -, h3, -⟩
  · simp [Value.ownBlock] at hg
  · simp [Value.ownBlock] at hg; subst hg; exact ⟨_, _, h3⟩
theorem FrA.far {w : World} {C : Nat} {m : Value} {n : Nat} {f : Nat → Int} (h : FrA .u64 22 w C m n f) {g : Nat} {cs : Array Value} {T : TypeId} {fr : Nat × Nat} (hg : w.heap[g]? = some (.cells cs T fr)) (hT : 22 ≠ T) : m.ownBlock = none ∨ m.ownBlock ≠ some g := by
  rcases h with ⟨rfl, _⟩ | ⟨b, cap, rfl, _, _, _, h4, _⟩
  · exact Or.inl rfl
  · right
    obtain ⟨cur, hc, -⟩ := h4
    intro e
    simp [Value.ownBlock] at e
    subst e
    rw [hg] at hc
    injection hc with hc
    injection hc with _ hc _
    exact hT hc.symm

section
variable {w w' : World} {B C n m k : Nat} {v : Value}
theorem IL.slice (h : IL w B C v n m k) : ∃ a c, v = .slice a n c := by
  obtain ⟨b, M, h1, -⟩ := h
  exact h1.slice
theorem IL.lt (h : IL w B C v n m k) : ∀ g, v.ownBlock = some g → B ≤ g ∧ g < w.heap.size := by
  obtain ⟨b, M, h1, -⟩ := h
  exact h1.lt
theorem IL.tag (h : IL w B C v n m k) {g : Nat} (hg : v.ownBlock = some g) : ∃ cs fr, w.heap[g]? = some (.cells cs 56 fr) := by
  obtain ⟨b, M, h1, -⟩ := h
  exact h1.tag hg
theorem IL.below (h : IL w B C v n m k) (hb : Below w.heap.size w w') : IL w' B C v n m k := by
  obtain ⟨b, M, h1, h2⟩ := h
  exact ⟨b, M, h1.below hb, fun c hc => ⟨(h2 c hc).1, (h2 c hc).2.below hb⟩⟩
/-- a change in another block that holds no words -/
theorem IL.kept (h : IL w B C v n m k) {g : Nat} {cs : Array Value} {T : TypeId} {fr : Nat × Nat} (hg : w.grownBy w' (some g)) (ht : w.heap[g]? = some (.cells cs T fr)) (hT : 22 ≠ T) (hv : v.ownBlock = none ∨ v.ownBlock ≠ some g) : IL w' B C v n m k := by
  obtain ⟨b, M, h1, h2⟩ := h
  exact ⟨b, M, h1.kept hg hv, fun c hc => ⟨(h2 c hc).1, (h2 c hc).2.grown hg ((h2 c hc).2.far ht hT)⟩⟩
theorem IL.less (h : IL w B C v n m k) {m' : Nat} (hm : m' ≤ m) : IL w B C v n m' k := by
  obtain ⟨b, M, h1, h2⟩ := h
  exact ⟨b, M, h1, fun c hc => h2 c (by omega)⟩
theorem IL.renum (h : IL w B C v n 0 k) (k' : Nat) : IL w B C v n 0 k' := by
  obtain ⟨b, M, h1, h2⟩ := h
  exact ⟨b, M, h1, fun c hc => absurd hc (by omega)⟩
theorem IL.base (h : IL w B C v n 0 k) (C' : Nat) : IL w B C' v n 0 k := by
  obtain ⟨b, M, h1, h2⟩ := h
  exact ⟨b, M, h1, fun c hc => absurd hc (by omega)⟩
/-- what a marked place holds -/
theorem IL.cell (h : IL w B C v n m k) {c : Nat} (hc : c < n) : ∃ g cap, v = .slice (some ⟨g, 0, none⟩) n cap ∧ (∃ x, w.cell? ⟨g, c * 2, none⟩ = some x ∧ w.frozen? ⟨g, c * 2, none⟩ = false) ∧ (∃ x, w.cell? ⟨g, c * 2 + 1, none⟩ = some x ∧ w.frozen? ⟨g, c * 2 + 1, none⟩ = false) ∧
    (c < m → ∃ wb cw, w.cell? ⟨g, c * 2, none⟩ = some (.bool false) ∧ w.cell? ⟨g, c * 2 + 1, none⟩ = some (.slice (some ⟨wb, 0, none⟩) 1 cw) ∧ w.cell? ⟨wb, 0, none⟩ = some (.int .u64 (mkS k c))) := by
  obtain ⟨b, M, h1, h2⟩ := h
  rcases h1.2 with ⟨rfl, h0⟩ | ⟨g, cap, cur, rfl, -, h3, h4, h5, h6⟩
  · omega
  · have hf : ∀ j, w.frozen? ⟨g, j, none⟩ = false := fun j => by unfold World.frozen?; simp only; rw [h3]; simp
    obtain ⟨f1, f2⟩ := flatI_at b M n c hc
    have g1 : w.cell? ⟨g, c * 2, none⟩ = some (b c) := by
      rw [cell_of_row _ _ _ _ _ _ h3]
      rw [← h6, List.getElem?_take, if_pos (by omega)] at f1
      simpa using f1
    have g2 : w.cell? ⟨g, c * 2 + 1, none⟩ = some (M c) := by
      rw [cell_of_row _ _ _ _ _ _ h3]
      rw [← h6, List.getElem?_take, if_pos (by omega)] at f2
      simpa using f2
    refine ⟨g, cap, rfl, ⟨_, g1, hf _⟩, ⟨_, g2, hf _⟩, fun hm => ?_⟩
    obtain ⟨e1, e2⟩ := h2 c hm
    rcases e2 with ⟨-, e3⟩ | ⟨wb, cw, e3, -, -, -, -, e4⟩
    · omega
    · have := (e4 0 (by omega)).1
      rw [Nat.zero_add] at this
      exact ⟨wb, cw, by rw [← e1]; exact g1, by rw [← e3]; exact g2, this⟩
/-- the next place is marked, its word in new memory -/
theorem IL.set (h : IL w B C v n m k) (hm : m < n) {g : Nat} (hg : v.ownBlock = some g) (hC : C ≤ w.heap.size) :
    IL (((w.alloc (.cells #[.int .u64 (mkS k m)] 22)).setCell ⟨g, m * 2, none⟩ (.bool false)).setCell ⟨g, m * 2 + 1, none⟩ (.slice (some ⟨w.heap.size, 0, none⟩) 1 1)) B C v n (m + 1) k := by
  obtain ⟨b, M, h1, h2⟩ := h
  have hal : Below w.heap.size w (w.alloc (.cells #[.int .u64 (mkS k m)] 22)) := (Below.refl _ _).alloc (Nat.le_refl _) _
  have hnew : FrA .u64 22 (w.alloc (.cells #[.int .u64 (mkS k m)] 22)) C (.slice (some ⟨w.heap.size, 0, none⟩) 1 1) 1 (fun _ => mkS k m) := by
    have hn := heap_alloc_new w (.cells #[.int .u64 (mkS k m)] 22)
    refine Or.inr ⟨w.heap.size, 1, rfl, Nat.le_refl _, by omega, hC, ⟨_, hn, rfl⟩, fun i hi => ?_⟩
    obtain rfl : i = 0 := by omega
    refine ⟨by rw [cell_of_row _ _ _ _ _ _ hn]; rfl, ?_⟩
    unfold World.frozen?; simp only; rw [hn]; simp
  have o1 := h1.below hal
  have f1 := fun c hc => (h2 c hc).2.below hal
  generalize w.alloc (.cells #[.int .u64 (mkS k m)] 22) = w1 at *
  obtain ⟨cs, fr, ht⟩ := o1.tag hg
  have hgg : w1.grownBy ((w1.setCell ⟨g, m * 2, none⟩ (.bool false)).setCell ⟨g, m * 2 + 1, none⟩ (.slice (some ⟨w.heap.size, 0, none⟩) 1 1)) (some g) := gb_trans (gb_set _ _ _) (gb_set _ _ _)
  refine ⟨fun c => if c = m then .bool false else b c, fun c => if c = m then .slice (some ⟨w.heap.size, 0, none⟩) 1 1 else M c, ?_, fun c hc => ?_⟩
  · refine ⟨flatI_len _ _ _, ?_⟩
    rcases o1.2 with ⟨rfl, h0⟩ | ⟨g', cap, cur, rfl, k2, k3, k4, k5, k6⟩
    · omega
    · simp [Value.ownBlock] at hg
      subst hg
      have hs := heap_setCell_same (w1.setCell ⟨g', m * 2, none⟩ (.bool false)) g' (m * 2 + 1) _ _ (.slice (some ⟨w.heap.size, 0, none⟩) 1 1) (heap_setCell_same w1 g' (m * 2) cur _ (.bool false) k3)
      refine Or.inr ⟨g', cap, _, rfl, k2, hs, k4, by simpa using k5, ?_⟩
      apply List.ext_getElem?
      intro i
      rw [List.getElem?_take]
      by_cases hi : i < n * 2
      · rw [if_pos hi]
        have hc2 : (flatI b M n)[i]? = cur[i]? := by rw [← k6, List.getElem?_take, if_pos hi]; simp
        obtain ⟨c, hcn, he⟩ : ∃ c, c < n ∧ (i = c * 2 ∨ i = c * 2 + 1) := ⟨i / 2, by omega, by omega⟩
        obtain ⟨a1, a2⟩ := flatI_at b M n c hcn
        obtain ⟨a3, a4⟩ := flatI_at (fun c => if c = m then .bool false else b c) (fun c => if c = m then .slice (some ⟨w.heap.size, 0, none⟩) 1 1 else M c) n c hcn
        have hcs : i < cur.size := by omega
        simp only [Array.getElem?_toList, Array.getElem?_setIfInBounds, Array.size_setIfInBounds]
        rcases he with rfl | rfl
        · rw [a3, if_neg (by omega)]
          rw [a1] at hc2
          by_cases e : c = m
          · subst e; simp [hcs]
          · rw [if_neg (by omega), ← hc2, if_neg e]
        · rw [a4]
          rw [a2] at hc2
          by_cases e : c = m
          · subst e; simp [hcs]
          · rw [if_neg (by omega), if_neg (by omega), ← hc2, if_neg e]
      · rw [if_neg hi, List.getElem?_eq_none (by rw [flatI_len]; omega)]
  · by_cases e : c = m
    · subst e
      simp only [if_true]
      exact ⟨trivial, hnew.grown hgg (hnew.far ht tagUI2)⟩
    · simp only [if_neg e]
      have hcm : c < m := by omega
      exact ⟨(h2 c hcm).1, (f1 c hcm).grown hgg ((f1 c hcm).far ht tagUI2)⟩
/-- one place more: behind the append of a marked integer -/
theorem IL.push {w1 w8 : World} {v' : Value} {b M : Nat → Value} {wb : Nat} (hw : FrA .u64 22 w1 C (.slice (some ⟨wb, 0, none⟩) 1 1) 1 (fun _ => mkS k n))
    (h1 : OwnR w1 B 56 2 v n (flatI b M n)) (h2 : ∀ c, c < n → b c = .bool false ∧ FrA .u64 22 w1 C (M c) 1 (fun _ => mkS k c))
    (g1 : OwnR w8 B 56 2 v' (n + 1) (flatI b M n ++ [.bool false, .slice (some ⟨wb, 0, none⟩) 1 1])) (g2 : w1.grownBy w8 v.ownBlock) : IL w8 B C v' (n + 1) (n + 1) k := by
  have far : ∀ {m : Value} {N : Nat} {f : Nat → Int}, FrA .u64 22 w1 C m N f → FrA .u64 22 w8 C m N f := fun {m N f} hf => by
    refine hf.grown g2 ?_
    cases hv : v.ownBlock with
    | none => cases m.ownBlock <;> simp
    | some g =>
      obtain ⟨cs, fr, ht⟩ := h1.tag hv
      exact hf.far ht tagUI2
  refine ⟨fun c => if c = n then .bool false else b c, fun c => if c = n then .slice (some ⟨wb, 0, none⟩) 1 1 else M c, ?_, fun c hc => ?_⟩
  · show OwnR w8 B _ 2 v' (n + 1) (flatI _ _ n ++ [_, _])
    rw [flatI_congr (b' := b) (m' := M) (fun i hi => ⟨by simp only [if_neg (Nat.ne_of_lt hi)], by simp only [if_neg (Nat.ne_of_lt hi)]⟩)]
    simp only [if_true]
    exact g1
  · by_cases e : c = n
    · subst e; simp only [if_true]; exact ⟨trivial, far hw⟩
    · simp only [if_neg e]
      have := h2 c (by omega)
      exact ⟨this.1, far this.2⟩
end
end Go.Proofs.Ytdlpemmoobbgnaa

namespace Go.Proofs.Ytdlpemmoobbgnaa
open Go.RowKit

theorem tagIIs : 22 ≠ 32 := by decide
theorem mk_bi (n : Nat) (hn : n ≤ 16777216) (u : World) : (Instr.makeSlice 99 (.int .i64 n) (.int .i64 n)).run Try.prog u =
    .ok (.slice (some ⟨u.heap.size, 0, none⟩) n n) (u.alloc (.cells (madeCells #[.slice none 0 0] n) 32)) := by
  obtain ⟨i0, hi, hz0, hz1, hz2⟩ := info_parts infoBI
  have h := run_make (P := Try.prog) u 99 32 i0 (.slice none 0 0) Try.underlying99 hi hz0 .i64 .i64 (n : Int) (n : Int) (by omega) (Int.le_refl _) (by rw [hz2]; omega) (by omega)
  simpa [hz1, Value.cells] using h

theorem IL.keeps {w w' : World} {B C n m k mx : Nat} {v g : Value} (h : IL w B C v n m k) (hk : KeepsRows w w' g mx) (hg : w.grownBy w' g.ownBlock) (ht : ∀ b, g.ownBlock = some b → ∃ cs fr, w.heap[b]? = some (.cells cs 56 fr))
    (hs : v.ownBlock = none ∨ v.ownBlock ≠ g.ownBlock ∨ n * 2 ≤ mx) : IL w' B C v n m k := by
  obtain ⟨b, M, h1, h2⟩ := h
  refine ⟨b, M, hk _ _ _ _ _ _ h1 hs, fun c hc => ⟨(h2 c hc).1, (h2 c hc).2.grown hg ?_⟩⟩
  cases hv : g.ownBlock with
  | none => cases (M c).ownBlock <;> simp
  | some b =>
    obtain ⟨cs, fr, h3⟩ := ht b hv
    exact (h2 c hc).2.far h3 tagUI2

/-- what ints keeps: the book, the lists (mm: how many places are marked), all else -/
structure IsR (w wr : World) (B C bk : Nat) (vW : Value) (nW : Nat) (W : Nat → Value) (vI : Value) (nI : Nat) (I : Nat → Value) (n mm : Nat → Nat) : Prop where
  book : BookR wr bk vW nW W vI nI I
  is : ∀ k, k < nI → IL wr B C (I k) (n k) (mm k) k
  gr : GrownS (SW nI I) w wr
  low : ∀ k, k < nI → ∀ b, (I k).ownBlock = some b → b < bk
  ap : ∀ k l, k < nI → l < nI → k ≠ l → Value.apart (I k) (I l)
  cle : C ≤ w.heap.size

section
variable {w wr w' : World} {B C bk nW nI : Nat} {W I : Nat → Value} {vW vI : Value} {n mm mm' : Nat → Nat}
theorem IsR.congr (h : IsR w wr B C bk vW nW W vI nI I n mm) (e : ∀ k, k < nI → mm k = mm' k) : IsR w wr B C bk vW nW W vI nI I n mm' :=
  { h with is := fun k hk => by rw [← e k hk]; exact h.is k hk }
theorem IsR.below (h : IsR w wr B C bk vW nW W vI nI I n mm) (hb : Below wr.heap.size wr w') : IsR w w' B C bk vW nW W vI nI I n mm :=
  { h with book := h.book.below hb, is := fun k hk => (h.is k hk).below hb, gr := h.gr.below hb }
theorem IsR.drew (h : IsR w wr B C bk vW nW W vI nI I n mm) : IsR w wr.drew B C bk vW nW W vI nI I n mm := h.below ((Below.refl _ _).drew)
/-- one place marked -/
theorem IsR.mark (h : IsR w wr B C bk vW nW W vI nI I n mm) {i g : Nat} (hi : i < nI) (hj : mm i < n i) (hg : (I i).ownBlock = some g) :
    IsR w (((wr.alloc (.cells #[.int .u64 (mkS i (mm i))] 22)).setCell ⟨g, mm i * 2, none⟩ (.bool false)).setCell ⟨g, mm i * 2 + 1, none⟩ (.slice (some ⟨wr.heap.size, 0, none⟩) 1 1)) B C bk vW nW W vI nI I n (fun k => if k = i then mm i + 1 else mm k) := by
  have hal : Below wr.heap.size wr (wr.alloc (.cells #[.int .u64 (mkS i (mm i))] 22)) := (Below.refl _ _).alloc (Nat.le_refl _) _
  have hset := (h.is i hi).set hj hg (Nat.le_trans h.cle h.gr.size)
  have h1 := h.below hal
  obtain ⟨cs, fr, ht⟩ := (h1.is i hi).tag hg
  have hl := h.low i hi g hg
  generalize wr.alloc (.cells #[.int .u64 (mkS i (mm i))] 22) = w1 at *
  have hgg : w1.grownBy ((w1.setCell ⟨g, mm i * 2, none⟩ (.bool false)).setCell ⟨g, mm i * 2 + 1, none⟩ (.slice (some ⟨wr.heap.size, 0, none⟩) 1 1)) (some g) := gb_trans (gb_set _ _ _) (gb_set _ _ _)
  refine ⟨book_grown h1.book hgg hl, fun k hk => ?_, h1.gr.step hgg (fun k hk => Or.inl ⟨i, hi, by injection hk with hk; rw [hg]; exact congrArg some hk⟩), h.low, h.ap, h.cle⟩
  by_cases e : k = i
  · subst e
    simp only [if_true]
    exact hset
  · simp only [if_neg e]
    refine (h1.is k hk).kept hgg ht tagUI2 ?_
    cases hb : (I k).ownBlock with
    | none => exact Or.inl rfl
    | some b => right; intro e2; injection e2 with e2; exact h.ap k i hk hi e b hb (by rw [hg]; exact congrArg some e2.symm)
end

/-- the grown lists before i -/
structure GiR (w wr : World) (B C bk : Nat) (vW : Value) (nW : Nat) (W : Nat → Value) (vI : Value) (nI : Nat) (I : Nat → Value) (n : Nat → Nat) (gr i : Nat) (G : Nat → Value) : Prop where
  is : IsR w wr B C bk vW nW W vI nI I n n
  blk : Blk wr gr nI 32
  cells : ∀ k, k < nI → wr.cell? ⟨gr, k, none⟩ = some (if k < i then G k else .slice none 0 0)
  gs : ∀ k, k < i → IL wr B C (G k) (n k + 80) (n k + 80) k
  side : ∀ k, k < i → ∀ b, (G k).ownBlock = some b → (I k).ownBlock = some b ∨ gr < b
  apG : ∀ k l, k < i → l < i → k ≠ l → Value.apart (G k) (G l)
  hi : ∀ b, vW.ownBlock = some b ∨ vI.ownBlock = some b → b < gr
  hb : bk < gr
  ge : w.heap.size ≤ gr
  lt : gr < wr.heap.size

/-- the list i, grown by j places so far, is the value g -/
structure GkR (w wr : World) (B C bk : Nat) (vW : Value) (nW : Nat) (W : Nat → Value) (vI : Value) (nI : Nat) (I : Nat → Value) (n : Nat → Nat) (gr i : Nat) (G : Nat → Value) (j : Nat) (g : Value) : Prop where
  gw : GiR w wr B C bk vW nW W vI nI I n gr i G
  own : IL wr B C g (n i + j) (n i + j) i
  side : ∀ b, g.ownBlock = some b → (I i).ownBlock = some b ∨ gr < b ∧ ∀ k, k < i → (G k).ownBlock ≠ some b

section
variable {w wr w' : World} {B C bk nW nI gr i j : Nat} {W I G : Nat → Value} {vW vI : Value} {n : Nat → Nat}
theorem GiR.start (h : IsR w wr B C bk vW nW W vI nI I n n) : GiR w (wr.alloc (.cells (madeCells #[.slice none 0 0] nI) 32)) B C bk vW nW W vI nI I n wr.heap.size 0 I := by
  have hb : Below wr.heap.size wr (wr.alloc (.cells (madeCells #[.slice none 0 0] nI) 32)) := (Below.refl _ _).alloc (Nat.le_refl _) _
  have hc := CellsAt.made wr (.slice none 0 0) nI 32
  refine ⟨h.below hb, Blk.made wr _ nI _, fun k hk => ?_, fun k hk => absurd hk (by omega), fun k hk => absurd hk (by omega), fun k l hk => absurd hk (by omega), fun b hb => ?_, h.book.lt, h.gr.size, by simp⟩
  · have := (hc k hk).1
    rw [Nat.zero_add] at this
    rw [this, if_neg (by omega)]
  · rcases hb with hb | hb
    · exact (h.book.oW.lt b hb).2
    · exact (h.book.oI.lt b hb).2
theorem GiR.below (h : GiR w wr B C bk vW nW W vI nI I n gr i G) (hb : Below wr.heap.size wr w') : GiR w w' B C bk vW nW W vI nI I n gr i G :=
  { h with is := h.is.below hb, blk := h.blk.grown (gb_below hb none) (by simp), cells := fun k hk => cell_stays hb (h.cells k hk), gs := fun k hk => (h.gs k hk).below hb, lt := Nat.lt_of_lt_of_le h.lt hb.size }
theorem GiR.drew (h : GiR w wr B C bk vW nW W vI nI I n gr i G) : GiR w wr.drew B C bk vW nW W vI nI I n gr i G := h.below ((Below.refl _ _).drew)
theorem GiR.grow (h : GiR w wr B C bk vW nW W vI nI I n gr i G) (hi : i < nI) : GkR w wr B C bk vW nW W vI nI I n gr i G 0 (I i) := ⟨h, h.is.is i hi, fun b hb => Or.inl hb⟩
theorem GkR.below {g : Value} (h : GkR w wr B C bk vW nW W vI nI I n gr i G j g) (hb : Below wr.heap.size wr w') : GkR w w' B C bk vW nW W vI nI I n gr i G j g :=
  ⟨h.gw.below hb, h.own.below hb, h.side⟩
theorem GkR.blocks {g : Value} (h : GkR w wr B C bk vW nW W vI nI I n gr i G j g) (hi : i < nI) {b : Nat} (hb : g.ownBlock = some b) :
    (b < bk ∨ gr < b) ∧ (∀ k, k < nI → k ≠ i → (I k).ownBlock ≠ some b) ∧ (∀ k, k < i → (G k).ownBlock ≠ some b) := by
  have hbk := h.gw.hb
  rcases h.side b hb with e | ⟨e1, e2⟩
  · have hl := h.gw.is.low i hi b e
    refine ⟨Or.inl hl, fun k hk hne e' => h.gw.is.ap k i hk hi hne b e' e, fun k hk e' => ?_⟩
    rcases h.gw.side k hk b e' with e3 | e3
    · exact h.gw.is.ap k i (by omega) hi (by omega) b e3 e
    · omega
  · exact ⟨Or.inr e1, fun k hk _ e' => by have := h.gw.is.low k hk b e'; omega, e2⟩
theorem GkR.far {g : Value} (h : GkR w wr B C bk vW nW W vI nI I n gr i G j g) (hi : i < nI) {b : Nat} (hb : b < bk → False) (hb2 : gr < b → False) : some b ≠ g.ownBlock := fun e => by
  rcases (h.blocks hi e.symm).1 with e1 | e1
  · exact hb e1
  · exact hb2 e1
/-- what the append asks: the row, the mark laid by -/
theorem GkR.app {g : Value} (h : GkR w wr B C bk vW nW W vI nI I n gr i G j g) : ∃ b M : Nat → Value,
    OwnR ((wr.alloc (.cells #[.int .u64 (mkS i (n i + j))] 22)).alloc (.cells #[.bool false, .slice (some ⟨wr.heap.size, 0, none⟩) 1 1] 56)) B 56 2 g (n i + j) (flatI b M (n i + j)) ∧
    (∀ c, c < n i + j → b c = .bool false ∧ FrA .u64 22 ((wr.alloc (.cells #[.int .u64 (mkS i (n i + j))] 22)).alloc (.cells #[.bool false, .slice (some ⟨wr.heap.size, 0, none⟩) 1 1] 56)) C (M c) 1 (fun _ => mkS i c)) ∧
    FrA .u64 22 ((wr.alloc (.cells #[.int .u64 (mkS i (n i + j))] 22)).alloc (.cells #[.bool false, .slice (some ⟨wr.heap.size, 0, none⟩) 1 1] 56)) C (.slice (some ⟨wr.heap.size, 0, none⟩) 1 1) 1 (fun _ => mkS i (n i + j)) ∧
    (∀ q u, [Value.bool false, .slice (some ⟨wr.heap.size, 0, none⟩) 1 1][q]? = some u → ((wr.alloc (.cells #[.int .u64 (mkS i (n i + j))] 22)).alloc (.cells #[.bool false, .slice (some ⟨wr.heap.size, 0, none⟩) 1 1] 56)).cell? (Addr.add ⟨wr.heap.size + 1, 0, none⟩ q) = some u) ∧
    Below wr.heap.size wr ((wr.alloc (.cells #[.int .u64 (mkS i (n i + j))] 22)).alloc (.cells #[.bool false, .slice (some ⟨wr.heap.size, 0, none⟩) 1 1] 56)) := by
  have b1 : Below wr.heap.size wr (wr.alloc (.cells #[.int .u64 (mkS i (n i + j))] 22)) := (Below.refl _ _).alloc (Nat.le_refl _) _
  have hn := heap_alloc_new wr (.cells #[.int .u64 (mkS i (n i + j))] 22)
  have s1 : (wr.alloc (.cells #[.int .u64 (mkS i (n i + j))] 22)).heap.size = wr.heap.size + 1 := by simp
  have hC : C ≤ wr.heap.size := Nat.le_trans h.gw.is.cle h.gw.is.gr.size
  have hnew : FrA .u64 22 (wr.alloc (.cells #[.int .u64 (mkS i (n i + j))] 22)) C (.slice (some ⟨wr.heap.size, 0, none⟩) 1 1) 1 (fun _ => mkS i (n i + j)) := by
    refine Or.inr ⟨wr.heap.size, 1, rfl, Nat.le_refl _, by omega, hC, ⟨_, hn, rfl⟩, fun q hq => ?_⟩
    obtain rfl : q = 0 := by omega
    refine ⟨by rw [cell_of_row _ _ _ _ _ _ hn]; rfl, ?_⟩
    unfold World.frozen?; simp only; rw [hn]; simp
  obtain ⟨b, M, o1, o2⟩ := h.own.below b1
  generalize wr.alloc (.cells #[.int .u64 (mkS i (n i + j))] 22) = w1 at *
  have b2 : Below w1.heap.size w1 (w1.alloc (.cells #[.bool false, .slice (some ⟨wr.heap.size, 0, none⟩) 1 1] 56)) := (Below.refl _ _).alloc (Nat.le_refl _) _
  refine ⟨b, M, o1.below b2, fun c hc => ⟨(o2 c hc).1, (o2 c hc).2.below b2⟩, hnew.below b2, fun q u hq => ?_, b1.trans (b2.mono b1.size)⟩
  rw [Addr.add_lit, ← s1, cell_of_row _ _ _ _ _ _ (heap_alloc_new w1 _)]
  simpa using hq
theorem GkR.push {g : Value} {w1 w8 : World} {g8 cap : Nat} {b M : Nat → Value} (h : GkR w wr B C bk vW nW W vI nI I n gr i G j g) (hi : i < nI) (hb1 : Below wr.heap.size wr w1)
    (q1 : OwnR w1 B 56 2 g (n i + j) (flatI b M (n i + j))) (q2 : ∀ c, c < n i + j → b c = .bool false ∧ FrA .u64 22 w1 C (M c) 1 (fun _ => mkS i c)) (q3 : FrA .u64 22 w1 C (.slice (some ⟨wr.heap.size, 0, none⟩) 1 1) 1 (fun _ => mkS i (n i + j)))
    (o8 : OwnR w8 B 56 2 (.slice (some ⟨g8, 0, none⟩) (n i + j + 1) cap) (n i + j + 1) (flatI b M (n i + j) ++ [.bool false, .slice (some ⟨wr.heap.size, 0, none⟩) 1 1])) (hk : KeepsRows w1 w8 g ((n i + j) * 2))
    (hg : w1.grownBy w8 g.ownBlock) (hat : g.ownBlock = some g8 ∨ g8 = w1.heap.size) : GkR w w8 B C bk vW nW W vI nI I n gr i G (j + 1) (.slice (some ⟨g8, 0, none⟩) (n i + j + 1) cap) := by
  have h1 := h.below hb1
  have hbk := h.gw.hb
  have hlt := h.gw.lt
  have hge := h.gw.ge
  have hs1 := hb1.size
  have ht : ∀ b, g.ownBlock = some b → ∃ cs fr, w1.heap[b]? = some (.cells cs 56 fr) := fun b hb => q1.tag hb
  have e1 := h1.far hi (b := bk) (by omega) (by omega)
  have e2 := h1.far hi (b := gr) (by omega) (by omega)
  have eW : vW.ownBlock = none ∨ vW.ownBlock ≠ g.ownBlock := by
    cases hv : vW.ownBlock with
    | none => exact Or.inl rfl
    | some b =>
      right
      have l1 := (h.gw.is.book.oW.lt b hv).1
      have l2 := h.gw.hi b (Or.inl hv)
      exact h1.far hi (by omega) (by omega)
  have eI : vI.ownBlock = none ∨ vI.ownBlock ≠ g.ownBlock := by
    cases hv : vI.ownBlock with
    | none => exact Or.inl rfl
    | some b =>
      right
      have l1 := (h.gw.is.book.oI.lt b hv).1
      have l2 := h.gw.hi b (Or.inr hv)
      exact h1.far hi (by omega) (by omega)
  have his : IsR w w8 B C bk vW nW W vI nI I n n :=
    { h1.gw.is with
      book := h1.gw.is.book.grown hg e1 eW eI
      is := fun k hkn => (h1.gw.is.is k hkn).keeps hk hg ht (by
        by_cases e : k = i
        · subst e; right; right; omega
        · cases hv : (I k).ownBlock with
          | none => exact Or.inl rfl
          | some b => right; left; exact fun e' => (h1.blocks hi e'.symm).2.1 k hkn e hv)
      gr := h1.gw.is.gr.step hg (fun k hkb => by
        rcases h.side k hkb with e | ⟨e, -⟩
        · exact Or.inl ⟨i, hi, e⟩
        · right; omega) }
  refine ⟨⟨his, h1.gw.blk.grown hg e2, fun k hkn => hg.cell (h1.gw.cells k hkn) e2, fun k hki => (h1.gw.gs k hki).keeps hk hg ht ?_, h.gw.side, h.gw.apG, h.gw.hi, hbk, hge, Nat.lt_of_lt_of_le h1.gw.lt hg.size⟩, ?_, fun b hb => ?_⟩
  · cases hv : (G k).ownBlock with
    | none => exact Or.inl rfl
    | some b => right; left; exact fun e' => (h1.blocks hi e'.symm).2.2 k hki hv
  · exact IL.push q3 q1 q2 o8 hg
  · have hb : g8 = b := by simpa [Value.ownBlock] using hb
    subst hb
    rcases hat with e | e
    · exact h.side _ e
    · right
      exact ⟨by omega, fun k hki e' => by have := ((h.gw.gs k hki).lt _ e').2; omega⟩
theorem GiR.put {g : Value} (h : GkR w wr B C bk vW nW W vI nI I n gr i G 80 g) (hi : i < nI) : GiR w (wr.setCell ⟨gr, i, none⟩ g) B C bk vW nW W vI nI I n gr (i + 1) (fun k => if k = i then g else G k) := by
  have gs : wr.grownBy (wr.setCell ⟨gr, i, none⟩ g) (some gr) := gb_set wr ⟨gr, i, none⟩ g
  obtain ⟨cur, ht, -⟩ := h.gw.blk
  have hbk := h.gw.hb
  have hge := h.gw.ge
  have eW : vW.ownBlock = none ∨ vW.ownBlock ≠ some gr := by
    cases hv : vW.ownBlock with
    | none => exact Or.inl rfl
    | some b => right; have := h.gw.hi b (Or.inl hv); intro e; injection e with e; omega
  have eI : vI.ownBlock = none ∨ vI.ownBlock ≠ some gr := by
    cases hv : vI.ownBlock with
    | none => exact Or.inl rfl
    | some b => right; have := h.gw.hi b (Or.inr hv); intro e; injection e with e; omega
  have his : IsR w (wr.setCell ⟨gr, i, none⟩ g) B C bk vW nW W vI nI I n n :=
    { h.gw.is with
      book := h.gw.is.book.grown gs (by simp; omega) eW eI
      is := fun k hkn => (h.gw.is.is k hkn).kept gs ht tagIIs (by
        cases hv : (I k).ownBlock with
        | none => exact Or.inl rfl
        | some b => right; have := h.gw.is.low k hkn b hv; intro e; injection e with e; omega)
      gr := h.gw.is.gr.step gs (fun k hkb => by injection hkb with hkb; right; omega) }
  refine ⟨his, h.gw.blk.set _ _, fun k hkn => ?_, fun k hki => ?_, fun k hki b hb => ?_, fun k l hk hl hne b hb => ?_, h.gw.hi, hbk, hge, by simpa using h.gw.lt⟩
  · by_cases e : k = i
    · subst e
      rw [if_pos (by omega), if_pos rfl]
      exact World.cell?_setCell_same _ _ _ (h.gw.cells k hkn)
    · rw [World.cell?_setCell_other _ _ _ _ (by intro e'; injection e' with _ e3 _; omega), h.gw.cells k hkn]
      by_cases e2 : k < i
      · rw [if_pos e2, if_pos (by omega), if_neg e]
      · rw [if_neg e2, if_neg (by omega)]
  · by_cases e : k = i
    · subst e
      simp only [if_true]
      refine h.own.kept gs ht tagIIs ?_
      cases hv : g.ownBlock with
      | none => exact Or.inl rfl
      | some b => right; intro e'; injection e' with e'; have := (h.blocks hi hv).1; omega
    · rw [if_neg e]
      refine (h.gw.gs k (by omega)).kept gs ht tagIIs ?_
      cases hv : (G k).ownBlock with
      | none => exact Or.inl rfl
      | some b =>
        right
        intro e'
        injection e' with e'
        rcases h.gw.side k (by omega) b hv with e3 | e3
        · have := h.gw.is.low k (by omega) b e3; omega
        · omega
  · by_cases e : k = i
    · subst e
      simp only [if_true] at hb
      rcases h.side b hb with e | ⟨e, -⟩
      · exact Or.inl e
      · exact Or.inr e
    · rw [if_neg e] at hb
      exact h.gw.side k (by omega) b hb
  · by_cases e : k = i
    · subst e
      simp only [if_true] at hb
      rw [if_neg (by omega)]
      exact (h.blocks hi hb).2.2 l (by omega)
    · rw [if_neg e] at hb
      by_cases e2 : l = i
      · subst e2
        simp only [if_true]
        exact fun e3 => (h.blocks hi e3).2.2 k (by omega) hb
      · rw [if_neg e2]
        exact h.gw.apG k l (by omega) (by omega) hne b hb
end
end Go.Proofs.Ytdlpemmoobbgnaa

namespace Go.Proofs.Ytdlpemmoobbgnaa
open Go.RowKit

/-- lists before i are marked whole, of list i the first j places -/
def mkN (n : Nat → Nat) (i j : Nat) : Nat → Nat := fun k => if k < i then n k else if k = i then j else 0
theorem mkN_next (n : Nat → Nat) (i j k : Nat) : (if k = i then mkN n i j i + 1 else mkN n i j k) = mkN n i (j + 1) k := by
  unfold mkN
  by_cases e : k = i
  · subst e; simp
  · rw [if_neg e, if_neg e, if_neg e]
theorem mkN_row (n : Nat → Nat) (i k : Nat) : mkN n i (n i) k = mkN n (i + 1) 0 k := by
  unfold mkN
  by_cases e : k < i
  · rw [if_pos e, if_pos (by omega)]
  · rw [if_neg e]
    by_cases e2 : k = i
    · subst e2; rw [if_pos rfl, if_pos (by omega)]
    · rw [if_neg e2, if_neg (by omega)]; split <;> rfl

set_option maxHeartbeats 4000000 in
set_option maxRecDepth 100000 in
theorem ints_yes (B C bk : Nat) (vW : Value) (nW : Nat) (W : Nat → Value) (vI : Value) (nI : Nat) (I : Nat → Value) (n : Nat → Nat) (hnI : nI ≤ 16777216) (hN : ∀ k, k < nI → n k ≤ 4194304) (w : World) (h : IsR w w B C bk vW nW W vI nI I n (fun _ => 0)) (hB : B ≤ w.heap.size) :
    Calls Try.prog 94 #[.pointer (some ⟨bk, 0, none⟩)] w fun e w' => e = .returned (.bool true) ∧ IsR w w' B C bk vW nW W vI nI I n n := by
  obtain ⟨va, vc, rfl⟩ := own_slice h.book.oI
  obtain ⟨i0, hi, hz0, hz1, hz2⟩ := info_parts infoI
  have HI := Lib.hid (And.intro hi (And.intro hz0 (And.intro hz1 hz2)))
  have m1 := mk_bi nI hnI
  have HN := Lib.hid hN
  have H0 := Lib.hid h
  obtain ⟨q0, q1⟩ := h.book.c1
  clear hi hz0 hz1 hz2 h hN
  go_enter Try.func94, Try.ntmps94
  go_wp2_with fail
  clear q0 q1
  go_loopw [3] (fun iv wr => ∃ i : Nat, i ≤ nI ∧ iv = .int .i64 i ∧ IsR w wr B C bk vW nW W (.slice va nI vc) nI I n (mkN n i 0)) (fun iv _ => nI - (intOf iv).toNat)
  case atStart => exact ⟨0, by omega, rfl, H0.out.congr fun k _ => by unfold mkN; rw [if_neg (by omega)]; split <;> rfl⟩
  case round =>
    clear H0
    obtain ⟨i, i1, rfl, hrel⟩ := hrel
    obtain ⟨q0, q1⟩ := hrel.book.c1
    by_cases hi : i < nI
    · obtain ⟨gW, cW, e, hc⟩ := own_cell hrel.book.oI hi
      injection e with e1 e2 e3
      subst e1
      subst e3
      obtain ⟨la, lc, hWi⟩ := (hrel.is i hi).slice
      rw [hWi] at hc
      have hNi := HN.out i hi
      have HR := Lib.hid hrel
      have HWI := Lib.hid hWi
      clear hrel hWi
      have g5 : (0 : Int) ≤ (i : Int) := by omega
      have g6 : (i : Int) < (nI : Int) := by omega
      go_wp2_with fail
      clear hc q0 q1
      go_loopw [5] (fun jv wr => ∃ j : Nat, j ≤ n i ∧ jv = .int .i64 j ∧ IsR w wr B C bk vW nW W (.slice (some ⟨gW, 0, none⟩) nI vc) nI I n (mkN n i j)) (fun jv _ => n i - (intOf jv).toNat)
      case atStart => exact ⟨0, by omega, rfl, HR.out⟩
      case round =>
        clear HR
        obtain ⟨j, j1, rfl, hrel⟩ := hrel
        have hmi : mkN n i j i = j := by unfold mkN; rw [if_neg (Nat.lt_irrefl i), if_pos rfl]
        by_cases hj : j < n i
        · obtain ⟨g, cap, eg, ⟨z0, c1, c2⟩, ⟨z1, c3, c4⟩, -⟩ := (hrel.is i hi).cell hj
          rw [HWI.out] at eg
          injection eg with eg1 eg2 eg3
          subst eg1
          subst eg3
          have hst := (hrel.mark hi (by rw [hmi]; exact hj) (g := g) (by rw [HWI.out]; rfl)).congr (mm' := mkN n i (j + 1)) fun k _ => mkN_next n i j k
          rw [hmi] at hst
          have hal : Below wr.heap.size wr (wr.alloc (.cells #[.int .u64 (mkS i j)] 22)) := (Below.refl _ _).alloc (Nat.le_refl _) _
          have d2 := froz_stays hal c1 c2
          have d4 := froz_stays hal c3 c4
          have c1 := cell_stays hal c1
          have c3 := cell_stays hal c3
          have HST := Lib.hid hst
          have hsg := fun W => sign_any i j (by omega) (by omega) W
          have HSG := Lib.hid hsg
          clear hrel hst hsg hal c2 c4 hmi
          have g7 : (0 : Int) ≤ (j : Int) := by omega
          have g8 : (j : Int) < (n i : Int) := by omega
          go_wp2_with (go_at_call 121; refine (HSG.out _).mono ?_; rintro e w' ⟨rfl, rfl⟩)
          go_roundw
          case rel => exact ⟨j + 1, by omega, by go_num, HST.out⟩
          case measure => simp [intOf]; omega
        · have ej : n i = j := by omega
          have hst := hrel.congr (mm' := mkN n (i + 1) 0) fun k _ => by rw [← ej]; exact mkN_row n i k
          have HST := Lib.hid hst
          clear hrel hst ej hmi
          go_wp2_with fail
          go_roundw
          case rel => exact ⟨i + 1, by omega, by go_num, HST.out⟩
          case measure => simp [intOf]; omega
    · obtain rfl : nI = i := by omega
      have hms := hrel.congr (mm' := n) fun k hk => if_pos hk
      have hst := GiR.start hms
      have hs0 := hms.gr.size
      have HST := Lib.hid hst
      clear hrel hms hst
      go_wp2_with fail
      clear q0 q1
      obtain ⟨gr, hgr⟩ : ∃ gr, gr = wr.heap.size := ⟨_, rfl⟩
      rw [← hgr] at HST ⊢
      have hgB : B ≤ gr := by omega
      generalize wr.alloc (.cells (madeCells #[.slice none 0 0] nI) 32) = W3 at HST ⊢
      clear hgr
      go_loopw [7] (fun iv wr => ∃ (i : Nat) (G : Nat → Value), i ≤ nI ∧ iv = .int .i64 i ∧ GiR w wr B C bk vW nW W (.slice va nI vc) nI I n gr i G) (fun iv _ => nI - (intOf iv).toNat)
      case atStart => exact ⟨0, I, by omega, rfl, HST.out⟩
      case round =>
        clear HST
        obtain ⟨i, G, i1, rfl, hrel⟩ := hrel
        obtain ⟨q0, q1⟩ := hrel.is.book.c1
        by_cases hi : i < nI
        · obtain ⟨gW, cW, e, hc⟩ := own_cell hrel.is.book.oI hi
          injection e with e1 e2 e3
          subst e1
          subst e3
          obtain ⟨la, lc, hWi⟩ := (hrel.is.is i hi).slice
          rw [hWi] at hc
          have hNi := HN.out i hi
          have hgj := hrel.grow hi
          rw [hWi] at hgj
          have HGJ := Lib.hid hgj
          clear hrel hWi hgj
          have g5 : (0 : Int) ≤ (i : Int) := by omega
          have g6 : (i : Int) < (nI : Int) := by omega
          go_wp2_with fail
          clear hc q0 q1
          go_loopw [8, 9] (fun gv jv wr => ∃ j : Nat, j ≤ 80 ∧ jv = .int .i64 j ∧ GkR w wr B C bk vW nW W (.slice (some ⟨gW, 0, none⟩) nI vc) nI I n gr i G j gv) (fun _ jv _ => 80 - (intOf jv).toNat)
          case atStart => exact ⟨0, by omega, rfl, HGJ.out⟩
          case round =>
            clear HGJ
            obtain ⟨j, j1, rfl, hrel⟩ := hrel
            obtain ⟨ga, gc, rfl⟩ := hrel.own.slice
            by_cases hj : j < 80
            · obtain ⟨fb, fM, p1, p2, p3, p4, p5⟩ := hrel.app
              have hsz : ((wr.alloc (.cells #[.int .u64 (mkS i (n i + j))] 22)).alloc (.cells #[.bool false, .slice (some ⟨wr.heap.size, 0, none⟩) 1 1] 56)).heap.size = wr.heap.size + 2 := by simp
              have hwB : B ≤ wr.heap.size := by have := hrel.gw.lt; omega
              have hpush := fun (w8 : World) (g8 cap : Nat) a b c d => hrel.push (w8 := w8) (g8 := g8) (cap := cap) hi p5 p1 p2 p3 a b c d
              have hsg := fun W => sign_any i (n i + j) (by omega) (by omega) W
              obtain ⟨m, hm⟩ : ∃ m, m = n i + j := ⟨_, rfl⟩
              rw [← hm] at p1 p4 hsz hsg hpush
              have HPU := Lib.hid hpush
              have HSG := Lib.hid hsg
              have HOW := Lib.hid p1
              have hmb : m ≤ 4194384 := by omega
              have hnews := p4
              rw [← hm]
              have HSZ := Lib.hid hsz
              clear hpush hsg hrel p1 p2 p3 p4 p5 hm hsz
              go_wp2_with (first
                | (go_at_call 121; refine (HSG.out _).mono ?_; rintro e w' ⟨rfl, rfl⟩)
                | (at_builtin; refine wpList_append_keeps _ rfl _ _ 32 rfl B 56 i0 (.agg #[.bool false, .slice none 0 0]) 2 32 Try.underlying32 HI.out.1 HI.out.2.1 HI.out.2.2.1 HI.out.2.2.2 rfl _ _ _ rfl HOW.out ⟨wr.heap.size + 1, 0, none⟩ 1 1 [.bool false, .slice (some ⟨wr.heap.size, 0, none⟩) 1 1] rfl rfl hnews ?c2 (by decide) ?c3 ?c4 ?c5 _ rfl ?_))
              case c2 => intro u hu; simp at hu; rcases hu with rfl | rfl <;> rfl
              case c3 => unfold maxLen; omega
              case c4 => omega
              case c5 => rw [HSZ.out]; omega
              · intro g8 cap w8 o8 hk hg hat hlt
                have hn := HPU.out _ _ _ o8 hk hg (by rw [HSZ.out]; exact hat)
                have HNX := Lib.hid hn
                clear o8 hk hg hat hlt hn hnews HPU HSG HOW HSZ
                go_wp2_with fail
                go_roundw
                case rel => exact ⟨j + 1, by omega, by go_num, HNX.out⟩
                case measure => simp [intOf]; omega
            · obtain rfl : j = 80 := by omega
              have c1 := hrel.gw.cells i hi
              obtain ⟨-, c2⟩ := hrel.gw.blk.cell hi
              rw [if_neg (Nat.lt_irrefl i)] at c1
              have hput := GiR.put hrel hi
              have HPUT := Lib.hid hput
              clear hput hrel
              go_wp2_with fail
              go_roundw
              case rel => exact ⟨i + 1, _, by omega, by go_num, HPUT.out⟩
              case measure => simp [intOf]; omega
        · obtain rfl : nI = i := by omega
          have HR := Lib.hid hrel
          clear hrel
          go_wp2_with fail
          clear q0 q1
          go_loopw [10] (fun iv wr => ∃ i : Nat, i ≤ nI ∧ iv = .int .i64 i ∧ GiR w wr B C bk vW nW W (.slice va nI vc) nI I n gr nI G) (fun iv _ => nI - (intOf iv).toNat)
          case atStart => exact ⟨0, by omega, rfl, HR.out⟩
          case round =>
            clear HR
            obtain ⟨i, i1, rfl, hrel⟩ := hrel
            obtain ⟨q0, q1⟩ := hrel.is.book.c1
            by_cases hi : i < nI
            · obtain ⟨gW, cW, e, hc⟩ := own_cell hrel.is.book.oI hi
              injection e with e1 e2 e3
              subst e1
              subst e3
              obtain ⟨la, lc, hWi⟩ := (hrel.is.is i hi).slice
              have c1 := hrel.cells i hi
              rw [if_pos hi] at c1
              obtain ⟨ga, gc, hGi⟩ := (hrel.gs i hi).slice
              rw [hWi] at hc
              rw [hGi] at c1
              have hNi := HN.out i hi
              have HWI := Lib.hid hWi
              have HGI := Lib.hid hGi
              have HR := Lib.hid hrel
              obtain ⟨L, hL⟩ : ∃ L, L = n i + 80 := ⟨_, rfl⟩
              rw [← hL] at c1 HGI
              have HL := Lib.hid hL
              have hLb : L ≤ 4194384 := by omega
              clear hrel hWi hGi hL
              have g5 : (0 : Int) ≤ (i : Int) := by omega
              have g6 : (i : Int) < (nI : Int) := by omega
              go_wp2_with fail
              clear hc c1 q0 q1
              go_loopw [13] (fun jv wr => ∃ j : Nat, j ≤ L ∧ jv = .int .i64 j ∧ GiR w wr B C bk vW nW W (.slice (some ⟨gW, 0, none⟩) nI vc) nI I n gr nI G) (fun jv _ => L - (intOf jv).toNat)
              case atStart => exact ⟨0, by omega, rfl, HR.out⟩
              case round =>
                clear HR
                obtain ⟨j, j1, rfl, hrel⟩ := hrel
                by_cases hj : j < L
                · obtain ⟨g, cap, eg, -, -, hmk⟩ := (hrel.gs i hi).cell (c := j) (by have := HL.out; omega)
                  obtain ⟨wb, cw, d0, d1, d2⟩ := hmk (by have := HL.out; omega)
                  have hcap := HL.out
                  rw [HGI.out] at eg
                  injection eg with eg1 eg2 eg3
                  subst eg1
                  subst eg3
                  clear eg2
                  have hbx : Below wr.heap.size wr (wr.alloc (.cells #[.bool false, .slice (some ⟨wb, 0, none⟩) 1 cw] 56)) := (Below.refl _ _).alloc (Nat.le_refl _) _
                  have k := cells2 wr (.bool false) (.slice (some ⟨wb, 0, none⟩) 1 cw) 56
                  have x1 := (k 1 _ rfl).1
                  have y2 := cell_stays hbx d2
                  have HR := Lib.hid (hrel.below hbx)
                  have hsg := fun W => sign_any i j (by omega) (by omega) W
                  have HSG := Lib.hid hsg
                  have g7 : (0 : Int) ≤ (j : Int) := by omega
                  have g8 : (j : Int) < (L : Int) := by omega
                  by_cases hjn : j < n i
                  · obtain ⟨g', cap', eg', -, -, hmk'⟩ := (HR.out.is.is i hi).cell hjn
                    obtain ⟨wb', cw', -, d1', d2'⟩ := hmk' hjn
                    rw [HWI.out] at eg'
                    injection eg' with eg1' eg2' eg3'
                    subst eg1'
                    subst eg3'
                    have g9 : (j : Int) < (n i : Int) := by omega
                    generalize mkS i j = y at *
                    have e0 : (y != y) = false := by simp
                    clear hsg hbx k hmk hmk' hcap hjn
                    go_wp2_with fail
                    generalize wr.alloc (.cells #[.bool false, .slice (some ⟨wb, 0, none⟩) 1 cw] 56) = w2 at x1 y2 HR d1' d2' ⊢
                    refine wp_region_still_lit (by kernel_rfl) (by kernel_rfl) ?_
                    repeat still_step
                    still_call ((HSG.out _).mono fun _ _ h => ⟨h.1, h.2.symm⟩)
                    repeat still_step
                    refine wpStill_nil ?_
                    have HR := Lib.hid HR.out.drew
                    have d1' : w2.drew.cell? _ = _ := d1'
                    have d2' : w2.drew.cell? _ = _ := d2'
                    change (Exit.then _ _) _ _ w2.drew
                    clear x1 y2
                    generalize w2.drew = w3 at HR d1' d2' ⊢
                    go_wp2_with fail
                    refine wp_region_still_lit (by kernel_rfl) (by kernel_rfl) ?_
                    repeat still_step
                    still_call ((HSG.out _).mono fun _ _ h => ⟨h.1, h.2.symm⟩)
                    repeat still_step
                    refine wpStill_nil ?_
                    have HR := Lib.hid HR.out.drew
                    change (Exit.then _ _) _ _ w3.drew
                    generalize w3.drew = w4 at HR ⊢
                    go_wp2_with fail
                    go_roundw
                    case rel => exact ⟨j + 1, by omega, by go_num, HR.out⟩
                    case measure => simp [intOf]; omega
                  · have g9 : ¬ ((j : Int) < (n i : Int)) := by omega
                    have g9' : (n i : Int) ≤ (j : Int) := by omega
                    have g9b : decide (j < n i) = false := decide_eq_false hjn
                    generalize mkS i j = y at *
                    have e0 : (y != y) = false := by simp
                    clear hsg hbx k hmk hcap hjn
                    go_wp2_with fail
                    generalize wr.alloc (.cells #[.bool false, .slice (some ⟨wb, 0, none⟩) 1 cw] 56) = w2 at x1 y2 HR ⊢
                    refine wp_region_still_lit (by kernel_rfl) (by kernel_rfl) ?_
                    repeat still_step
                    still_call ((HSG.out _).mono fun _ _ h => ⟨h.1, h.2.symm⟩)
                    repeat still_step
                    refine wpStill_nil ?_
                    have HR := Lib.hid HR.out.drew
                    change (Exit.then _ _) _ _ w2.drew
                    clear x1 y2
                    generalize w2.drew = w3 at HR ⊢
                    go_wp2_with fail
                    go_region
                    all_goals
                      go_wp2_with fail
                      go_roundw
                      case rel => exact ⟨j + 1, by omega, by go_num, HR.out.drew⟩
                      case measure => simp [intOf]; omega
                · obtain rfl : L = j := by omega
                  have HR := Lib.hid hrel
                  clear hrel
                  go_wp2_with fail
                  go_roundw
                  case rel => exact ⟨i + 1, by omega, by go_num, HR.out⟩
                  case measure => simp [intOf]; omega
            · obtain rfl : nI = i := by omega
              have HR := Lib.hid hrel
              clear hrel
              go_wp2_with fail
              go_ret
              exact ⟨rfl, HR.out.is⟩
end Go.Proofs.Ytdlpemmoobbgnaa

namespace Go.Proofs.Ytdlpemmoobbgnaa
open Go.RowKit

set_option maxHeartbeats 1000000 in
set_option maxRecDepth 100000 in
theorem nums_nil (bk : Nat) (w : World) (c2 : w.cell? ⟨bk, 2, none⟩ = some (.slice none 0 0)) :
    Calls Try.prog 95 #[.pointer (some ⟨bk, 0, none⟩)] w fun e w' => e = .returned (.bool true) ∧ Below w.heap.size w w' := by
  have m1 := mk_12s 0 (by omega)
  rw [Int.natCast_zero] at m1
  go_enter Try.func95, Try.ntmps95
  go_wp2_with fail
  go_loopw [3] (fun iv wr => iv = .int .i64 0 ∧ wr.cell? ⟨bk, 2, none⟩ = some (.slice none 0 0) ∧ Below w.heap.size w wr) (fun _ _ => 0)
  case atStart => exact ⟨rfl, c2, Below.refl _ _⟩
  case round =>
    obtain ⟨rfl, c3, hb⟩ := hrel
    have hb1 : Below wr.heap.size wr (wr.alloc (.cells (madeCells #[.slice none 0 0] 0) 45)) := (Below.refl _ _).alloc (Nat.le_refl _) _
    have c4 := cell_stays hb1 c3
    have HB := Lib.hid (hb.trans (hb1.mono hb.size))
    clear hb hb1
    go_wp2_with fail
    generalize wr.alloc (.cells (madeCells #[.slice none 0 0] 0) 45) = W3 at c4 HB ⊢
    go_loopw [7] (fun iv wr => iv = .int .i64 0 ∧ wr.cell? ⟨bk, 2, none⟩ = some (.slice none 0 0) ∧ Below w.heap.size w wr) (fun _ _ => 0)
    case atStart => exact ⟨rfl, c4, HB.out⟩
    case round =>
      clear HB
      obtain ⟨rfl, c5, hb⟩ := hrel
      have HB := Lib.hid hb
      clear hb
      go_wp2_with fail
      go_loopw [10] (fun iv wr => iv = .int .i64 0 ∧ wr.cell? ⟨bk, 2, none⟩ = some (.slice none 0 0) ∧ Below w.heap.size w wr) (fun _ _ => 0)
      case atStart => exact ⟨rfl, c5, HB.out⟩
      case round =>
        clear HB
        obtain ⟨rfl, c6, hb⟩ := hrel
        have HB := Lib.hid hb
        clear hb
        go_wp2_with fail
        go_ret
        exact ⟨rfl, HB.out⟩

theorem IL.keptS {w w' : World} {B C n m k : Nat} {v : Value} {S : Nat → Prop} (h : IL w B C v n m k) (g : GrownS S w w') (hm : m = 0) (hS : ∀ b, S b → ∃ cs fr, w.heap[b]? = some (.cells cs 22 fr)) : IL w' B C v n m k := by
  subst hm
  obtain ⟨b, M, h1, -⟩ := h
  refine ⟨b, M, h1.keptS g fun q hq hs => ?_, fun c hc => absurd hc (by omega)⟩
  obtain ⟨cs, fr, e1⟩ := hS q hs
  obtain ⟨cs', fr', e2⟩ := h1.tag hq
  rw [e1] at e2
  injection e2 with e2
  injection e2 with _ e2 _
  exact tagUI2 e2

set_option maxHeartbeats 1000000 in
theorem Apart_yes (B bk nW : Nat) (W : Nat → Value) (N : Nat → Nat) (vW vI : Value) (nI : Nat) (I : Nat → Value) (n : Nat → Nat) (F : Nat → Nat → Int) (hnW : nW ≤ 16777216) (hN : ∀ k, k < nW → N k ≤ 17592186044000) (hnI : nI ≤ 16777216) (hn : ∀ k, k < nI → n k ≤ 4194304)
    (w : World) (h : WsR w w B bk nW W N vW vI nI I F) (hI : ∀ k, k < nI → IL w B B (I k) (n k) 0 k) (hlow : ∀ k, k < nI → ∀ b, (I k).ownBlock = some b → b < bk) (hap : ∀ k l, k < nI → l < nI → k ≠ l → Value.apart (I k) (I l)) (hB : B ≤ w.heap.size) :
    Calls Try.prog 68 #[.pointer (some ⟨bk, 0, none⟩)] w fun e w' => e = .returned (.bool true) ∧ Below B w w' := by
  have hws := words_yes B bk nW W N vW vI nI I F hnW hN w h hB
  have hnext : ∀ w1, WsR w w1 B bk nW W N vW vI nI I mkS → IsR w1 w1 B B bk vW nW W vI nI I n (fun _ => 0) ∧ B ≤ w1.heap.size := fun w1 h1 => by
    have hs := h1.gr.size
    refine ⟨⟨h1.book, fun k hk => (hI k hk).keptS h1.gr rfl fun b hb => ?_, GrownS.refl _ _, hlow, hap, by omega⟩, by omega⟩
    obtain ⟨k, hk, e⟩ := hb
    exact OwnR.tag (h.ws k hk) e
  have hfin : ∀ w1 w2 w3, WsR w w1 B bk nW W N vW vI nI I mkS → IsR w1 w2 B B bk vW nW W vI nI I n n → Below w2.heap.size w2 w3 → Below B w w3 := fun w1 w2 w3 h1 h2 h3 => by
    have b1 : Below B w w1 := h1.gr.toBelow hB fun b ⟨k, hk, e⟩ => ((h.ws k hk).lt b e).1
    have b2 : Below B w1 w2 := h2.gr.toBelow (Nat.le_trans hB h1.gr.size) fun b ⟨k, hk, e⟩ => ((hI k hk).lt b e).1
    exact (b1.trans b2).trans (h3.mono (Nat.le_trans hB (Nat.le_trans h1.gr.size h2.gr.size)))
  have HW := Lib.hid hws
  have HN := Lib.hid hnext
  have HF := Lib.hid hfin
  clear hws hnext hfin h hI hlow hap
  go_enter Try.func68, Try.ntmps68
  go_wp2_with fail
  refine HW.out.mono ?_
  rintro e w1 ⟨rfl, h1⟩
  have H1 := Lib.hid h1
  have h2 := HN.out w1 h1
  have H2 := Lib.hid (ints_yes B B bk vW nW W vI nI I n hnI hn w1 h2.1 h2.2)
  clear h1 h2
  go_wp2_with fail
  refine H2.out.mono ?_
  rintro e w2 ⟨rfl, h2⟩
  have H3 := Lib.hid h2
  have HU := Lib.hid (nums_nil bk w2 h2.book.c2)
  clear h2
  go_wp2_with fail
  refine HU.out.mono ?_
  rintro e w3 ⟨rfl, hb3⟩
  have HB := Lib.hid (HF.out w1 w2 w3 H1.out H3.out hb3)
  clear hb3
  go_wp2_with fail
  go_ret
  exact ⟨rfl, HB.out⟩
end Go.Proofs.Ytdlpemmoobbgnaa

namespace Go.Proofs.Ytdlpemmoobbgnaa
open Go.RowKit

/-- none, or a list in a block of its own, each integer's words in blocks of their own -/
def LSQ (w : World) (base : Nat) (v : Value) (n : Nat) (X : Nat → Raw) : Prop :=
  (v = .slice none 0 0 ∧ n = 0) ∨ ∃ (lb : Nat) (M : Nat → Value) (y : Nat → Int), v = .slice (some ⟨lb, 0, none⟩) n n ∧ X = (fun q => small (y q)) ∧ n ≤ 4096 ∧ LS 56 22 w base base lb n n X M ∧ ∀ q, q < n → 0 ≤ y q ∧ y q < 2147483648
theorem LSQ.keep : KeepQ LSQ where
  set := fun {w base v n X a} h ha y => by
    rcases h with h | ⟨lb, M, z, e1, e2, e3, h, e4⟩
    · exact Or.inl h
    · exact Or.inr ⟨lb, M, z, e1, e2, e3, h.set ha (by have := h.own; omega) y, e4⟩
  below := fun {w w' base v n X} h hb => by
    rcases h with h | ⟨lb, M, z, e1, e2, e3, h, e4⟩
    · exact Or.inl h
    · exact Or.inr ⟨lb, M, z, e1, e2, e3, h.below hb, e4⟩
  mono := fun {w base base' v n X} h hb => by
    rcases h with h | ⟨lb, M, z, e1, e2, e3, h, e4⟩
    · exact Or.inl h
    · exact Or.inr ⟨lb, M, z, e1, e2, e3, h.mono hb hb, e4⟩
  nil := Or.inl ⟨rfl, rfl⟩
  slice := fun {w base v n X} h => by
    rcases h with ⟨rfl, rfl⟩ | ⟨lb, M, z, rfl, -⟩
    · exact ⟨_, _, rfl⟩
    · exact ⟨_, _, rfl⟩
theorem LSQ.read {w : World} {base : Nat} {v : Value} {n : Nat} {X : Nat → Raw} (h : LSQ w base v n X) : RdL w v n X := by
  rcases h with ⟨rfl, rfl⟩ | ⟨lb, M, z, rfl, rfl, e3, h, e4⟩
  · exact FrL.read (base := 0) (w := w) FrL.nil
  · exact small_read h e3 e4

/-- a matrix answered, or an error and none -/
structure MatD where
  rr : Int
  cc : Int
  nn : Nat
  X : Nat → Raw
  E : Int
def mkD (E : Int) (R C : Nat) (G : Nat → Nat → Int) : MatD := if E = 0 then ⟨R, C, R * C, fun t => small (G (t / C) (t % C)), 0⟩ else ⟨0, 0, 0, fun _ => small 0, E⟩
def MatD.post (D : MatD) (Q : World → Nat → Value → Nat → (Nat → Raw) → Prop) (base : Nat) (e : Ending) (w' : World) : Prop := MatA Q D.rr D.cc D.nn D.X D.E base e w'

theorem AnsM.matQ {w' : World} {base : Nat} {v : Value} {m n : Nat} {G : Nat → Nat → Int} {E : Int} (h : AnsM w' base v E m n G) (hb : E = 0 → m ≤ 64 ∧ n ≤ 64 ∧ ∀ i j, i < m → j < n → 0 ≤ G i j ∧ G i j < 2147483648) :
    (mkD E m n G).post LSQ base (.returned (.tuple #[v, .int .i64 E])) w' := by
  unfold mkD MatD.post
  by_cases e : E = 0
  · rw [if_pos e]
    obtain ⟨hm, hn, hG⟩ := hb e
    obtain ⟨lb, M, rfl, hl⟩ := h.1 e
    refine ⟨_, by rw [e], Or.inr ⟨lb, M, fun t => G (t / n) (t % n), rfl, rfl, Nat.mul_le_mul hm hn, hl, fun q hq => ?_⟩⟩
    have := mul_idx (K := 0) hq
    exact hG _ _ this.1 this.2
  · rw [if_neg e, h.2 e]
    exact ⟨_, rfl, Or.inl ⟨rfl, rfl⟩⟩
theorem mkD_no {Q : World → Nat → Value → Nat → (Nat → Raw) → Prop} (hQ : KeepQ Q) {w' : World} {base m n : Nat} {G : Nat → Nat → Int} {E : Int} (e : E ≠ 0) : (mkD E m n G).post Q base (.returned (.tuple #[.agg #[.int .i64 0, .int .i64 0, .slice none 0 0], .int .i64 E])) w' := by
  unfold mkD MatD.post
  rw [if_neg e]
  exact ⟨_, rfl, hQ.nil⟩
theorem mkD_yes {w' : World} {base m n : Nat} {G : Nat → Nat → Int} {v : Value} (h : OwnF w' base v (m * n) (fun t => small (G (t / n) (t % n)))) (hm : m ≤ 64) (hn : n ≤ 64) : (mkD 0 m n G).post FrL base (.returned (.tuple #[.agg #[.int .i64 m, .int .i64 n, v], .int .i64 0])) w' := by
  unfold mkD MatD.post
  rw [if_pos rfl]
  exact ⟨_, rfl, FrL.own h (by have := Nat.mul_le_mul hm hn; show m * n ≤ _; omega)⟩

def redD (r c p : Int) (n : Nat) (x : Nat → Raw) : MatD := mkD (openE r c n p true) r.toNat c.toNat (resG p c.toNat x)
def echD (r c p : Int) (n : Nat) (x : Nat → Raw) : MatD := mkD (openE r c n p true) r.toNat c.toNat (redS p r.toNat c.toNat (resG p c.toNat x) c.toNat).G
def kerD (r c p : Int) (n : Nat) (x : Nat → Raw) : MatD := mkD (openE r c n p true) (r.toNat - kerR p r.toNat c.toNat x) r.toNat (kerS p r.toNat c.toNat x).G
def invD (r c p : Int) (n : Nat) (x : Nat → Raw) : MatD := mkD (invE r c n x p) r.toNat r.toNat (fun i j => (besS p r.toNat c.toNat x).G i (c.toNat + j))

section
variable (r c p : Int) (hp : 0 ≤ p) (s : Value) (n : Nat) (x : Nat → Raw) (W : World) (hr : RdL W s n x)
include hp hr

theorem pl_Reduce : Calls Try.prog 35 #[.agg #[.int .i64 r, .int .i64 c, s], .int .u64 p] W fun e w' => (redD r c p n x).post LSQ W.heap.size e w' ∧ Below W.heap.size W w' := by
  refine (Reduce_any r c p hp s n x W hr).mono ?_
  rintro e w' ⟨v, rfl, h, hb⟩
  refine ⟨h.matQ fun he => ?_, hb⟩
  obtain ⟨R, C, rfl, rfl, hR, hC, -, p0, p1, -, -⟩ := openE_ok he
  exact ⟨by omega, by omega, fun i j _ _ => by have := resid_bd (x (i * (C : Int).toNat + j)) p (by omega); unfold resG; omega⟩
theorem wa_Reduce : Calls Try.prog 84 #[.agg #[.int .i64 r, .int .i64 c, s], .int .u64 p] W fun e w' => (redD r c p n x).post FrL W.heap.size e w' ∧ Below W.heap.size W w' := by
  by_cases he : openE r c n p true = 0
  · unfold redD
    rw [he]
    obtain ⟨R, C, rfl, rfl, hR, hC, rfl, p0, p1, -, hpr⟩ := openE_ok he
    refine (Reduce12_good R C p hR hC hpr s x W hr).mono ?_
    rintro e w' ⟨v, rfl, h, hb⟩
    exact ⟨mkD_yes h hR hC, hb⟩
  · refine (Reduce12_bad r c p hp s n x W hr he).mono ?_
    rintro e w' ⟨rfl, hb⟩
    exact ⟨mkD_no FrL.keep he, hb⟩

theorem pl_Echelon : Calls Try.prog 25 #[.agg #[.int .i64 r, .int .i64 c, s], .int .u64 p] W fun e w' => (echD r c p n x).post LSQ W.heap.size e w' ∧ Below W.heap.size W w' := by
  refine (Echelon_any r c p hp s n x W hr).mono ?_
  rintro e w' ⟨v, rfl, h, hb⟩
  refine ⟨h.matQ fun he => ?_, hb⟩
  obtain ⟨R, C, rfl, rfl, hR, hC, -, p0, p1, -, -⟩ := openE_ok he
  exact ⟨by omega, by omega, fun i j hi hj => by have := redS_res p0 (resG_res p (by omega) R C C x) C i j (by simpa using hi) (by simpa using hj); simp only [Int.toNat_natCast]; omega⟩
theorem wa_Echelon : Calls Try.prog 87 #[.agg #[.int .i64 r, .int .i64 c, s], .int .u64 p] W fun e w' => (echD r c p n x).post FrL W.heap.size e w' ∧ Below W.heap.size W w' := by
  by_cases he : openE r c n p true = 0
  · unfold echD
    rw [he]
    obtain ⟨R, C, rfl, rfl, hR, hC, rfl, p0, p1, -, hpr⟩ := openE_ok he
    refine (Echelon12_good R C p hR hC hpr s x W hr).mono ?_
    rintro e w' ⟨v, rfl, h, hb⟩
    exact ⟨mkD_yes h hR hC, hb⟩
  · refine (Echelon12_bad r c p hp s n x W hr he).mono ?_
    rintro e w' ⟨rfl, hb⟩
    exact ⟨mkD_no FrL.keep he, hb⟩

theorem pl_Kernel : Calls Try.prog 26 #[.agg #[.int .i64 r, .int .i64 c, s], .int .u64 p] W fun e w' => (kerD r c p n x).post LSQ W.heap.size e w' ∧ Below W.heap.size W w' := by
  refine (Kernel_any r c p hp s n x W hr).mono ?_
  rintro e w' ⟨v, rfl, h, hb⟩
  refine ⟨h.matQ fun he => ?_, hb⟩
  obtain ⟨R, C, rfl, rfl, hR, hC, -, p0, p1, -, -⟩ := openE_ok he
  exact ⟨by omega, by omega, fun i j hi hj => by have := kerS_res p p0 R C x i j (by simpa using hi) (by simpa using hj); simp only [Int.toNat_natCast]; omega⟩
theorem wa_Kernel : Calls Try.prog 89 #[.agg #[.int .i64 r, .int .i64 c, s], .int .u64 p] W fun e w' => (kerD r c p n x).post FrL W.heap.size e w' ∧ Below W.heap.size W w' := by
  by_cases he : openE r c n p true = 0
  · unfold kerD
    rw [he]
    obtain ⟨R, C, rfl, rfl, hR, hC, rfl, p0, p1, -, hpr⟩ := openE_ok he
    refine (Kernel12_good R C p hR hC hpr s x W hr).mono ?_
    rintro e w' ⟨v, rfl, h, hb⟩
    exact ⟨mkD_yes h (show R - kerR p R C x ≤ 64 by omega) hR, hb⟩
  · refine (Kernel12_bad r c p hp s n x W hr he).mono ?_
    rintro e w' ⟨rfl, hb⟩
    exact ⟨mkD_no FrL.keep he, hb⟩

theorem pl_Inverse : Calls Try.prog 20 #[.agg #[.int .i64 r, .int .i64 c, s], .int .u64 p] W fun e w' => (invD r c p n x).post LSQ W.heap.size e w' ∧ Below W.heap.size W w' := by
  refine (Inverse_any r c p hp s n x W hr).mono ?_
  rintro e w' ⟨v, rfl, h, hb⟩
  refine ⟨h.matQ fun hi => ?_, hb⟩
  have he : openE r c n p (r == c) = 0 := by
    unfold invE at hi
    split at hi
    · assumption
    · contradiction
  obtain ⟨R, C, rfl, rfl, hR, hC, -, p0, p1, hrc, -⟩ := openE_ok he
  obtain rfl : R = C := by have : (R : Int) = C := by simpa using hrc
                           omega
  exact ⟨by omega, by omega, fun i j hi hj => by have := besS_res p p0 R R x i (R + j) (by simpa using hi) (by simp at hj; omega); simp only [Int.toNat_natCast]; omega⟩
theorem wa_Inverse : Calls Try.prog 88 #[.agg #[.int .i64 r, .int .i64 c, s], .int .u64 p] W fun e w' => (invD r c p n x).post FrL W.heap.size e w' ∧ Below W.heap.size W w' := by
  unfold invD
  by_cases he : openE r c n p (r == c) = 0
  · obtain ⟨R, C, rfl, rfl, hR, hC, rfl, p0, p1, hrc, hpr⟩ := openE_ok he
    obtain rfl : R = C := by have : (R : Int) = C := by simpa using hrc
                             omega
    have hI : invE R R (R * R) x p = if kerR p R R x < R then 6 else 0 := by unfold invE; rw [if_pos he, Int.toNat_natCast]; rfl
    rw [hI, Int.toNat_natCast]
    refine (Inverse12_good R p hR hpr s x W hr).mono ?_
    by_cases hlt : kerR p R R x < R
    · rw [if_pos hlt]
      rintro e w' ⟨v, rfl, h1, -, hb⟩
      rw [h1 hlt]
      exact ⟨mkD_no FrL.keep (by decide), hb⟩
    · rw [if_neg hlt]
      rintro e w' ⟨v, rfl, -, h2, hb⟩
      obtain ⟨s', rfl, h⟩ := h2 hlt
      exact ⟨mkD_yes h hR hR, hb⟩
  · have hi : invE r c n x p = openE r c n p (r == c) := if_neg he
    rw [hi]
    refine (Inverse12_bad r c p hp s n x W hr (by rw [fit_sq]; exact he)).mono ?_
    rw [fit_sq]
    rintro e w' ⟨rfl, hb⟩
    exact ⟨mkD_no FrL.keep he, hb⟩

theorem wa_Det : Calls Try.prog 85 #[.agg #[.int .i64 r, .int .i64 c, s], .int .u64 p] W fun e w' => e = .returned (.tuple #[.int .u64 (detV r c n x p), .int .i64 (detE r c n p)]) ∧ Below W.heap.size W w' := by
  by_cases he : detE r c n p = 0
  · have hv : detV r c n x p = detM p r.toNat x := if_pos he
    rw [hv]
    obtain ⟨R, C, rfl, rfl, hR, hC, rfl, p0, p1, hrc, hpr⟩ := openE_ok he
    obtain rfl : R = C := by have : (R : Int) = C := by simpa using hrc
                             omega
    rw [he, Int.toNat_natCast]
    exact Det12_good R p hR hpr s x W hr
  · have hv : detV r c n x p = 0 := if_neg he
    rw [hv]
    have := Det12_bad r c p hp s n x W hr (by rw [fit_sq]; exact he)
    rw [fit_sq] at this
    exact this
theorem wa_Rank : Calls Try.prog 86 #[.agg #[.int .i64 r, .int .i64 c, s], .int .u64 p] W fun e w' => e = .returned (.tuple #[.int .i64 (rankV r c n x p), .int .i64 (openE r c n p true)]) ∧ Below W.heap.size W w' := by
  by_cases he : openE r c n p true = 0
  · have hv : rankV r c n x p = ((redS p r.toNat c.toNat (resG p c.toNat x) c.toNat).P.length : Nat) := if_pos he
    rw [hv, he]
    obtain ⟨R, C, rfl, rfl, hR, hC, rfl, p0, p1, -, hpr⟩ := openE_ok he
    rw [Int.toNat_natCast, Int.toNat_natCast]
    exact Rank12_good R C p hR hC hpr s x W hr
  · have hv : rankV r c n x p = 0 := if_neg he
    rw [hv]
    exact Rank12_bad r c p hp s n x W hr he

/-- Solve's list: how many, and which -/
def solN (r c : Int) (n nb : Nat) (x b : Nat → Raw) (p : Int) : Nat := if solE r c n nb x b p = 0 then r.toNat else 0
def solX (r c : Int) (n nb : Nat) (x b : Nat → Raw) (p : Int) : Nat → Raw := if solE r c n nb x b p = 0 then fun t => small (sol3 p r.toNat c.toNat x b t) else fun _ => small 0

theorem pl_Solve (sb : Value) (nb : Nat) (b : Nat → Raw) (hrb : RdL W sb nb b) : Calls Try.prog 29 #[.agg #[.int .i64 r, .int .i64 c, s], sb, .int .u64 p] W fun e w' => LstA LSQ (solN r c n nb x b p) (solX r c n nb x b p) (solE r c n nb x b p) W.heap.size e w' ∧ Below W.heap.size W w' := by
  refine (Solve_any r c p hp s n x sb nb b W hr hrb).mono ?_
  rintro e w' ⟨v, rfl, h1, h2, hb⟩
  refine ⟨?_, hb⟩
  unfold solN solX
  by_cases e : solE r c n nb x b p = 0
  · rw [if_pos e, if_pos e]
    have he : openE r c n p ((nb : Int) == c) = 0 := by
      unfold solE at e
      split at e
      · assumption
      · contradiction
    obtain ⟨R, C, rfl, rfl, hR, hC, -, p0, p1, hrc, hpr⟩ := openE_ok he
    have hz : anyNZ (sol1 p R C x b) C = false := by
      unfold solE at e
      rw [if_pos he, Int.toNat_natCast, Int.toNat_natCast] at e
      cases h : anyNZ (sol1 p R C x b) C with
      | false => rfl
      | true => rw [h] at e; simp at e
    have hg := sol_good (R := R) (C := C) (xa := x) (b := b) hpr hz
    obtain ⟨lb, M, rfl, hl⟩ := h1 e
    exact ⟨_, rfl, Or.inr ⟨lb, M, fun t => sol3 p (R : Int).toNat (C : Int).toNat x b t, rfl, rfl, by simp; omega, hl, fun q hq => by have := hg.1 q (by simpa using hq); simp only [Int.toNat_natCast]; omega⟩⟩
  · rw [if_neg e, if_neg e, h2 e]
    exact ⟨_, rfl, Or.inl ⟨rfl, rfl⟩⟩
theorem wa_Solve (sb : Value) (nb : Nat) (b : Nat → Raw) (hrb : RdL W sb nb b) : Calls Try.prog 90 #[.agg #[.int .i64 r, .int .i64 c, s], sb, .int .u64 p] W fun e w' => LstA FrL (solN r c n nb x b p) (solX r c n nb x b p) (solE r c n nb x b p) W.heap.size e w' ∧ Below W.heap.size W w' := by
  unfold solN solX
  by_cases he : openE r c n p ((nb : Int) == c) = 0
  · obtain ⟨R, C, rfl, rfl, hR, hC, rfl, p0, p1, hrc, hpr⟩ := openE_ok he
    obtain rfl : nb = C := by have : (nb : Int) = C := by simpa using hrc
                              omega
    have hI : solE R nb (R * nb) nb x b p = if anyNZ (sol1 p R nb x b) nb = true then 6 else 0 := by unfold solE; rw [if_pos he, Int.toNat_natCast, Int.toNat_natCast]
    refine (Solve12_good R nb p hR hC hpr s x sb b W hr hrb).mono ?_
    rw [hI]
    by_cases hz : anyNZ (sol1 p R nb x b) nb = true
    · rw [if_pos hz, if_neg (by decide), if_neg (by decide)]
      rintro e w' ⟨v, rfl, h1, -, hb⟩
      rw [h1 hz]
      exact ⟨⟨_, rfl, FrL.nil⟩, hb⟩
    · have hz' : anyNZ (sol1 p R nb x b) nb = false := by simpa using hz
      rw [if_neg hz, if_pos rfl, if_pos rfl]
      rintro e w' ⟨v, rfl, -, h2, hb⟩
      rw [Int.toNat_natCast, Int.toNat_natCast]
      exact ⟨⟨_, rfl, FrL.own (h2 hz') (by omega)⟩, hb⟩
  · have hI : solE r c n nb x b p = openE r c n p ((nb : Int) == c) := if_neg he
    rw [hI, if_neg he, if_neg he]
    refine (Solve12_bad r c p hp s n x sb nb b W hr hrb he).mono ?_
    rintro e w' ⟨rfl, hb⟩
    exact ⟨⟨_, rfl, FrL.nil⟩, hb⟩
end
end Go.Proofs.Ytdlpemmoobbgnaa
