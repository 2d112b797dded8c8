/- The book of law12.keeps: fiveA answers, the words of roomy's list, the list itself. What the walk of the law's keeps leans on. The walk of the law's keeps: the call between is made. -/
import Derived.Test.YtdlpemmoobbgnaaGU
import Derived.Test.YtdlpemmoobbgnaaGY
import Derived.Deep.RegionHeld3
import Derived.Deep.DeepCutAuto
set_option linter.unusedVariables false
set_option linter.unusedSimpArgs false
namespace Go.Proofs.Ytdlpemmoobbgnaa
open Go.RowKit

/-- an answer made between lo and hi -/
structure Ab where
  lo : Nat
  hi : Nat
  D : AnsD
  sa : Option Addr
  sc : Nat
  la : Option Addr
  lc : Nat
structure Ab.Ok (A : Ab) (w : World) (M M' : Nat → Value) : Prop where
  s : Itm w A.lo A.hi (.slice A.sa A.D.nn A.sc) A.D.nn M
  l : Itm w A.lo A.hi (.slice A.la A.D.mm A.lc) A.D.mm M'
  one : Value.slice A.sa A.D.nn A.sc = .slice none 0 0 ∨ Value.slice A.la A.D.mm A.lc = .slice none 0 0
theorem Ab.Ok.at {A : Ab} {w w' : World} {M M' : Nat → Value} (h : A.Ok w M M') {bk : Nat} (hb : Below bk w w') (hk : A.hi ≤ bk) : A.Ok w' M M' := ⟨h.s.at hb hk, h.l.at hb hk, h.one⟩
theorem AnsK.ab {w : World} {bx lo hi : Nat} {D : AnsD} {sa la : Option Addr} {sc lc : Nat} (h : AnsK w bx lo hi D (.slice sa D.nn sc) (.slice la D.mm lc)) : ∃ M M', Ab.Ok ⟨lo, hi, D, sa, sc, la, lc⟩ w M M' := by
  obtain ⟨M, M', h1, h2⟩ := h.itms
  exact ⟨M, M', h1, h2, h.one⟩
/-- fiveA answers, one made behind the other -/
structure Abs (w : World) (B lo0 bk : Nat) (A : Nat → Ab) : Prop where
  ok : ∀ j, j < 5 → ∃ M M', (A j).Ok w M M'
  ord : ∀ i j, i < j → j < 5 → (A i).hi ≤ (A j).lo
  lo : ∀ j, j < 5 → lo0 ≤ (A j).lo
  hi : ∀ j, j < 5 → (A j).hi ≤ bk
  B : B ≤ lo0
def fiveA (a b c d e : Ab) : Nat → Ab
  | 0 => a
  | 1 => b
  | 2 => c
  | 3 => d
  | _ => e
theorem fiveA_all {a b c d e : Ab} {p : Ab → Prop} (ha : p a) (hb : p b) (hc : p c) (hd : p d) (he : p e) : ∀ j, p (fiveA a b c d e j)
  | 0 => ha
  | 1 => hb
  | 2 => hc
  | 3 => hd
  | _ + 4 => he
theorem Abs.mk5 {w : World} {B lo0 bk : Nat} {a b c d e : Ab} (ha : ∃ M M', a.Ok w M M') (hb : ∃ M M', b.Ok w M M') (hc : ∃ M M', c.Ok w M M') (hd : ∃ M M', d.Ok w M M') (he : ∃ M M', e.Ok w M M') (h0 : B ≤ lo0) (h1 : lo0 ≤ a.lo) (h2 : a.hi ≤ b.lo) (h3 : b.hi ≤ c.lo) (h4 : c.hi ≤ d.lo) (h5 : d.hi ≤ e.lo) (h6 : e.hi ≤ bk)
    (ga : a.lo ≤ a.hi) (gb : b.lo ≤ b.hi) (gc : c.lo ≤ c.hi) (gd : d.lo ≤ d.hi) (ge : e.lo ≤ e.hi) : Abs w B lo0 bk (fiveA a b c d e) := by
  refine ⟨fun j _ => fiveA_all (p := fun A => ∃ M M', A.Ok w M M') ha hb hc hd he j, fun i j hij hj => ?_, fun j _ => fiveA_all (p := fun A => lo0 ≤ A.lo) h1 (by omega) (by omega) (by omega) (by omega) j, fun j _ => fiveA_all (p := fun A => A.hi ≤ bk) (by omega) (by omega) (by omega) (by omega) (by omega) j, h0⟩
  have : j = 1 ∨ j = 2 ∨ j = 3 ∨ j = 4 := by omega
  rcases this with rfl | rfl | rfl | rfl
  · obtain rfl : i = 0 := by omega
    exact h2
  · have : i = 0 ∨ i = 1 := by omega
    rcases this with rfl | rfl
    · show a.hi ≤ c.lo; omega
    · exact h3
  · have : i = 0 ∨ i = 1 ∨ i = 2 := by omega
    rcases this with rfl | rfl | rfl
    · show a.hi ≤ d.lo; omega
    · show b.hi ≤ d.lo; omega
    · exact h4
  · have : i = 0 ∨ i = 1 ∨ i = 2 ∨ i = 3 := by omega
    rcases this with rfl | rfl | rfl | rfl
    · show a.hi ≤ e.lo; omega
    · show b.hi ≤ e.lo; omega
    · show c.hi ≤ e.lo; omega
    · exact h5

/-- the fiveA answers in one block -/
def Fl (w : World) (sl : Nat) (A : Nat → Ab) : Prop := ∃ cs, w.heap[sl]? = some (.cells cs 92 (0, 0)) ∧ ∀ j, j < 5 → cs[j * 8]? = some (.int .i64 (A j).D.rr) ∧ cs[j * 8 + 1]? = some (.int .i64 (A j).D.cc) ∧ cs[j * 8 + 2]? = some (.slice (A j).sa (A j).D.nn (A j).sc) ∧ cs[j * 8 + 3]? = some (.slice (A j).la (A j).D.mm (A j).lc) ∧ cs[j * 8 + 4]? = some (.int .u64 (A j).D.W) ∧ cs[j * 8 + 5]? = some (.int .i64 (A j).D.N) ∧ cs[j * 8 + 6]? = some (.bool (A j).D.ok) ∧ cs[j * 8 + 7]? = some (.int .i64 (A j).D.E)
theorem Fl.made (w : World) (a b c d e : Ab) : Fl (w.alloc (.cells #[.int .i64 a.D.rr, .int .i64 a.D.cc, .slice a.sa a.D.nn a.sc, .slice a.la a.D.mm a.lc, .int .u64 a.D.W, .int .i64 a.D.N, .bool a.D.ok, .int .i64 a.D.E, .int .i64 b.D.rr, .int .i64 b.D.cc, .slice b.sa b.D.nn b.sc, .slice b.la b.D.mm b.lc, .int .u64 b.D.W, .int .i64 b.D.N, .bool b.D.ok, .int .i64 b.D.E, .int .i64 c.D.rr, .int .i64 c.D.cc, .slice c.sa c.D.nn c.sc, .slice c.la c.D.mm c.lc, .int .u64 c.D.W, .int .i64 c.D.N, .bool c.D.ok, .int .i64 c.D.E, .int .i64 d.D.rr, .int .i64 d.D.cc, .slice d.sa d.D.nn d.sc, .slice d.la d.D.mm d.lc, .int .u64 d.D.W, .int .i64 d.D.N, .bool d.D.ok, .int .i64 d.D.E, .int .i64 e.D.rr, .int .i64 e.D.cc, .slice e.sa e.D.nn e.sc, .slice e.la e.D.mm e.lc, .int .u64 e.D.W, .int .i64 e.D.N, .bool e.D.ok, .int .i64 e.D.E] 92)) w.heap.size (fiveA a b c d e) := by
  refine ⟨_, heap_alloc_new w _, fun j hj => ?_⟩
  have : j = 0 ∨ j = 1 ∨ j = 2 ∨ j = 3 ∨ j = 4 := by omega
  rcases this with rfl | rfl | rfl | rfl | rfl <;> exact ⟨rfl, rfl, rfl, rfl, rfl, rfl, rfl, rfl⟩
theorem Fl.keep {w w' : World} {sl bk : Nat} {A : Nat → Ab} (h : Fl w sl A) (hk : KeepT bk w w') (hne : sl ≠ bk) : Fl w' sl A := by
  obtain ⟨cs, h1, h2⟩ := h
  exact ⟨cs, hk _ _ _ hne h1, h2⟩
theorem Fl.cells {w : World} {sl j : Nat} {A : Nat → Ab} (h : Fl w sl A) (hj : j < 5) : w.cell? ⟨sl, j * 8, none⟩ = some (.int .i64 (A j).D.rr) ∧ w.cell? ⟨sl, j * 8 + 1, none⟩ = some (.int .i64 (A j).D.cc) ∧ w.cell? ⟨sl, j * 8 + 2, none⟩ = some (.slice (A j).sa (A j).D.nn (A j).sc) ∧ w.cell? ⟨sl, j * 8 + 3, none⟩ = some (.slice (A j).la (A j).D.mm (A j).lc) ∧ w.cell? ⟨sl, j * 8 + 4, none⟩ = some (.int .u64 (A j).D.W) ∧ w.cell? ⟨sl, j * 8 + 5, none⟩ = some (.int .i64 (A j).D.N) ∧ w.cell? ⟨sl, j * 8 + 6, none⟩ = some (.bool (A j).D.ok) ∧ w.cell? ⟨sl, j * 8 + 7, none⟩ = some (.int .i64 (A j).D.E) := by
  obtain ⟨cs, h1, h2⟩ := h
  obtain ⟨c0, c1, c2, c3, c4, c5, c6, c7⟩ := h2 j hj
  refine ⟨?_, ?_, ?_, ?_, ?_, ?_, ?_, ?_⟩ <;> (rw [cell_of_row _ _ _ _ _ _ h1]; assumption)
/-- one answer in a box -/
def Bx (w : World) (bx : Nat) (a : Ab) : Prop := w.heap[bx]? = some (.cells #[.int .i64 a.D.rr, .int .i64 a.D.cc, .slice a.sa a.D.nn a.sc, .slice a.la a.D.mm a.lc, .int .u64 a.D.W, .int .i64 a.D.N, .bool a.D.ok, .int .i64 a.D.E] 92 (0, 0))
theorem Bx.made (w : World) (a : Ab) : Bx (w.alloc (.cells #[.int .i64 a.D.rr, .int .i64 a.D.cc, .slice a.sa a.D.nn a.sc, .slice a.la a.D.mm a.lc, .int .u64 a.D.W, .int .i64 a.D.N, .bool a.D.ok, .int .i64 a.D.E] 92)) w.heap.size a := heap_alloc_new w _
theorem Bx.keep {w w' : World} {bx bk : Nat} {a : Ab} (h : Bx w bx a) (hk : KeepT bk w w') (hne : bx ≠ bk) : Bx w' bx a := hk _ _ _ hne h
theorem Bx.cells {w : World} {bx : Nat} {a : Ab} (h : Bx w bx a) : w.cell? ⟨bx, 0, none⟩ = some (.int .i64 a.D.rr) ∧ w.cell? ⟨bx, 1, none⟩ = some (.int .i64 a.D.cc) ∧ w.cell? ⟨bx, 2, none⟩ = some (.slice a.sa a.D.nn a.sc) ∧ w.cell? ⟨bx, 3, none⟩ = some (.slice a.la a.D.mm a.lc) ∧ w.cell? ⟨bx, 4, none⟩ = some (.int .u64 a.D.W) ∧ w.cell? ⟨bx, 5, none⟩ = some (.int .i64 a.D.N) ∧ w.cell? ⟨bx, 6, none⟩ = some (.bool a.D.ok) ∧ w.cell? ⟨bx, 7, none⟩ = some (.int .i64 a.D.E) := by
  refine ⟨?_, ?_, ?_, ?_, ?_, ?_, ?_, ?_⟩ <;> (rw [cell_of_row _ _ _ _ _ _ h]; rfl)

/-- the book behind j answers -/
structure BkL (w wr : World) (B lo0 bk : Nat) (A : Nat → Ab) (j : Nat) : Prop where
  bks : ∃ vW nW W vI I P, BkS wr B bk vW nW W vI (2 * j) I P ∧ nW ≤ j * 8192 ∧ ∀ b, P b → lo0 ≤ b ∧ ∃ i, i < j ∧ b < (A i).hi
  bel : Below bk w wr
/-- the book behind j answers and the first list of the next one -/
def BkM (w w1 : World) (B lo0 bk : Nat) (A : Nat → Ab) (j : Nat) : Prop :=
  ∃ w0 vW nW W vI I P M M' W' I' vW1 vI1, BkS w0 B bk vW nW W vI (2 * j) I P ∧ nW ≤ j * 8192 ∧ (∀ b, P b → lo0 ≤ b ∧ ∃ i, i < j ∧ b < (A i).hi) ∧ Below bk w w0 ∧ Below bk w0 w1 ∧ BookR w1 bk vW1 (nW + (A j).D.nn) W' vI1 (2 * j + 1) I' ∧ (A j).Ok w M M' ∧
    (∀ k, k < nW → W' k = W k) ∧ (∀ i, i < (A j).D.nn → W' (nW + i) = M i) ∧ (∀ i, i < (A j).D.mm → W' (nW + (A j).D.nn + i) = M' i) ∧ (∀ k, k < 2 * j → I' k = I k) ∧ I' (2 * j) = .slice (A j).sa (A j).D.nn (A j).sc ∧ I' (2 * j + 1) = .slice (A j).la (A j).D.mm (A j).lc

section
variable {w wr : World} {B lo0 bk j : Nat} {A : Nat → Ab}
theorem BkL.start {W0 : World} (hk : W0.heap.size = bk) (t : TypeId) (hw : Below bk w W0) : BkL w (W0.alloc (.cells #[.slice none 0 0, .slice none 0 0, .slice none 0 0] t)) B lo0 bk A 0 := by
  subst hk
  have hc := cellsOf W0 [.slice none 0 0, .slice none 0 0, .slice none 0 0] t
  refine ⟨⟨_, 0, fun _ => .slice none 0 0, _, fun _ => .slice none 0 0, fun _ => False, ⟨⟨hc 0 _ rfl, hc 1 _ rfl, (hc 2 _ rfl).1, ⟨by simp, Or.inl ⟨rfl, rfl⟩⟩, ⟨by simp, Or.inl ⟨rfl, rfl⟩⟩⟩, fun k hk => absurd hk (by omega), fun k hk => absurd hk (by omega), fun b hb => hb.elim, fun k l hk => absurd hk (by omega), fun k l hk => absurd hk (by omega)⟩, by omega, fun b hb => hb.elim⟩, hw.trans ((Below.refl _ _).alloc (Nat.le_refl _) _)⟩
theorem BkL.below {w' : World} (h : BkL w wr B lo0 bk A j) (hb : Below wr.heap.size wr w') : BkL w w' B lo0 bk A j := by
  obtain ⟨⟨vW, nW, W, vI, I, P, h1, h2, h3⟩, h4⟩ := h
  have hbk := hb.mono (Nat.le_of_lt h1.book.lt)
  exact ⟨⟨vW, nW, W, vI, I, P, ⟨h1.book.below hb, fun k hk => ⟨(h1.ws k hk).1.elim fun N g => g.elim fun F g => ⟨N, F, g.1, g.2.below hb⟩, (h1.ws k hk).2⟩, fun k hk => ⟨(h1.is k hk).1.elim fun n g => ⟨n, g.1, g.2.below hb⟩, (h1.is k hk).2⟩, h1.low, h1.apW, h1.apI⟩, h2, h3⟩, h4.trans hbk⟩
theorem BkL.lt (h : BkL w wr B lo0 bk A j) : bk < wr.heap.size := by
  obtain ⟨⟨vW, nW, W, vI, I, P, h1, -⟩, -⟩ := h
  exact h1.book.lt
theorem BkL.mat (h : BkL w wr B lo0 bk A j) (hA : Abs w B lo0 bk A) (hj : j < 5) :
    Calls Try.prog 65 #[.pointer (some ⟨bk, 0, none⟩), .agg #[.int .i64 (A j).D.rr, .int .i64 (A j).D.cc, .slice (A j).sa (A j).D.nn (A j).sc]] wr fun e w1 => e = .returned (.tuple #[]) ∧ BkM w w1 B lo0 bk A j ∧ KeepT bk wr w1 := by
  obtain ⟨⟨vW, nW, W, vI, I, P, h1, h2, h3⟩, h4⟩ := h
  obtain ⟨M, M', hok⟩ := hA.ok j hj
  have hok' := hok.at h4 (hA.hi j hj)
  have e1 : ∀ i, i < (A j).D.nn → (fun k => if k < nW then W k else if k < nW + (A j).D.nn then M (k - nW) else M' (k - nW - (A j).D.nn)) (nW + i) = M i := fun i hi => by
    simp only
    rw [if_neg (by omega), if_pos (by omega), show nW + i - nW = i by omega]
  have e2 : ∀ i, i < (A j).D.mm → (fun k => if k < nW then W k else if k < nW + (A j).D.nn then M (k - nW) else M' (k - nW - (A j).D.nn)) (nW + (A j).D.nn + i) = M' i := fun i hi => by
    simp only
    rw [if_neg (by omega), if_neg (by omega), show nW + (A j).D.nn + i - nW - (A j).D.nn = i by omega]
  have e3 : ∀ k, k < nW → (fun k => if k < nW then W k else if k < nW + (A j).D.nn then M (k - nW) else M' (k - nW - (A j).D.nn)) k = W k := fun k hk => if_pos hk
  have e4 : ∀ k, k < 2 * j → (fun k => if k < 2 * j then I k else if k = 2 * j then Value.slice (A j).sa (A j).D.nn (A j).sc else .slice (A j).la (A j).D.mm (A j).lc) k = I k := fun k hk => if_pos hk
  have e5 : (fun k => if k < 2 * j then I k else if k = 2 * j then Value.slice (A j).sa (A j).D.nn (A j).sc else .slice (A j).la (A j).D.mm (A j).lc) (2 * j) = .slice (A j).sa (A j).D.nn (A j).sc := by simp
  have e6 : (fun k => if k < 2 * j then I k else if k = 2 * j then Value.slice (A j).sa (A j).D.nn (A j).sc else .slice (A j).la (A j).D.mm (A j).lc) (2 * j + 1) = .slice (A j).la (A j).D.mm (A j).lc := by
    simp only
    rw [if_neg (by omega), if_neg (by omega)]
  refine (Mat_any bk vW nW W vI (2 * j) I (A j).D.rr (A j).D.cc _ (A j).D.nn M (by have := hok.s.nb; omega) (by omega) (by omega) wr h1.book (hok'.s.rdms (hA.hi j hj)) _ _ e3 e1 e4 e5).mono ?_
  rintro e w1 ⟨rfl, ⟨vW', vI', hbk⟩, hb, hk⟩
  exact ⟨rfl, ⟨wr, vW, nW, W, vI, I, P, M, M', _, _, vW', vI', h1, h2, h3, h4, hb, hbk, hok, e3, e1, e2, e4, e5, e6⟩, hk⟩
theorem BkM.row {w1 : World} (h : BkM w w1 B lo0 bk A j) (hA : Abs w B lo0 bk A) (hj : j < 5) :
    Calls Try.prog 66 #[.pointer (some ⟨bk, 0, none⟩), .slice (A j).la (A j).D.mm (A j).lc] w1 fun e w2 => e = .returned (.tuple #[]) ∧ BkL w w2 B lo0 bk A (j + 1) ∧ KeepT bk w1 w2 := by
  obtain ⟨w0, vW, nW, W, vI, I, P, M, M', W', I', vW1, vI1, h1, h2, h3, h4, h5, hbk, hok, e3, e1, e2, e4, e5, e6⟩ := h
  have hok1 := hok.at (h4.trans h5) (hA.hi j hj)
  have hok0 := hok.at h4 (hA.hi j hj)
  have hn := hok.s.nb
  have hm := hok.l.nb
  refine (Row_any bk vW1 (nW + (A j).D.nn) W' vI1 (2 * j + 1) I' _ (A j).D.mm M' (by omega) (by omega) (by omega) w1 hbk (hok1.l.rdms (hA.hi j hj)) W' I' (fun _ _ => rfl) e2 (fun _ _ => rfl) e6).mono ?_
  rintro e w2 ⟨rfl, ⟨vW2, vI2, hbk2⟩, hb, hk⟩
  have hP : ∀ b, P b → b < (A j).lo := fun b hb => by
    obtain ⟨-, i, hi, hlt⟩ := h3 b hb
    have := hA.ord i j hi hj
    omega
  have hfin := h1.two (w1 := w1) (h5.trans hb) hbk2 hok0.s hok0.l hok.one (Nat.le_trans hA.B (hA.lo j hj)) (hA.hi j hj) hP e3 e1 e2 e4 e5 e6
  refine ⟨rfl, ⟨⟨vW2, _, W', vI2, I', _, hfin, by omega, fun b hb => ?_⟩, (h4.trans h5).trans hb⟩, hk⟩
  rcases hb with hb | ⟨hb1, hb2⟩
  · obtain ⟨g1, i, g2, g3⟩ := h3 b hb
    exact ⟨g1, i, by omega, g3⟩
  · exact ⟨Nat.le_trans (hA.lo j hj) hb1, j, by omega, hb2⟩
end

/-- the book behind the fiveA answers and the words of i integers -/
structure BkW (w wr : World) (B lo0 bk : Nat) (R : Nat → Nat) (i : Nat) : Prop where
  bks : ∃ vW nW W vI I P, BkS wr B bk vW nW W vI 10 I P ∧ nW ≤ 40960 + i ∧ ∀ b, P b → lo0 ≤ b ∨ ∃ k, k < i ∧ b = R k
  bel : Below bk w wr
section
variable {w wr : World} {B lo0 bk L i : Nat} {A : Nat → Ab} {vF vM : Value} {R : Nat → Nat} {Z : Nat → Raw}
theorem BkL.words (h : BkL w wr B lo0 bk A 5) : BkW w wr B lo0 bk R 0 := by
  obtain ⟨⟨vW, nW, W, vI, I, P, h1, h2, h3⟩, h4⟩ := h
  exact ⟨⟨vW, nW, W, vI, I, P, h1, h2, fun b hb => Or.inl (h3 b hb).1⟩, h4⟩
theorem BkW.lt (h : BkW w wr B lo0 bk R i) : bk < wr.heap.size := by
  obtain ⟨⟨vW, nW, W, vI, I, P, h1, -⟩, -⟩ := h
  exact h1.book.lt
theorem BkW.below {w' : World} (h : BkW w wr B lo0 bk R i) (hb : Below wr.heap.size wr w') : BkW w w' B lo0 bk R i := by
  obtain ⟨⟨vW, nW, W, vI, I, P, h1, h2, h3⟩, h4⟩ := h
  have hbk := hb.mono (Nat.le_of_lt h1.book.lt)
  exact ⟨⟨vW, nW, W, vI, I, P, ⟨h1.book.below hb, fun k hk => ⟨(h1.ws k hk).1.elim fun N g => g.elim fun F g => ⟨N, F, g.1, g.2.below hb⟩, (h1.ws k hk).2⟩, fun k hk => ⟨(h1.is k hk).1.elim fun n g => ⟨n, g.1, g.2.below hb⟩, (h1.is k hk).2⟩, h1.low, h1.apW, h1.apI⟩, h2, h3⟩, h4.trans hbk⟩
theorem BkW.word (h : BkW w wr B lo0 bk R i) (hr : RoW w B lo0 L vF vM R Z) (hi : i < L) (hL : L ≤ 16464) (h0 : lo0 ≤ bk) (hz : (Z i).n ≤ 1048576) :
    Calls Try.prog 67 #[.pointer (some ⟨bk, 0, none⟩), romW (R i) (Z i)] wr fun e w' => e = .returned (.tuple #[]) ∧ BkW w w' B lo0 bk R (i + 1) := by
  obtain ⟨⟨vW, nW, W, vI, I, P, h1, h2, h3⟩, h4⟩ := h
  obtain ⟨b1, b2, b3⟩ := hr.blk i hi
  have e3 : ∀ k, k < nW → (fun k => if k < nW then W k else romW (R i) (Z i)) k = W k := fun k hk => if_pos hk
  have e1 : (fun k => if k < nW then W k else romW (R i) (Z i)) nW = romW (R i) (Z i) := if_neg (by omega)
  refine (Word_any bk vW nW W vI 10 I (some ⟨R i, 0, none⟩) ((Z i).n + 80) ((Z i).n + 80) (by omega) wr h1.book _ e3 e1).mono ?_
  rintro e w' ⟨rfl, ⟨vW', hbk⟩, hb, -⟩
  have hwl : WL w B (romW (R i) (Z i)) ((Z i).n + 80) (roomF (Z i).n (Z i).f) := WL.of_blk b2 b1 (hr.rom.ws i hi) (Nat.le_refl _) (Nat.le_refl _)
  have hwl' : WL wr B (romW (R i) (Z i)) ((Z i).n + 80) (roomF (Z i).n (Z i).f) := OwnR.at hwl fun c hc => h4.block c (by
    have : c = R i := by simpa [romW, Value.ownBlock] using hc.symm
    omega)
  have hP : ¬ P (R i) := fun hp => by
    rcases h3 _ hp with h | ⟨k, hk, e⟩
    · omega
    · exact hr.ap i k hi (by omega) (by omega) e
  refine ⟨rfl, ⟨⟨vW', nW + 1, _, vI, I, _, h1.word hb hbk (g := R i) rfl ⟨_, _, by omega, hwl'⟩ hP (by omega) e3 e1, by omega, fun b hb => ?_⟩, h4.trans hb⟩⟩
  rcases hb with hb | rfl
  · rcases h3 b hb with h | ⟨k, hk, e⟩
    · exact Or.inl h
    · exact Or.inr ⟨k, by omega, e⟩
  · exact Or.inr ⟨i, by omega, rfl⟩
/-- a word's cell in roomy's second list -/
theorem BkW.cell (h : BkW w wr B lo0 bk R i) {bM cM : Nat} (hr : RoW w B lo0 L vF (.slice (some ⟨bM, 0, none⟩) L cM) R Z) (h0 : lo0 ≤ bk) {k : Nat} (hk : k < L) : wr.cell? ⟨bM, k, none⟩ = some (romW (R k) (Z k)) := by
  obtain ⟨b, cap, e, -, hc⟩ := hr.rom.M
  injection e with e1 _ e3
  injection e1 with e1
  injection e1 with e1
  subst e1
  obtain ⟨b', e', hlt, -⟩ := hr.mb
  obtain rfl : bM = b' := by simpa [Value.ownBlock] using e'
  rw [cell_block (h.bel.block bM (by omega))]
  exact hc k hk
/-- the list itself at last: all lists lie apart -/
theorem BkS.last {w2 : World} {nW : Nat} {vW vI vI' : Value} {W I I' : Nat → Value} {P : Nat → Prop} (h1 : BkS wr B bk vW nW W vI 10 I P) (h2 : nW ≤ 40960 + L) (h3 : ∀ b, P b → lo0 ≤ b ∨ ∃ k, k < L ∧ b = R k) (h4 : Below bk w wr) (hr : RoW w B lo0 L vF vM R Z) (hL : L ≤ 16464) (h0 : lo0 ≤ bk)
    (hb : Below bk wr w2) (hbk : BookR w2 bk vW nW W vI' 11 I') (hI1 : ∀ k, k < 10 → I' k = I k) (hI2 : I' 10 = vF) (hB : B ≤ w2.heap.size) :
    Calls Try.prog 68 #[.pointer (some ⟨bk, 0, none⟩)] w2 fun e w' => e = .returned (.bool true) ∧ Below B w2 w' := by
  obtain ⟨bF, e, f1, f2⟩ := hr.fb
  obtain ⟨b', M, g2, -⟩ := hr.il
  have hil : IL wr B B vF L 0 0 := ⟨b', M, g2.at fun b hc => h4.block b (by
    rw [e] at hc
    injection hc with hc
    omega), fun c hc => absurd hc (by omega)⟩
  have hP : ¬ P bF := fun hp => by
    rcases h3 _ hp with h | ⟨k, hk, e⟩
    · omega
    · exact f2 k hk e
  exact (h1.ints (n := L) hb hbk (g := bF) e ⟨L, by omega, hil⟩ hP (by omega) hI1 hI2).apart (by omega) (by omega) hB
end
end Go.Proofs.Ytdlpemmoobbgnaa

namespace Go.Proofs.Ytdlpemmoobbgnaa
open Go.RowKit

/-- one list behind the other -/
def catL (n : Nat) (x b : Nat → Raw) : Nat → Raw := fun i => if i < n then x i else b (i - n)

theorem RdL.words {w : World} {v : Value} {n : Nat} {X : Nat → Raw} (h : RdL w v n X) : ∀ i, i < n → Words (X i).n (X i).f := fun i hi => by
  obtain ⟨a, cap, rfl, -, -, hc⟩ := h
  obtain ⟨b, o, e, hc2⟩ := hc (by omega)
  obtain ⟨m, -, -, h3⟩ := hc2 i hi
  exact h3.2
/-- the call over the full list -/
theorem plays_in {k r c p : Int} (hk : 3 ≤ k ∧ k ≤ 9) (hp : 0 ≤ p) {bF cF n nb L B lo : Nat} {a1 : Option Addr} {vM : Value} {R : Nat → Nat} {Z X : Nat → Raw} {D : AnsD} {w : World} (hr : RoW w B lo L (.slice (some ⟨bF, 0, none⟩) L cF) vM R Z) (hz : ∀ k, k < L → (Z k).n ≤ 1048576 ∧ Words (Z k).n (Z k).f)
    (hle : n + nb ≤ L) (hL : L ≤ 16464) (ha : 0 < nb → ∃ b o, some (⟨bF, 0, none⟩ : Addr) = some ⟨b, o, none⟩ ∧ a1 = some ⟨b, o + n * 2, none⟩) (hD : D = ansT k r c p n X nb (fun i => X (n + i))) (hres : ∀ i, i < n + nb → resid (Z i) p = resid (X i) p) :
    Calls Try.prog 60 #[.agg #[.int .i64 k, .int .i64 r, .int .i64 c, .slice (some ⟨bF, 0, none⟩) n cF, .slice a1 nb (cF - n), .int .u64 p]] w fun e w' => D.apost w.heap.size e w' ∧ Below w.heap.size w w' := by
  obtain ⟨h1, h2⟩ := halves (hr.rom.read (by omega) hz) hle ha
  have := plays_ap k r c p hk hp _ n Z _ nb (fun i => Z (n + i)) w h1 h2
  rw [ansT_congr (x' := X) (b' := fun i => X (n + i)) (fun i hi => hres i (by omega)) (fun i hi => hres (n + i) (by omega)), ← hD] at this
  exact this

/-- the call between -/
theorem plays_other {k : Int} (hk : 3 ≤ k ∧ k ≤ 9) {sa sb : Value} {x b : Nat → Raw} {D : AnsD} {w : World} (hD : D = ansT k 1 1 7 1 x 1 b) (h1 : RdL w sa 1 x) (h2 : RdL w sb 1 b) :
    Calls Try.prog 60 #[.agg #[.int .i64 k, .int .i64 1, .int .i64 1, sa, sb, .int .u64 7]] w fun e w' => D.apost w.heap.size e w' ∧ Below w.heap.size w w' := by
  rw [hD]; exact plays_ap k 1 1 7 hk (by omega) sa 1 x sb 1 b w h1 h2
theorem wants_other {k : Int} (hk : 3 ≤ k ∧ k ≤ 9) {sa sb : Value} {x b : Nat → Raw} {D : AnsD} {w : World} (hD : D = ansT k 1 1 7 1 x 1 b) (h1 : RdL w sa 1 x) (h2 : RdL w sb 1 b) :
    Calls Try.prog 59 #[.agg #[.int .i64 k, .int .i64 1, .int .i64 1, sa, sb, .int .u64 7]] w fun e w' => D.post FrL w.heap.size e w' ∧ Below w.heap.size w w' := by
  rw [hD]; exact wants_ans k 1 1 7 hk (by omega) sa 1 x sb 1 b w h1 h2
/-- calls that only make memory, one behind the other -/
theorem calls_on {f : FuncId} {args : Array Value} {w : World} {v : Value} (h : ∀ W, Below w.heap.size w W → Calls Try.prog f args W fun e w' => e = .returned v ∧ Below W.heap.size W w') :
    ∀ W, Below w.heap.size w W → Calls Try.prog f args W fun e w' => e = .returned v ∧ Below w.heap.size w w' := fun W hW => (h W hW).mono fun _ _ h1 => ⟨h1.1, hW.trans (h1.2.mono hW.size)⟩
theorem same_on {w : World} {bx lo hi bw lw : Nat} {D : AnsD} {s' l' s2 l2 : Value} (h : AnsK w bx lo hi D s' l') (g : WantK w bw lw D s2 l2) : ∀ W, Below w.heap.size w W →
    Calls Try.prog 61 #[.agg #[.int .i64 D.rr, .int .i64 D.cc, s', l', .int .u64 D.W, .int .i64 D.N, .bool D.ok, .int .i64 D.E], .agg #[.int .i64 D.rr, .int .i64 D.cc, s2, l2, .int .u64 D.W, .int .i64 D.N, .bool D.ok, .int .i64 D.E]] W fun e w' => e = .returned (.bool true) ∧ Below w.heap.size w w' :=
  calls_on fun W hW => same_AW (h.below hW).lse.1 (h.below hW).lse.2 (g.below hW).s (g.below hW).l
theorem same_fr {w : World} {bx lo hi : Nat} {D : AnsD} {s' l' : Value} (h : AnsK w bx lo hi D s' l') : ∀ W bs s2 l2, Below w.heap.size w W → FrL W bs s2 D.nn D.X → FrL W bs l2 D.mm D.L →
    Calls Try.prog 61 #[.agg #[.int .i64 D.rr, .int .i64 D.cc, s', l', .int .u64 D.W, .int .i64 D.N, .bool D.ok, .int .i64 D.E], .agg #[.int .i64 D.rr, .int .i64 D.cc, s2, l2, .int .u64 D.W, .int .i64 D.N, .bool D.ok, .int .i64 D.E]] W fun e w' => e = .returned (.bool true) ∧ Below w.heap.size w w' := fun W bs s2 l2 hW f1 f2 =>
  (same_AW (h.below hW).lse.1 (h.below hW).lse.2 f1 f2).mono fun _ _ h1 => ⟨h1.1, hW.trans (h1.2.mono hW.size)⟩
theorem kept_on {w : World} {B lo L N cF cM bF bM lc : Nat} {la : Option Addr} {R : Nat → Nat} {X : Nat → Raw} (hL : L = N + 80) (hN : N ≤ 16384) (hx : ∀ i, i < N → (X i).n ≤ 1048576) (hr : RdL w (.slice la N lc) N X) (h : RoW w B lo L (.slice (some ⟨bF, 0, none⟩) L cF) (.slice (some ⟨bM, 0, none⟩) L cM) R (roomZ N X)) : ∀ W, Below w.heap.size w W →
    Calls Try.prog 64 #[.slice (some ⟨bF, 0, none⟩) L cF, .slice (some ⟨bM, 0, none⟩) L cM, .slice la N lc] W fun e w' => e = .returned (.bool true) ∧ Below w.heap.size w w' := by
  subst hL
  exact calls_on fun W hW => kept_yes _ _ _ N X R hN hx W (hr.below hW) (h.rom.below hW)
theorem RoW.full {w : World} {B lo L cF bF : Nat} {vM : Value} {R : Nat → Nat} {Z : Nat → Raw} (h : RoW w B lo L (.slice (some ⟨bF, 0, none⟩) L cF) vM R Z) {k : Nat} (hk : k < L) :
    w.cell? ⟨bF, k * 2, none⟩ = some (.bool (Z k).neg) ∧ w.cell? ⟨bF, k * 2 + 1, none⟩ = some (romV (R k) (Z k)) := by
  obtain ⟨b', cap', e', -, hc⟩ := h.rom.F
  injection e' with e1 _ e3
  injection e1 with e1
  injection e1 with e1
  subst e1
  exact hc k hk
theorem RoW.least {w : World} {B lo L : Nat} {vF vM : Value} {R : Nat → Nat} {Z : Nat → Raw} (h : RoW w B lo L vF vM R Z) {k : Nat} (hk : k < L) (hz : (Z k).n ≤ 1048576 ∧ Words (Z k).n (Z k).f) :
    Calls Try.prog 42 #[.agg #[.bool (Z k).neg, romV (R k) (Z k)]] w fun e w' => ∃ av nv cv, e = .returned (.agg #[.bool (decide ((Z k).val < 0)), .slice av nv cv]) ∧
      FrZ w' w.heap.size (.agg #[.bool (decide ((Z k).val < 0)), .slice av nv cv]) (Z k).val ∧ Below w.heap.size w w' := by
  refine (Least05_any _ _ w (h.rom.rdz hk hz)).mono ?_
  rintro e w' ⟨v, rfl, ⟨m, n', f, rfl, p1, p2⟩, h3⟩
  obtain ⟨a', c', rfl⟩ := p1.slice
  exact ⟨a', n', c', rfl, ⟨_, n', f, rfl, p1, p2⟩, h3⟩
theorem with_on (k r c p : Int) (s sb : Option Addr) (n nb cs cb lb N : Nat) (hle : n + nb ≤ N) (hN : N ≤ 16384) (w : World) : ∀ W, Below w.heap.size w W →
    Calls Try.prog 63 #[.agg #[.int .i64 k, .int .i64 r, .int .i64 c, .slice s n cs, .slice sb nb cb, .int .u64 p], .slice (some ⟨lb, 0, none⟩) N N] W fun e w' =>
      (∃ a', e = .returned (.agg #[.int .i64 k, .int .i64 r, .int .i64 c, .slice (some ⟨lb, 0, none⟩) n N, .slice a' nb (N - n), .int .u64 p]) ∧ (0 < nb → ∃ b o, some (⟨lb, 0, none⟩ : Addr) = some ⟨b, o, none⟩ ∧ a' = some ⟨b, o + n * 2, none⟩)) ∧ Below w.heap.size w w' := fun W hW =>
  (with_any k r c p s sb n nb cs cb (some ⟨lb, 0, none⟩) N N hle (Nat.le_refl _) (by omega) (Or.inr ⟨lb, 0, rfl⟩) W).mono fun _ _ h => ⟨h.1, hW.trans (h.2.mono hW.size)⟩
theorem wants_on {k r c p : Int} (hk : 3 ≤ k ∧ k ≤ 9) (hp : 0 ≤ p) {lb n nb N : Nat} {Y X : Nat → Raw} {D : AnsD} {w : World} (hle : n + nb ≤ N) (hr : RdL w (.slice (some ⟨lb, 0, none⟩) N N) N Y) (hD : D = ansT k r c p n X nb (fun i => X (n + i))) (hres : ∀ i, i < N → resid (Y i) p = resid (X i) p) : ∀ W a', Below w.heap.size w W → (0 < nb → ∃ b o, some (⟨lb, 0, none⟩ : Addr) = some ⟨b, o, none⟩ ∧ a' = some ⟨b, o + n * 2, none⟩) →
    Calls Try.prog 59 #[.agg #[.int .i64 k, .int .i64 r, .int .i64 c, .slice (some ⟨lb, 0, none⟩) n N, .slice a' nb (N - n), .int .u64 p]] W fun e w' => D.post FrL W.heap.size e w' ∧ Below w.heap.size w w' := fun W a' hW ha => by
  obtain ⟨h1, h2⟩ := halves (hr.below hW) hle ha
  have := wants_ans k r c p hk hp _ n Y _ nb (fun i => Y (n + i)) W h1 h2
  rw [ansT_congr (x' := X) (b' := fun i => X (n + i)) (fun i hi => hres i (by omega)) (fun i hi => hres (n + i) (by omega)), ← hD] at this
  exact this.mono fun _ _ h => ⟨h.1, hW.trans (h.2.mono hW.size)⟩
theorem cell_lo {w w' : World} {B b o : Nat} {v : Value} (h : Below B w w') (hc : w.cell? ⟨b, o, none⟩ = some v) (hb : b < B) : w'.cell? ⟨b, o, none⟩ = some v := by
  rw [cell_block (h.block b hb)]; exact hc

theorem of_exact (n : Int) (w : World) :
    Calls Try.prog 37 #[.int .u64 n] w fun e w' => e = .returned (.agg #[.bool false, .slice (some ⟨w.heap.size + 1, 0, none⟩) 1 1]) ∧ w' = ((w.alloc (.cells #[.bool false, .slice (some ⟨w.heap.size + 1, 0, none⟩) 1 1] 56)).alloc (.cells #[.int .u64 n] 22)) := by
  go_enter Try.func37, Try.ntmps37
  go_wp2_with fail
  refine bodyPost_ret (v := .agg #[.bool false, .slice (some ⟨w.heap.size + 1, 0, none⟩) 1 1]) (by simp [results, Try.results37, go_sem]) rfl ⟨rfl, rfl⟩

/-- the six cells of a call just made -/
def OpZ (W : World) (q : Nat) : Prop := (W.cell? ⟨q, 0, none⟩ = some (.int .i64 0) ∧ W.frozen? ⟨q, 0, none⟩ = false) ∧ (W.cell? ⟨q, 1, none⟩ = some (.int .i64 0) ∧ W.frozen? ⟨q, 1, none⟩ = false) ∧ (W.cell? ⟨q, 2, none⟩ = some (.int .i64 0) ∧ W.frozen? ⟨q, 2, none⟩ = false) ∧
  (W.cell? ⟨q, 3, none⟩ = some (.slice none 0 0) ∧ W.frozen? ⟨q, 3, none⟩ = false) ∧ (W.cell? ⟨q, 4, none⟩ = some (.slice none 0 0) ∧ W.frozen? ⟨q, 4, none⟩ = false) ∧ (W.cell? ⟨q, 5, none⟩ = some (.int .u64 0) ∧ W.frozen? ⟨q, 5, none⟩ = false)
theorem OpZ.made (W : World) : OpZ (W.alloc (.cells #[.int .i64 0, .int .i64 0, .int .i64 0, .slice none 0 0, .slice none 0 0, .int .u64 0] 62)) W.heap.size := by
  have z := cellsOf W [.int .i64 0, .int .i64 0, .int .i64 0, .slice none 0 0, .slice none 0 0, .int .u64 0] 62
  exact ⟨z 0 _ rfl, z 1 _ rfl, z 2 _ rfl, z 3 _ rfl, z 4 _ rfl, z 5 _ rfl⟩
theorem OpZ.made1 (W : World) (o : Obj) : OpZ ((W.alloc o).alloc (.cells #[.int .i64 0, .int .i64 0, .int .i64 0, .slice none 0 0, .slice none 0 0, .int .u64 0] 62)) (W.heap.size + 1) := by
  have := OpZ.made (W.alloc o)
  rwa [World.size_alloc] at this
theorem OpZ.below {W W' : World} {q : Nat} (h : OpZ W q) (hb : Below W.heap.size W W') : OpZ W' q := by
  obtain ⟨⟨u0, v0⟩, ⟨u1, v1⟩, ⟨u2, v2⟩, ⟨u3, v3⟩, ⟨u4, v4⟩, ⟨u5, v5⟩⟩ := h
  exact ⟨⟨cell_stays hb u0, froz_stays hb u0 v0⟩, ⟨cell_stays hb u1, froz_stays hb u1 v1⟩, ⟨cell_stays hb u2, froz_stays hb u2 v2⟩, ⟨cell_stays hb u3, froz_stays hb u3 v3⟩, ⟨cell_stays hb u4, froz_stays hb u4 v4⟩, ⟨cell_stays hb u5, froz_stays hb u5 v5⟩⟩
theorem cell_past {W : World} {a : Addr} {v : Value} {o : Obj} (h : W.cell? a = some v) : (W.alloc o).cell? a = some v := cell_stays ((Below.refl _ _).alloc (Nat.le_refl _) _) h
theorem OpZ.drew {W : World} {q : Nat} (h : OpZ W q) : OpZ W.drew q := h
theorem OpZ.past {W : World} {q : Nat} {o : Obj} (h : OpZ W q) : OpZ (W.alloc o) q := h.below ((Below.refl _ _).alloc (Nat.le_refl _) _)
theorem six_far {W : World} {q b o : Nat} {v x0 x1 x2 x3 x4 x5 : Value} (h : W.cell? ⟨b, o, none⟩ = some v) (hne : b ≠ q) :
    ((((((W.setCell ⟨q, 0, none⟩ x0).setCell ⟨q, 1, none⟩ x1).setCell ⟨q, 2, none⟩ x2).setCell ⟨q, 3, none⟩ x3).setCell ⟨q, 4, none⟩ x4).setCell ⟨q, 5, none⟩ x5).cell? ⟨b, o, none⟩ = some v := by
  have hg : W.grownBy ((((((W.setCell ⟨q, 0, none⟩ x0).setCell ⟨q, 1, none⟩ x1).setCell ⟨q, 2, none⟩ x2).setCell ⟨q, 3, none⟩ x3).setCell ⟨q, 4, none⟩ x4).setCell ⟨q, 5, none⟩ x5) (some q) :=
    gb_trans (gb_trans (gb_trans (gb_trans (gb_trans (gb_set _ _ _) (gb_set _ _ _)) (gb_set _ _ _)) (gb_set _ _ _)) (gb_set _ _ _)) (gb_set _ _ _)
  exact hg.cell h (fun e => hne (Option.some.inj e))
theorem of_fact (n : Int) (w : World) :
    Calls Try.prog 37 #[.int .u64 n] w fun e w' => ∃ m, e = .returned (.agg #[.bool false, .slice (some ⟨m, 0, none⟩) 1 1]) ∧ w'.cell? ⟨m, 0, none⟩ = some (.int .u64 n) ∧ w.heap.size ≤ m ∧ Below w.heap.size w w' := by
  refine (of_exact n w).mono ?_
  rintro e w' ⟨rfl, rfl⟩
  have hb := (Below.refl w.heap.size w).alloc (Nat.le_refl _) (.cells #[.bool false, .slice (some ⟨w.heap.size + 1, 0, none⟩) 1 1] 56)
  have hc := (cellsOf (w.alloc (.cells #[.bool false, .slice (some ⟨w.heap.size + 1, 0, none⟩) 1 1] 56)) [.int .u64 n] 22 0 _ rfl).1
  refine ⟨w.heap.size + 1, rfl, ?_, Nat.le_succ _, hb.alloc hb.size _⟩
  have e : (w.alloc (.cells #[.bool false, .slice (some ⟨w.heap.size + 1, 0, none⟩) 1 1] 56)).heap.size = w.heap.size + 1 := by simp
  rw [e] at hc
  exact hc

theorem six_gb (W : World) (q : Nat) (x0 x1 x2 x3 x4 x5 : Value) : W.grownBy ((((((W.setCell ⟨q, 0, none⟩ x0).setCell ⟨q, 1, none⟩ x1).setCell ⟨q, 2, none⟩ x2).setCell ⟨q, 3, none⟩ x3).setCell ⟨q, 4, none⟩ x4).setCell ⟨q, 5, none⟩ x5) (some q) :=
  gb_trans (gb_trans (gb_trans (gb_trans (gb_trans (gb_set _ _ _) (gb_set _ _ _)) (gb_set _ _ _)) (gb_set _ _ _)) (gb_set _ _ _)) (gb_set _ _ _)
/-- the call between, as it stands -/
def OpF (W : World) (q : Nat) (k : Int) (g1 g2 : Nat) : Prop := W.cell? ⟨q, 0, none⟩ = some (.int .i64 k) ∧ W.cell? ⟨q, 1, none⟩ = some (.int .i64 1) ∧ W.cell? ⟨q, 2, none⟩ = some (.int .i64 1) ∧
  W.cell? ⟨q, 3, none⟩ = some (.slice (some ⟨g1, 0, none⟩) 1 1) ∧ W.cell? ⟨q, 4, none⟩ = some (.slice (some ⟨g2, 0, none⟩) 1 1) ∧ W.cell? ⟨q, 5, none⟩ = some (.int .u64 7)
theorem OpF.made {W : World} {q : Nat} {k : Int} {g1 g2 : Nat} (e : q = W.heap.size) : OpF (W.alloc (.cells #[.int .i64 k, .int .i64 1, .int .i64 1, .slice (some ⟨g1, 0, none⟩) 1 1, .slice (some ⟨g2, 0, none⟩) 1 1, .int .u64 7] 62)) q k g1 g2 := by
  subst e
  have z := cellsOf W [.int .i64 k, .int .i64 1, .int .i64 1, .slice (some ⟨g1, 0, none⟩) 1 1, .slice (some ⟨g2, 0, none⟩) 1 1, .int .u64 7] 62
  exact ⟨(z 0 _ rfl).1, (z 1 _ rfl).1, (z 2 _ rfl).1, (z 3 _ rfl).1, (z 4 _ rfl).1, (z 5 _ rfl).1⟩
theorem OpF.past {W : World} {q : Nat} {k : Int} {g1 g2 : Nat} {o : Obj} (h : OpF W q k g1 g2) : OpF (W.alloc o) q k g1 g2 := by
  obtain ⟨h0, h1, h2, h3, h4, h5⟩ := h
  exact ⟨cell_past h0, cell_past h1, cell_past h2, cell_past h3, cell_past h4, cell_past h5⟩
theorem OpF.set {W : World} {q : Nat} {k : Int} {g1 g2 : Nat} (h : OpZ W q) : OpF ((((((W.setCell ⟨q, 0, none⟩ (.int .i64 k)).setCell ⟨q, 1, none⟩ (.int .i64 1)).setCell ⟨q, 2, none⟩ (.int .i64 1)).setCell ⟨q, 3, none⟩ (.slice (some ⟨g1, 0, none⟩) 1 1)).setCell ⟨q, 4, none⟩ (.slice (some ⟨g2, 0, none⟩) 1 1)).setCell ⟨q, 5, none⟩ (.int .u64 7)) q k g1 g2 := by
  obtain ⟨⟨u0, -⟩, ⟨u1, -⟩, ⟨u2, -⟩, ⟨u3, -⟩, ⟨u4, -⟩, ⟨u5, -⟩⟩ := h
  have ne : ∀ {i j : Nat}, i ≠ j → (⟨q, i, none⟩ : Addr) ≠ ⟨q, j, none⟩ := fun hij e => hij (by injection e)
  have oth : ∀ {V : World} {i j : Nat} {x y : Value}, i ≠ j → V.cell? ⟨q, i, none⟩ = some x → (V.setCell ⟨q, j, none⟩ y).cell? ⟨q, i, none⟩ = some x := fun hij hx => by rw [World.cell?_setCell_other _ _ _ _ (ne (fun e => hij e.symm))]; exact hx
  have own : ∀ {V : World} {i : Nat} {x y : Value}, V.cell? ⟨q, i, none⟩ = some x → (V.setCell ⟨q, i, none⟩ y).cell? ⟨q, i, none⟩ = some y := fun hx => World.cell?_setCell_same _ _ _ hx
  refine ⟨?_, ?_, ?_, ?_, ?_, ?_⟩
  · exact oth (by decide) (oth (by decide) (oth (by decide) (oth (by decide) (oth (by decide) (own u0)))))
  · exact oth (by decide) (oth (by decide) (oth (by decide) (oth (by decide) (own (oth (by decide) u1)))))
  · exact oth (by decide) (oth (by decide) (oth (by decide) (own (oth (by decide) (oth (by decide) u2)))))
  · exact oth (by decide) (oth (by decide) (own (oth (by decide) (oth (by decide) (oth (by decide) u3)))))
  · exact oth (by decide) (own (oth (by decide) (oth (by decide) (oth (by decide) (oth (by decide) u4)))))
  · exact own (oth (by decide) (oth (by decide) (oth (by decide) (oth (by decide) (oth (by decide) u5)))))
/-- a list of one number -/
def LsF (W : World) (g m : Nat) : Prop := W.cell? ⟨g, 0, none⟩ = some (.bool false) ∧ W.cell? ⟨g, 1, none⟩ = some (.slice (some ⟨m, 0, none⟩) 1 1)
theorem LsF.made {W : World} {g m : Nat} (e : g = W.heap.size) : LsF (W.alloc (.cells #[.bool false, .slice (some ⟨m, 0, none⟩) 1 1] 56)) g m := by
  subst e
  have z := cellsOf W [.bool false, .slice (some ⟨m, 0, none⟩) 1 1] 56
  exact ⟨(z 0 _ rfl).1, (z 1 _ rfl).1⟩
theorem LsF.past {W : World} {g m : Nat} {o : Obj} (h : LsF W g m) : LsF (W.alloc o) g m := ⟨cell_past h.1, cell_past h.2⟩
theorem LsF.below {W W' : World} {g m : Nat} (h : LsF W g m) (hb : Below W.heap.size W W') : LsF W' g m := ⟨cell_stays hb h.1, cell_stays hb h.2⟩
theorem LsF.far {W : World} {g m q : Nat} {x0 x1 x2 x3 x4 x5 : Value} (h : LsF W g m) (hne : g ≠ q) : LsF ((((((W.setCell ⟨q, 0, none⟩ x0).setCell ⟨q, 1, none⟩ x1).setCell ⟨q, 2, none⟩ x2).setCell ⟨q, 3, none⟩ x3).setCell ⟨q, 4, none⟩ x4).setCell ⟨q, 5, none⟩ x5) g m := ⟨six_far h.1 hne, six_far h.2 hne⟩
theorem LsF.read {W : World} {g m : Nat} {v : Int} (h : LsF W g m) (hv : 0 ≤ v ∧ v ≤ 9) (hc : W.cell? ⟨m, 0, none⟩ = some (.int .u64 v)) : RdL W (.slice (some ⟨g, 0, none⟩) 1 1) 1 (fun _ => ⟨false, 1, fun _ => v⟩) := by
  refine ⟨_, 1, rfl, Nat.le_refl _, by omega, fun _ => ⟨g, 0, rfl, fun i hi => ?_⟩⟩
  obtain rfl : i = 0 := by omega
  refine ⟨_, h.1, h.2, ⟨_, 1, rfl, Nat.le_refl _, by show 1 ≤ _; omega, fun _ => ⟨m, 0, rfl, fun i hi => ?_⟩⟩, fun i hi => by show 0 ≤ v ∧ v ≤ _; omega⟩
  obtain rfl : i = 0 := by have : i < 1 := hi; omega
  exact hc
theorem below_past {B : Nat} {w W : World} {o : Obj} (h : Below B w W) (hs : B ≤ W.heap.size) : Below B w (W.alloc o) := h.alloc hs o
theorem below_gb {q : Nat} {w W W' : World} (h : Below w.heap.size w W) (hg : W.grownBy W' (some q)) (hq : w.heap.size ≤ q) : Below w.heap.size w W' :=
  h.grown hg h.size (fun k hk => by injection hk with hk; omega)
theorem below_six {q : Nat} {w W : World} {x0 x1 x2 x3 x4 x5 : Value} (h : Below w.heap.size w W) (hq : w.heap.size ≤ q) : Below w.heap.size w ((((((W.setCell ⟨q, 0, none⟩ x0).setCell ⟨q, 1, none⟩ x1).setCell ⟨q, 2, none⟩ x2).setCell ⟨q, 3, none⟩ x3).setCell ⟨q, 4, none⟩ x4).setCell ⟨q, 5, none⟩ x5) := by
  have hg := six_gb W q x0 x1 x2 x3 x4 x5
  generalize ((((((W.setCell ⟨q, 0, none⟩ x0).setCell ⟨q, 1, none⟩ x1).setCell ⟨q, 2, none⟩ x2).setCell ⟨q, 3, none⟩ x3).setCell ⟨q, 4, none⟩ x4).setCell ⟨q, 5, none⟩ x5) = W' at hg ⊢
  exact below_gb h hg hq
theorem other_done {w8 wx : World} {k : Int} {q g1 g2 m9 m4 : Nat} (h : OpF wx q k g1 g2) (h1 : LsF wx g1 m9) (c9 : wx.cell? ⟨m9, 0, none⟩ = some (.int .u64 9)) (h2 : LsF wx g2 m4) (c4 : wx.cell? ⟨m4, 0, none⟩ = some (.int .u64 4)) (hb : Below w8.heap.size w8 wx) :
    ∃ q' g1' g2', Value.pointer (some ⟨q, 0, none⟩) = .pointer (some ⟨q', 0, none⟩) ∧ wx.cell? ⟨q', 0, none⟩ = some (.int .i64 k) ∧ wx.cell? ⟨q', 1, none⟩ = some (.int .i64 1) ∧ wx.cell? ⟨q', 2, none⟩ = some (.int .i64 1) ∧ wx.cell? ⟨q', 3, none⟩ = some (.slice (some ⟨g1', 0, none⟩) 1 1) ∧
      wx.cell? ⟨q', 4, none⟩ = some (.slice (some ⟨g2', 0, none⟩) 1 1) ∧ wx.cell? ⟨q', 5, none⟩ = some (.int .u64 7) ∧ RdL wx (.slice (some ⟨g1', 0, none⟩) 1 1) 1 (fun _ => ⟨false, 1, fun _ => 9⟩) ∧ RdL wx (.slice (some ⟨g2', 0, none⟩) 1 1) 1 (fun _ => ⟨false, 1, fun _ => 4⟩) ∧ Below w8.heap.size w8 wx :=
  ⟨q, g1, g2, rfl, h.1, h.2.1, h.2.2.1, h.2.2.2.1, h.2.2.2.2.1, h.2.2.2.2.2, h1.read (by omega) c9, h2.read (by omega) c4, hb⟩

theorem keeps_end {w wC wr w30 : World} {B lo0 L nW nI g cap bF cF : Nat} {vW vM : Value} {W I : Nat → Value} {P : Nat → Prop} {R : Nat → Nat} {Z : Nat → Raw} {vI : Value} (hnI : nI = 10)
    (h : BkS wr B wC.heap.size vW nW W vI nI I P ∧ nW ≤ 40960 + L ∧ (∀ b, P b → lo0 ≤ b ∨ ∃ k, k < L ∧ b = R k) ∧ Below wC.heap.size wC wr) (ho : w30.ownsRow (wC.heap.size + 1) 32 1 (.slice (some ⟨g, 0, none⟩) (nI + 1) cap) (nI + 1) ((List.range nI).map I ++ [.slice (some ⟨bF, 0, none⟩) L cF]))
    (hg : (wr.alloc (.cells #[.slice (some ⟨bF, 0, none⟩) L cF] 32)).grownBy w30 vI.ownBlock) (hr : RoW wC B lo0 L (.slice (some ⟨bF, 0, none⟩) L cF) vM R Z) (hL : L ≤ 16464) (h0 : lo0 ≤ wC.heap.size) (hw : Below w.heap.size w wC) (hwB : w.heap.size ≤ B) (hB : B ≤ lo0) :
    w30.cell? ⟨wC.heap.size, 1, none⟩ = some vI ∧ w30.frozen? ⟨wC.heap.size, 1, none⟩ = false ∧ Hid ((Below w.heap.size w (w30.setCell ⟨wC.heap.size, 1, none⟩ (.slice (some ⟨g, 0, none⟩) (nI + 1) cap))) ∧
      Calls Try.prog 68 #[.pointer (some ⟨wC.heap.size, 0, none⟩)] (w30.setCell ⟨wC.heap.size, 1, none⟩ (.slice (some ⟨g, 0, none⟩) (nI + 1) cap)) fun e w' => e = .returned (.bool true) ∧ Below B (w30.setCell ⟨wC.heap.size, 1, none⟩ (.slice (some ⟨g, 0, none⟩) (nI + 1) cap)) w') := by
  obtain ⟨h1, h2, h3, h4⟩ := h
  obtain ⟨k1, k2, k3, k4⟩ := h1.book.pushI (v := .slice (some ⟨bF, 0, none⟩) L cF) ((Below.refl _ _).alloc (Nat.le_refl _) _) hg ho
  have hbk := k3 (fun k => if k < nI then I k else .slice (some ⟨bF, 0, none⟩) L cF) (fun k hk => if_pos hk) (if_neg (by omega))
  have hb : Below w.heap.size w (w30.setCell ⟨wC.heap.size, 1, none⟩ (.slice (some ⟨g, 0, none⟩) (nI + 1) cap)) := hw.trans ((h4.trans k4).mono hw.size)
  have hs := (h4.trans k4).size
  subst hnI
  exact ⟨k1, k2, hb, h1.last h2 h3 h4 hr hL h0 k4 hbk (fun k hk => if_pos hk) (if_neg (by omega)) (by omega)⟩

/-- the region of the number k in a code -/
def findR (k : Nat) : Code → Option Code
  | .region j o d => if j = k then some (.region j o d) else none
  | .seq a b => match findR k a with
    | some c => some c
    | none => findR k b
  | .cond _ a b => match findR k a with
    | some c => some c
    | none => findR k b
  | .loop c => findR k c
  | .block _ c => findR k c
  | .scope c => findR k c
  | _ => none
noncomputable def keepsR (k : Nat) : Code := ((Try.f36.body.bind (findR k)).getD .skip)
end Go.Proofs.Ytdlpemmoobbgnaa

namespace Go.Proofs.Ytdlpemmoobbgnaa
open Go.RowKit

set_option maxHeartbeats 40000000 in
set_option maxRecDepth 100000 in
theorem reg7 {k : Int} {bw : Nat} {w8 : World} {t0 t2 t3 t4 t5 t6 t7 t8 t9 t10 t11 t12 t13 t14 t15 t16 t17 t18 t19 t20 t21 t22 t23 t24 t25 t26 t27 t28 t29 t30 t31 t32 t33 t34 t35 t36 t37 t38 t39 t40 t41 t42 t43 t44 t45 t46 t47 t48 t49 t50 t51 t52 t53 t54 t55 t56 t57 t58 t59 t60 t61 t62 t63 t64 t65 t66 t67 t68 t69 t70 t71 t72 t73 t74 t75 t76 t77 t78 t79 t80 t81 t82 t83 t84 t85 t86 t87 t88 t89 t90 t91 t92 t93 t94 t95 t96 t97 t98 t99 t100 t101 t102 t103 t104 t105 t106 t107 t108 t109 t110 t111 t112 t113 t114 t115 t116 t117 t118 t119 t120 t121 t122 t123 t124 t125 t126 t127 t128 t129 t130 t131 t132 t133 t134 t135 t136 t137 t138 t139 t140 t141 t142 t143 t144 t145 t146 t147 t148 t149 t150 t151 t152 t153 t154 t155 t156 t157 t158 t159 t160 t161 t162 t163 t164 t165 t166 t167 t168 t169 t170 t171 t172 t173 t174 t175 t176 t177 t178 t179 t180 t181 t182 t183 t184 t185 t186 t187 t188 t189 t190 t191 t192 t193 : Value} {J K' : Act → World → Prop} {Q' : Exit → Act → World → Prop} (o0 : w8.cell? ⟨bw, 0, none⟩ = some (.int .i64 k))
    (hJ : ∀ a' w', (∃ u8 u23 u24 u25 u26 u27 u28 u29 u30 u31 u32 u33 u34 u35 u36 u37 u38 u39 u40 u41 u42 u43 u44 u45 u46 u47 u48 u49 u50 u51 u52 u53 u54 u55 u56 u57 u58 u59 u60 u61 u62 u63 u64 u65 u66 u67 u68 u69 u70 u71 u72 u73 u74 u75 u76 u77 u78 u79 u80 u81 u82 u83 u84 u85 u86 u87 u88 u89 u90 u91 u92 u93 u94 u95 u96 u97 u98 u99 u100 u101 u102 u103 u104 u105 u106 u107 u108 u109 u110 u111 u112 u113 u114 u115 u116 u117 u118 u119 u120 u121 u122 u123 u124 u125 u126 u127 u128 u129 u130 u131 u132 u133 u134 u135 u136 u137 u138 u139 u140 u141 u142 u143 u144 u145 u146 u147 u148 u149 u150 u151 u152 u153 u154 u155 u156 u157 u158 u159 u160 u161 u162 u166 u167 u168 u169 u170 u171 u172 u173 u174 u175 u176 u177 u178 u179 u180 u181 u182 u183 u184 u185 u186 u187 u188 u189 u190 u191 u192 u193 : Value, (∃ q g1 g2, u8 = .pointer (some ⟨q, 0, none⟩) ∧ w'.cell? ⟨q, 0, none⟩ = some (.int .i64 k) ∧ w'.cell? ⟨q, 1, none⟩ = some (.int .i64 1) ∧ w'.cell? ⟨q, 2, none⟩ = some (.int .i64 1) ∧ w'.cell? ⟨q, 3, none⟩ = some (.slice (some ⟨g1, 0, none⟩) 1 1) ∧ w'.cell? ⟨q, 4, none⟩ = some (.slice (some ⟨g2, 0, none⟩) 1 1) ∧ w'.cell? ⟨q, 5, none⟩ = some (.int .u64 7) ∧ RdL w' (.slice (some ⟨g1, 0, none⟩) 1 1) 1 (fun _ => ⟨false, 1, fun _ => 9⟩) ∧ RdL w' (.slice (some ⟨g2, 0, none⟩) 1 1) 1 (fun _ => ⟨false, 1, fun _ => 4⟩) ∧ Below w8.heap.size w8 w') ∧ a' = { tmps := #[t0, .pointer (some ⟨bw, 0, none⟩), t2, t3, t4, t5, t6, t7, u8, t9, t10, t11, t12, t13, t14, t15, t16, t17, t18, t19, t20, t21, t22, u23, u24, u25, u26, u27, u28, u29, u30, u31, u32, u33, u34, u35, u36, u37, u38, u39, u40, u41, u42, u43, u44, u45, u46, u47, u48, u49, u50, u51, u52, u53, u54, u55, u56, u57, u58, u59, u60, u61, u62, u63, u64, u65, u66, u67, u68, u69, u70, u71, u72, u73, u74, u75, u76, u77, u78, u79, u80, u81, u82, u83, u84, u85, u86, u87, u88, u89, u90, u91, u92, u93, u94, u95, u96, u97, u98, u99, u100, u101, u102, u103, u104, u105, u106, u107, u108, u109, u110, u111, u112, u113, u114, u115, u116, u117, u118, u119, u120, u121, u122, u123, u124, u125, u126, u127, u128, u129, u130, u131, u132, u133, u134, u135, u136, u137, u138, u139, u140, u141, u142, u143, u144, u145, u146, u147, u148, u149, u150, u151, u152, u153, u154, u155, u156, u157, u158, u159, u160, u161, u162, t163, t164, t165, u166, u167, u168, u169, u170, u171, u172, u173, u174, u175, u176, u177, u178, u179, u180, u181, u182, u183, u184, u185, u186, u187, u188, u189, u190, u191, u192, u193], defers := [] }) → J a' w') (hM : ∀ a' w', Met J a' w' → K' a' w') :
    Code.wp Try.prog (keepsR 7) (Exit.then K' Q') { tmps := #[t0, .pointer (some ⟨bw, 0, none⟩), t2, t3, t4, t5, t6, t7, t8, t9, t10, t11, t12, t13, t14, t15, t16, t17, t18, t19, t20, t21, t22, t23, t24, t25, t26, t27, t28, t29, t30, t31, t32, t33, t34, t35, t36, t37, t38, t39, t40, t41, t42, t43, t44, t45, t46, t47, t48, t49, t50, t51, t52, t53, t54, t55, t56, t57, t58, t59, t60, t61, t62, t63, t64, t65, t66, t67, t68, t69, t70, t71, t72, t73, t74, t75, t76, t77, t78, t79, t80, t81, t82, t83, t84, t85, t86, t87, t88, t89, t90, t91, t92, t93, t94, t95, t96, t97, t98, t99, t100, t101, t102, t103, t104, t105, t106, t107, t108, t109, t110, t111, t112, t113, t114, t115, t116, t117, t118, t119, t120, t121, t122, t123, t124, t125, t126, t127, t128, t129, t130, t131, t132, t133, t134, t135, t136, t137, t138, t139, t140, t141, t142, t143, t144, t145, t146, t147, t148, t149, t150, t151, t152, t153, t154, t155, t156, t157, t158, t159, t160, t161, t162, t163, t164, t165, t166, t167, t168, t169, t170, t171, t172, t173, t174, t175, t176, t177, t178, t179, t180, t181, t182, t183, t184, t185, t186, t187, t188, t189, t190, t191, t192, t193], defers := [] } w8 := by
  conv => arg 2; whnf
  have l8 : bw < w8.heap.size := World.block_lt_of_cell? w8 _ o0
  go_region_held3 (fun w' => w'.cell? ⟨bw, 0, none⟩ = some (.int .i64 k))
    (first
      | ((repeat (first
          | (with_reducible refine cell_past ?_)
          | (with_reducible refine six_far ?_ (by omega)))); (first
          | (with_reducible exact oF)
          | (with_reducible exact oN)
          | (with_reducible exact o0)))
      | go_keep)
    (first
      | (go_at_call 37; (with_reducible refine (of_fact 9 _).mono ?_); rintro e wN ⟨m9, rfl, c9, p9, hbN⟩
         first | have oN := cell_stays hbN o0 | have oN := cell_stays hbN (cell_past o0)
         have nN := World.new_ne wN _ oN
         have lN : bw < wN.heap.size := World.block_lt_of_cell? wN _ oN
         try (have hq := Lib.hid (OpZ.below (OpZ.drew (OpZ.made w8)) hbN))
         try (obtain ⟨⟨u0, v0⟩, ⟨u1, v1⟩, ⟨u2, v2⟩, ⟨u3, v3⟩, ⟨u4, v4⟩, ⟨u5, v5⟩⟩ := hq.out))
      | (go_at_call 37; (with_reducible refine (of_fact 4 _).mono ?_); rintro e wF ⟨m4, rfl, c4, p4, hbF⟩
         first | have oF := cell_stays hbF oN | have oF := cell_stays hbF (cell_past oN) | have oF := cell_stays hbF (cell_past (cell_past oN))
         have nF := World.new_ne wF _ oF
         have lF : bw < wF.heap.size := World.block_lt_of_cell? wF _ oF
         try (clear u0 u1 u2 u3 u4 u5 v0 v1 v2 v3 v4 v5)
         first
           | (have hq := Lib.hid (OpZ.below hq.out hbF))
           | (have hq := Lib.hid (OpZ.below (OpZ.past hq.out) hbF))
           | (have hq := Lib.hid (OpZ.below (OpZ.made wN) hbF))
           | (have hq := Lib.hid (OpZ.below (OpZ.made1 wN (.cells #[.bool false, .slice (some ⟨m9, 0, none⟩) 1 1] 56)) hbF))
           | (have hq := Lib.hid (OpZ.below (OpZ.past (OpZ.made wN)) hbF))
           | skip
         try (obtain ⟨⟨u0, v0⟩, ⟨u1, v1⟩, ⟨u2, v2⟩, ⟨u3, v3⟩, ⟨u4, v4⟩, ⟨u5, v5⟩⟩ := hq.out; have nu := World.new_ne wF _ u0; have nl := World.block_lt_of_cell? wF _ u0; dsimp only at nu nl)))
  all_goals
    go_wp2_with fail
    go_meet
    have e8 : w8.drew.heap.size = w8.heap.size := rfl
    have s1 : w8.heap.size ≤ wN.heap.size := by have := hbN.size; (try simp at this); omega
    have s2 : wN.heap.size ≤ wF.heap.size := by have := hbF.size; (try simp at this); omega
    try simp at p9
    try simp at p4
    have s3 : w8.heap.size ≤ m9 := by omega
    have s4 : wN.heap.size ≤ m4 := by omega
    have s5 := World.block_lt_of_cell? wN _ c9
    have s6 := World.block_lt_of_cell? wF _ c4
    dsimp only at s5 s6
    have hx1 : Below w8.heap.size w8 wN := by
      first
        | with_reducible exact ((Below.refl w8.heap.size w8).drew).trans (hbN.mono (by omega))
        | with_reducible exact (((Below.refl w8.heap.size w8).alloc (Nat.le_refl _) _).drew).trans (hbN.mono (by first | (simp; done) | (simp; omega)))
    have hx2 : Below w8.heap.size w8 wF := by
      first
        | with_reducible exact hx1.trans (hbF.mono s1)
        | with_reducible exact (below_past hx1 s1).trans (hbF.mono (by first | (simp; done) | (simp; omega)))
        | with_reducible exact (below_past (below_past hx1 s1) (by first | (simp; done) | (simp; omega))).trans (hbF.mono (by first | (simp; done) | (simp; omega)))
    with_reducible apply other_done (m9 := m9) (m4 := m4)
    case h => repeat (first
        | (with_reducible exact OpF.made (by simp))
        | (with_reducible exact OpF.set hq.out)
        | (with_reducible apply OpF.past))
    case h1 => repeat (first
        | (with_reducible exact LsF.made (by simp [World.size_setCell]))
        | (with_reducible refine LsF.past ?_)
        | (with_reducible refine LsF.far ?_ (by omega))
        | (with_reducible refine LsF.below ?_ hbF)
        | (with_reducible refine LsF.below ?_ hbN))
    case c9 => repeat (first
        | (with_reducible exact c9)
        | (with_reducible refine cell_past ?_)
        | (with_reducible refine six_far ?_ (by omega))
        | (with_reducible refine cell_stays hbF ?_))
    case h2 => repeat (first
        | (with_reducible exact LsF.made (by simp [World.size_setCell]))
        | (with_reducible refine LsF.past ?_)
        | (with_reducible refine LsF.far ?_ (by omega))
        | (with_reducible refine LsF.below ?_ hbF)
        | (with_reducible refine LsF.below ?_ hbN))
    case c4 => repeat (first
        | (with_reducible exact c4)
        | (with_reducible refine cell_past ?_)
        | (with_reducible refine six_far ?_ (by omega)))
    case hb => repeat (first
        | (with_reducible exact hx2)
        | (with_reducible refine below_past ?_ (by first | omega | (simp [World.size_setCell]; done) | (simp [World.size_setCell]; omega)))
        | (with_reducible refine below_six ?_ (by omega)))
end Go.Proofs.Ytdlpemmoobbgnaa
