/- The walk of field.beside: the rows of a matrix, with the unit matrix behind them. -/
import Derived.Test.YtdlpemmoobbgnaaAnsB
import Derived.Deep.AppendLies
set_option linter.unusedVariables false
set_option linter.unusedSimpArgs false
namespace Go.Proofs.Ytdlpemmoobbgnaa
open Go.RowKit

/-- a grid of the call's own, whose rows are of widths N and capacities C -/
structure Rag (k : IntKind) (e E : TypeId) (w : World) (base gb m : Nat) (B N C : Nat → Nat) (G : Nat → Nat → Int) : Prop where
  blk : Blk w gb m E
  cells : CellsAt w gb 0 m (fun i => .slice (some ⟨B i, 0, none⟩) (N i) (C i))
  rows : ∀ i, i < m → Blk w (B i) (C i) e ∧ RowAt k w (B i) 0 (N i) (G i)
  caps : ∀ i, i < m → N i ≤ C i ∧ N i ≤ 17592186044416 ∧ C i ≤ maxLen
  apart : ∀ i j, i < m → j < m → B i = B j → i = j
  off : ∀ i, i < m → B i ≠ gb
  own : ∀ i, i < m → base ≤ B i
  ownG : base ≤ gb

def upd {α : Type} (f : Nat → α) (l : Nat) (x : α) : Nat → α := fun i => if i = l then x else f i
theorem upd_same {α : Type} (f : Nat → α) (l : Nat) (x : α) : upd f l x l = x := if_pos rfl
theorem upd_other {α : Type} (f : Nat → α) {l i : Nat} (x : α) (h : i ≠ l) : upd f l x i = f i := if_neg h

section
variable {k : IntKind} {e E : TypeId} {w w' : World} {base gb m : Nat} {B N C : Nat → Nat} {G : Nat → Nat → Int}

theorem Rag.lt (h : Rag k e E w base gb m B N C G) (i : Nat) (hi : i < m) : B i < w.heap.size := (h.rows i hi).1.lt

theorem Rag.grown (h : Rag k e E w base gb m B N C G) {q : Option Nat} (hg : w.grownBy w' q) (h1 : some gb ≠ q) (h2 : ∀ i, i < m → some (B i) ≠ q) : Rag k e E w' base gb m B N C G :=
  { h with blk := h.blk.grown hg h1, cells := h.cells.grown hg h1, rows := fun i hi => ⟨(h.rows i hi).1.grown hg (h2 i hi), (h.rows i hi).2.gb hg (h2 i hi)⟩ }

theorem Rag.below (h : Rag k e E w base gb m B N C G) (hb : Below w.heap.size w w') : Rag k e E w' base gb m B N C G :=
  h.grown (gb_below hb none) (by simp) (fun _ _ => by simp)

/-- row l is replaced: what is appended to it lies in the block g, which is the old one or a new one -/
theorem Rag.widen (h : Rag k e E w base gb m B N C G) {l g n cap : Nat} (hl : l < m) {f : Nat → Int} (hg : w.grownBy w' (some (B l))) (hat : some (B l) = some g ∨ g = w.heap.size)
    (hb : Blk w' g cap e) (hr : RowAt k w' g 0 n f) (hc : n ≤ cap ∧ n ≤ 17592186044416 ∧ cap ≤ maxLen) (hw : base ≤ w.heap.size) :
    Rag k e E (w'.setCell ⟨gb, l, none⟩ (.slice (some ⟨g, 0, none⟩) n cap)) base gb m (upd B l g) (upd N l n) (upd C l cap) (upd G l f) := by
  have hgb := h.blk.lt
  have hoff := h.off
  have hlt := h.lt
  have hB : ∀ i, i < m → i ≠ l → B i ≠ g := fun i hi hne e1 => by
    rcases hat with h1 | h1
    · injection h1 with h1; exact hne (h.apart i l hi hl (by omega))
    · have := hlt i hi; omega
  have hgg : g ≠ gb := by
    rcases hat with h1 | h1
    · injection h1 with h1; have := hoff l hl; omega
    · omega
  have hbg : base ≤ g := by
    rcases hat with h1 | h1
    · injection h1 with h1; have := h.own l hl; omega
    · omega
  have hgB : some gb ≠ some (B l) := fun e1 => hoff l hl (Option.some.inj e1).symm
  refine ⟨(h.blk.grown hg hgB).set l _, ((h.cells.grown hg hgB).set0 hl _).congr fun i hi => ?_, fun i hi => ?_, fun i hi => ?_, fun i j hi hj => ?_, fun i hi => ?_, fun i hi => ?_, h.ownG⟩
  · by_cases e1 : i = l
    · subst e1; rw [if_pos rfl, upd_same, upd_same, upd_same]
    · rw [if_neg e1, upd_other _ _ e1, upd_other _ _ e1, upd_other _ _ e1]
  · by_cases e1 : i = l
    · subst e1; rw [upd_same, upd_same, upd_same, upd_same]
      exact ⟨hb.other (by show gb ≠ g; omega) _, hr.other (by show gb ≠ g; omega) _⟩
    · rw [upd_other _ _ e1, upd_other _ _ e1, upd_other _ _ e1, upd_other _ _ e1]
      have hne : some (B i) ≠ some (B l) := fun e2 => e1 (h.apart i l hi hl (Option.some.inj e2))
      have := hoff i hi
      exact ⟨((h.rows i hi).1.grown hg hne).other (by show gb ≠ B i; omega) _, ((h.rows i hi).2.gb hg hne).other (by show gb ≠ B i; omega) _⟩
  · by_cases e1 : i = l
    · subst e1; rw [upd_same, upd_same]; exact hc
    · rw [upd_other _ _ e1, upd_other _ _ e1]; exact h.caps i hi
  · intro e0
    by_cases e1 : i = l
    · by_cases e2 : j = l
      · omega
      · subst e1; rw [upd_same, upd_other _ _ e2] at e0; exact absurd e0.symm (hB j hj e2)
    · by_cases e2 : j = l
      · subst e2; rw [upd_same, upd_other _ _ e1] at e0; exact absurd e0 (hB i hi e1)
      · rw [upd_other _ _ e1, upd_other _ _ e2] at e0; exact h.apart i j hi hj e0
  · by_cases e1 : i = l
    · subst e1; rw [upd_same]; exact hgg
    · rw [upd_other _ _ e1]; exact hoff i hi
  · by_cases e1 : i = l
    · subst e1; rw [upd_same]; exact hbg
    · rw [upd_other _ _ e1]; exact h.own i hi

theorem Rag.of {n : Nat} (h : Part k e E w base gb m n B G m m) (hn : n ≤ 17592186044416) : Rag k e E w base gb m B (fun _ => n) (fun _ => n) G :=
  ⟨h.blk, h.cells.congr fun i hi => if_pos hi, h.rows, fun _ _ => ⟨Nat.le_refl _, hn, by unfold maxLen; omega⟩, h.apart, h.off, h.own, h.ownG⟩

theorem Rag.congr (h : Rag k e E w base gb m B N C G) {N' : Nat → Nat} {G' : Nat → Nat → Int} (hN : ∀ i, i < m → N i = N' i) (hG : ∀ i j, i < m → j < N i → G i j = G' i j) : Rag k e E w base gb m B N' C G' :=
  { h with
    cells := h.cells.congr fun i hi => by rw [hN i hi]
    rows := fun i hi => ⟨(h.rows i hi).1, by rw [← hN i hi]; exact (h.rows i hi).2.congr fun j hj => hG i j hi hj⟩
    caps := fun i hi => by rw [← hN i hi]; exact h.caps i hi }

theorem Rag.grid {n : Nat} (h : Rag k e E w base gb m B (fun _ => n) C G) : GridAt k w base gb 0 m n B (fun _ => 0) C G :=
  ⟨h.cells, fun i hi => (h.rows i hi).2, h.apart, h.off, fun i hi => ⟨(h.caps i hi).1, (h.caps i hi).2.1⟩, h.own, h.ownG, h.lt⟩
end

theorem own_row {k : IntKind} {w : World} {base g n cap : Nat} {e : TypeId} {xs : List Value} {f : Nat → Int} (h : w.ownsRow base e 1 (.slice (some ⟨g, 0, none⟩) n cap) n xs) (hx : xs = (List.range n).map fun i => .int k (f i)) :
    Blk w g cap e ∧ RowAt k w g 0 n f ∧ n ≤ cap ∧ cap ≤ maxLen := by
  obtain ⟨_, h⟩ := h
  rcases h with ⟨h, _⟩ | ⟨g', cap', cur, h1, h2, h3, h4, h5, h6, h7⟩
  · simp at h
  · simp only [Value.slice.injEq, Option.some.injEq, Addr.mk.injEq, true_and, and_true] at h1
    obtain ⟨rfl, rfl⟩ := h1
    refine ⟨⟨cur, h3, by omega⟩, fun i hi => ⟨?_, ?_⟩, h4, h5⟩
    · rw [Nat.zero_add, cell_of_row _ _ _ _ _ _ h3]
      have := congrArg (·[i]?) h7
      simp only [hx] at this
      rw [List.getElem?_take, if_pos (by omega)] at this
      simpa [hi] using this
    · unfold World.frozen?
      rw [show (⟨g, 0 + i, none⟩ : Addr).block = g from rfl, h3]; simp

theorem range_two (n m : Nat) (F : Nat → Value) : (List.range (n + m)).map F = (List.range n).map F ++ (List.range m).map fun i => F (n + i) := by
  rw [List.range_add, List.map_append, List.map_map]; rfl

theorem Rag.mono {k : IntKind} {e E : TypeId} {w : World} {base gb m : Nat} {B N C : Nat → Nat} {G : Nat → Nat → Int} (h : Rag k e E w base gb m B N C G) {base' : Nat} (hb : base' ≤ base) : Rag k e E w base' gb m B N C G :=
  { h with own := fun i hi => Nat.le_trans hb (h.own i hi), ownG := Nat.le_trans hb h.ownG }

/-- row i of the matrix with the unit matrix behind it -/
def besG (p : Int) (K : Nat) (x : Nat → Raw) : Nat → Nat → Int := fun i j => if j < K then resG p K x i j else if j = K + i then 1 else 0

/-- the unit row is made -/
theorem bes_pre {e E : TypeId} {wr : World} {base gb m : Nat} {B N C : Nat → Nat} {G : Nat → Nat → Int} (h : Rag .u64 e E wr base gb m B N C G) {l : Nat} (hl : l < m) :
    Rag .u64 e E ((wr.alloc (.cells (madeCells #[.int .u64 0] m) e)).setCell ⟨wr.heap.size, l, none⟩ (.int .u64 1)) base gb m B N C G ∧
    Below wr.heap.size wr ((wr.alloc (.cells (madeCells #[.int .u64 0] m) e)).setCell ⟨wr.heap.size, l, none⟩ (.int .u64 1)) ∧
    (wr.alloc (.cells (madeCells #[.int .u64 0] m) e)).cell? ⟨wr.heap.size, l, none⟩ = some (.int .u64 0) ∧ (wr.alloc (.cells (madeCells #[.int .u64 0] m) e)).frozen? ⟨wr.heap.size, l, none⟩ = false ∧
    (∀ j u, ((List.range m).map fun i => Value.int .u64 (if i = l then 1 else 0))[j]? = some u →
      ((wr.alloc (.cells (madeCells #[.int .u64 0] m) e)).setCell ⟨wr.heap.size, l, none⟩ (.int .u64 1)).cell? (Addr.add ⟨wr.heap.size, 0, none⟩ j) = some u) ∧
    ((wr.alloc (.cells (madeCells #[.int .u64 0] m) e)).setCell ⟨wr.heap.size, l, none⟩ (.int .u64 1)).ownsRow base e 1 (.slice (some ⟨B l, 0, none⟩) (N l) (C l)) (N l) ((List.range (N l)).map fun i => .int .u64 (G l i)) := by
  have hb : Below wr.heap.size wr ((wr.alloc (.cells (madeCells #[.int .u64 0] m) e)).setCell ⟨wr.heap.size, l, none⟩ (.int .u64 1)) :=
    ((Below.refl _ _).alloc (Nat.le_refl _) _).setCell (Nat.le_refl _) _
  have c := CellsAt.made wr (.int .u64 0) m e
  have cl := c.get0 hl rfl
  have c2 := c.set0 hl (.int .u64 1)
  have h2 := h.below hb
  refine ⟨h2, hb, cl.1, cl.2, fun j u hj => ?_, ?_⟩
  · have hjm : j < m := by have := (List.getElem?_eq_some_iff.1 hj).1; simpa using this
    rw [Addr.add_lit]
    have := (c2 j hjm).1
    rw [this]
    simp [hjm] at hj
    rw [← hj]
    show some (if j = l then Value.int .u64 1 else Value.int .u64 0) = some (Value.int .u64 (if j = l then 1 else 0))
    by_cases ej : j = l
    · rw [if_pos ej, if_pos ej]
    · rw [if_neg ej, if_neg ej]
  · obtain ⟨⟨cur, hB, hs⟩, hr⟩ := h2.rows l hl
    refine ⟨by simp, Or.inr ⟨B l, C l, cur, rfl, h.own l hl, hB, (h.caps l hl).1, (h.caps l hl).2.2, by omega, ?_⟩⟩
    · apply List.ext_getElem?
      intro i
      rw [Nat.mul_one, List.getElem?_take]
      by_cases hi : i < N l
      · rw [if_pos hi]
        have := (hr i hi).1
        rw [Nat.zero_add, cell_of_row _ _ _ _ _ _ hB] at this
        simp [hi, this]
      · rw [if_neg hi, List.getElem?_eq_none (by simp; omega)]

theorem bes_list (p : Int) (K R l : Nat) (x : Nat → Raw) : (List.range K).map (fun i => Value.int .u64 (resG p K x l i)) ++ (List.range R).map (fun i => Value.int .u64 (if i = l then 1 else 0)) =
    (List.range (K + R)).map fun i => .int .u64 (besG p K x l i) := by
  rw [range_two]
  congr 1
  · refine List.map_congr_left fun j hj => ?_
    have hjK : j < K := by simpa using hj
    unfold besG; rw [if_pos hjK]
  · refine List.map_congr_left fun j hj => ?_
    have h1 : ¬ K + j < K := by omega
    unfold besG
    by_cases e : j = l
    · rw [if_pos e, if_neg h1, if_pos (show K + j = K + l by omega)]
    · rw [if_neg e, if_neg h1, if_neg (show ¬ K + j = K + l by omega)]

set_option maxHeartbeats 2000000 in
set_option maxRecDepth 100000 in
theorem beside_any (p : Int) (h1 : 1 ≤ p) (h2 : p < 2147483648) (R K n : Nat) (hR : R ≤ 64) (hK : K ≤ 64) (hN : n = R * K) (s : Value) (x : Nat → Raw) (w : World) (hr : RdL w s n x) :
    Calls Try.prog 47 #[.int .u64 p, .agg #[.int .i64 R, .int .i64 K, s]] w fun e w' =>
      ∃ gb B C, e = .returned (.slice (some ⟨gb, 0, none⟩) R R) ∧ Rag .u64 22 54 w' w.heap.size gb R B (fun _ => K + R) C (besG p K x) ∧ Below w.heap.size w w' := by
  have m1 := mk_words R (by omega)
  obtain ⟨a, cap, rfl, hn⟩ := hr.slice
  obtain ⟨i0, hi, hz0, hz1, hz2⟩ := info_parts infoW
  have HI := Lib.hid (And.intro hi (And.intro hz0 (And.intro hz1 hz2)))
  have HR := Lib.hid hr
  have HN := Lib.hid hN
  have hb0 : Below w.heap.size w (w.alloc (.cells #[.int .i64 R, .int .i64 K, .slice a n cap] 34)) := (Below.refl _ _).alloc (Nat.le_refl _) _
  have HB0 := Lib.hid hb0
  have HR1 := Lib.hid (hr.below hb0)
  clear hr hi hz0 hz1 hz2 hN hb0
  go_enter Try.func47, Try.ntmps47
  go_wp2_with (go_at_call 45; refine (residues_any p h1 h2 R K n hR hK HN.out _ x _ HR1.out).mono ?_; rintro e w1 ⟨gb, B, rfl, hp2, hb2⟩)
  have hbw : Below w.heap.size w w1 := HB0.out.trans (hb2.mono (by simp))
  have hrag := (Rag.of hp2 (by omega)).mono (base' := w.heap.size) (by simp)
  have HRG := Lib.hid hrag
  have HBW := Lib.hid hbw
  clear hrag hbw hp2 hb2
  go_loopw [13] (fun iv wr => ∃ (l : Nat) (B C : Nat → Nat), l ≤ R ∧ iv = .int .i64 l ∧
      Rag .u64 22 54 wr w.heap.size gb R B (fun i => if i < l then K + R else K) C (fun i => if i < l then besG p K x i else resG p K x i) ∧ Below w.heap.size w wr) (fun iv _ => R - (intOf iv).toNat)
  case atStart =>
    refine ⟨0, B, _, by omega, rfl, HRG.out.congr (fun i _ => (if_neg (by omega)).symm) (fun i j _ _ => ?_), HBW.out⟩
    rw [if_neg (by omega)]; rfl
  case round =>
    clear HRG HBW B
    obtain ⟨l, B, C, l1, rfl, hrag, hbel⟩ := hrel
    by_cases hl : l < R
    · obtain ⟨r1, r2, r3, r4, r5, r6⟩ := bes_pre hrag hl
      rw [if_neg (Nat.lt_irrefl l), show (if l < l then besG p K x l else resG p K x l) = resG p K x l from if_neg (Nat.lt_irrefl l)] at r6
      obtain ⟨k1, k2⟩ := r1.cells.get0 hl (x := .slice (some ⟨B l, 0, none⟩) K (C l)) (by rw [if_neg (Nat.lt_irrefl l)])
      have he := World.setCell_alloc_new (w := wr) (madeCells #[.int .u64 0] R) 22 l (.int .u64 1)
      rw [he] at r1 r2 r5 r6 k1 k2
      obtain ⟨xs, hxs⟩ : ∃ xs, xs = (List.range K).map (fun i => Value.int .u64 (resG p K x l i)) := ⟨_, rfl⟩
      obtain ⟨news, hnews⟩ : ∃ news, news = (List.range R).map (fun i => Value.int .u64 (if i = l then 1 else 0)) := ⟨_, rfl⟩
      have hxn := bes_list p K R l x
      have hnl : news.length = R * 1 := by rw [hnews]; simp
      have hno : ∀ u ∈ news, u.oneCell' = true := by rw [hnews]; intro u hu; obtain ⟨j, _, rfl⟩ := List.mem_map.1 hu; rfl
      rw [← hxs, ← hnews] at hxn
      rw [← hnews] at r5
      rw [← hxs] at r6
      have HXN := Lib.hid hxn
      clear hxn hxs hnews
      have R1 := Lib.hid r1
      have R2 := Lib.hid r2
      have R5 := Lib.hid r5
      have R6 := Lib.hid r6
      have HB := Lib.hid hbel
      clear r1 r2 r5 r6 hrag hbel he
      have hsw := HB.out.size
      go_wp2_with (at_builtin; refine wpList_append_lies _ rfl _ _ 54 rfl w.heap.size 22 i0 (.int .u64 0) 1 8 Try.underlying54 HI.out.1 HI.out.2.1 HI.out.2.2.1 HI.out.2.2.2 rfl (by decide) _ _ _ rfl R6.out ⟨wr.heap.size, 0, none⟩ R R _ rfl ?c1 R5.out ?c2 ?c3 ?c4 ?c5 ?c6 _ rfl ?_)
      case c1 => exact hnl
      case c2 => exact hno
      case c3 => omega
      case c4 => unfold maxLen; omega
      case c5 => omega
      case c6 => have := R2.out.size; omega
      · intro g cp w5 hown hgrow hat hlt
        obtain ⟨o1, o2, o3, o4⟩ := own_row (k := .u64) (f := besG p K x l) hown HXN.out
        have hoff := R1.out.off l hl
        have how := R1.out.own l hl
        have hog := R1.out.ownG
        have hgbs := R1.out.blk.lt
        obtain ⟨c1, c2⟩ := (R1.out.cells.grown hgrow (by simp [Value.ownBlock]; omega)).get0 hl (x := .slice (some ⟨B l, 0, none⟩) K (C l)) (by rw [if_neg (Nat.lt_irrefl l)])
        have hs2 := R2.out.size
        have hrag := R1.out.widen hl hgrow (by rcases hat with h | h; exact Or.inl h; exact Or.inr (by rw [h]; simp)) o1 o2 ⟨o3, by omega, o4⟩ (by omega)
        have hbel := ((HB.out.trans (R2.out.mono hsw)).grown hgrow (by omega) (fun k hk => by simp [Value.ownBlock] at hk; show w.heap.size ≤ k; omega)).setCell (p := ⟨gb, l, none⟩) hog (.slice (some ⟨g, 0, none⟩) (K + R) cp)
        have HRG := Lib.hid hrag
        have HBL := Lib.hid hbel
        clear hrag hbel R1 R2 R5 R6 HB hown hgrow o1 o2 o3 o4
        go_wp2_with fail
        go_roundw
        case rel =>
          refine ⟨l + 1, _, _, by omega, by go_num, HRG.out.congr (fun i _ => ?_) (fun i j _ _ => ?_), HBL.out⟩
          · by_cases e : i = l
            · subst e; rw [upd_same, if_pos (by omega)]
            · rw [upd_other _ _ e]
              by_cases e2 : i < l
              · rw [if_pos e2, if_pos (by omega)]
              · rw [if_neg e2, if_neg (by omega)]
          · by_cases e : i = l
            · subst e; rw [upd_same, if_pos (by omega)]
            · rw [upd_other _ _ e]
              by_cases e2 : i < l
              · rw [if_pos e2, if_pos (by omega)]
              · rw [if_neg e2, if_neg (by omega)]
        case measure => simp [intOf]; omega
    · obtain rfl : l = R := by omega
      go_wp2_with fail
      go_ret
      exact ⟨gb, B, C, rfl, hrag.congr (fun i hi => if_pos hi) (fun i j hi _ => by rw [if_pos hi]), hbel⟩

end Go.Proofs.Ytdlpemmoobbgnaa
