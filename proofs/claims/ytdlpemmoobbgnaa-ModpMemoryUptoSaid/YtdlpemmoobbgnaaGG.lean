/- Linear algebra over Fin p in plain sums: combinations of rows, reduced echelon forms and their uniqueness. Linear algebra over Fin p: what row operations keep; the steps of an elimination. Plain facts on a prime: it divides a factor; Fermat's little law; inverses. Integers as residues: the map from the integers to Fin p, and its laws. What the program's elimination gives: a reduced echelon form with the same combinations of rows. The walk of field.beside: the rows of a matrix, with the unit matrix behind them. Rows cut off at the left: what stays of a grid; the walk of modp.Inverse. The walks of field.kernel and modp.Kernel. The walk of the law's same, where it answers yes. -/
import Derived.Test.YtdlpemmoobbgnaaGB
import Derived.Test.YtdlpemmoobbgnaaGA
import Derived.Deep.AppendLies
import Derived.Test.YtdlpemmoobbgnaaGE
set_option linter.unusedVariables false
set_option linter.unusedSimpArgs false
namespace Go.Proofs.Ytdlpemmoobbgnaa.laF
variable {p : Nat} [NeZero p]

/-- the sum of f 0, .., f (n - 1) -/
def sm : Nat → (Nat → Fin p) → Fin p
  | 0, _ => 0
  | n + 1, f => sm n f + f n

theorem sm_congr {n : Nat} {f g : Nat → Fin p} (h : ∀ i, i < n → f i = g i) : sm n f = sm n g := by
  induction n with
  | zero => rfl
  | succ n ih => simp only [sm]; rw [ih (fun i hi => h i (by omega)), h n (by omega)]
theorem sm_zero {n : Nat} {f : Nat → Fin p} (h : ∀ i, i < n → f i = 0) : sm n f = 0 := by
  induction n with
  | zero => rfl
  | succ n ih => simp only [sm]; rw [ih (fun i hi => h i (by omega)), h n (by omega)]; grind
theorem sm_add (n : Nat) (f g : Nat → Fin p) : sm n (fun i => f i + g i) = sm n f + sm n g := by
  induction n with
  | zero => simp only [sm]; grind
  | succ n ih => simp only [sm]; rw [ih]; grind
theorem sm_mul (n : Nat) (a : Fin p) (f : Nat → Fin p) : sm n (fun i => a * f i) = a * sm n f := by
  induction n with
  | zero => simp only [sm]; grind
  | succ n ih => simp only [sm]; rw [ih]; grind
theorem sm_mul_r (n : Nat) (a : Fin p) (f : Nat → Fin p) : sm n (fun i => f i * a) = sm n f * a := by
  induction n with
  | zero => simp only [sm]; grind
  | succ n ih => simp only [sm]; rw [ih]; grind
theorem sm_one {n k : Nat} (f : Nat → Fin p) (hk : k < n) (h : ∀ i, i < n → i ≠ k → f i = 0) : sm n f = f k := by
  induction n with
  | zero => omega
  | succ n ih =>
    simp only [sm]
    by_cases e : k = n
    · subst e
      rw [sm_zero (fun i hi => h i (by omega) (by omega))]; grind
    · rw [ih (by omega) (fun i hi => h i (by omega)), h n (by omega) (fun e' => e e'.symm)]; grind
theorem sm_comm (m n : Nat) (f : Nat → Nat → Fin p) : sm m (fun i => sm n (fun j => f i j)) = sm n (fun j => sm m (fun i => f i j)) := by
  induction m with
  | zero => simp only [sm]; exact (sm_zero (fun _ _ => rfl)).symm
  | succ m ih => simp only [sm]; rw [ih, ← sm_add]
theorem sm_split (m n : Nat) (f : Nat → Fin p) : sm (m + n) f = sm m f + sm n (fun i => f (m + i)) := by
  induction n with
  | zero => simp only [sm, Nat.add_zero]; grind
  | succ n ih => rw [← Nat.add_assoc]; simp only [sm]; rw [ih]; grind

/-- v is a combination of the m rows of N, as far as the first n places go -/
def Comb (m n : Nat) (N : Nat → Nat → Fin p) (v : Nat → Fin p) : Prop := ∃ a : Nat → Fin p, ∀ j, j < n → v j = sm m (fun i => a i * N i j)

theorem Comb.row {m n : Nat} {N : Nat → Nat → Fin p} {i : Nat} (hi : i < m) : Comb m n N (N i) := by
  refine ⟨fun k => if k = i then 1 else 0, fun j _ => ?_⟩
  rw [sm_one (fun k => (if k = i then (1 : Fin p) else 0) * N k j) hi (fun k _ hne => by simp only [if_neg hne]; grind)]
  simp only [if_true]; grind
theorem Comb.zero {m n : Nat} {N : Nat → Nat → Fin p} {v : Nat → Fin p} (h : ∀ j, j < n → v j = 0) : Comb m n N v :=
  ⟨fun _ => 0, fun j hj => by rw [h j hj, sm_zero (fun _ _ => by grind)]⟩
theorem Comb.add {m n : Nat} {N : Nat → Nat → Fin p} {u v : Nat → Fin p} (hu : Comb m n N u) (hv : Comb m n N v) : Comb m n N (fun j => u j + v j) := by
  obtain ⟨a, ha⟩ := hu
  obtain ⟨b, hb⟩ := hv
  refine ⟨fun i => a i + b i, fun j hj => ?_⟩
  show u j + v j = _
  rw [ha j hj, hb j hj, ← sm_add]
  exact sm_congr fun i _ => by grind
theorem Comb.scale {m n : Nat} {N : Nat → Nat → Fin p} {u : Nat → Fin p} (c : Fin p) (hu : Comb m n N u) : Comb m n N (fun j => c * u j) := by
  obtain ⟨a, ha⟩ := hu
  refine ⟨fun i => c * a i, fun j hj => ?_⟩
  show c * u j = _
  rw [ha j hj, ← sm_mul]
  exact sm_congr fun i _ => by grind
theorem Comb.congr {m n : Nat} {N : Nat → Nat → Fin p} {u v : Nat → Fin p} (hu : Comb m n N u) (h : ∀ j, j < n → v j = u j) : Comb m n N v := by
  obtain ⟨a, ha⟩ := hu
  exact ⟨a, fun j hj => by rw [h j hj, ha j hj]⟩
theorem Comb.sum {m n l : Nat} {N M : Nat → Nat → Fin p} (h : ∀ i, i < l → Comb m n N (M i)) (a : Nat → Fin p) : Comb m n N (fun j => sm l (fun i => a i * M i j)) := by
  induction l with
  | zero => exact Comb.zero fun _ _ => rfl
  | succ l ih => exact ((ih fun i hi => h i (by omega)).add ((h l (by omega)).scale (a l))).congr fun _ _ => rfl
theorem Comb.trans {m n l : Nat} {N M : Nat → Nat → Fin p} {v : Nat → Fin p} (hv : Comb l n M v) (h : ∀ i, i < l → Comb m n N (M i)) : Comb m n N v := by
  obtain ⟨a, ha⟩ := hv
  exact (Comb.sum h a).congr ha

/-- reduced echelon form, with the pivots P 0 < P 1 < .. < P (r - 1) -/
structure Rref (m n r : Nat) (P : Nat → Nat) (N : Nat → Nat → Fin p) : Prop where
  le : r ≤ m
  lt : ∀ i, i < r → P i < n
  mono : ∀ i j, i < j → j < r → P i < P j
  lead : ∀ i j, i < r → j < P i → N i j = 0
  one : ∀ i, i < r → N i (P i) = 1
  col : ∀ i k, i < m → k < r → i ≠ k → N i (P k) = 0
  rest : ∀ i j, r ≤ i → i < m → j < n → N i j = 0

section
variable {m n r : Nat} {P : Nat → Nat} {N : Nat → Nat → Fin p}
theorem Rref.coef (h : Rref m n r P N) {a v : Nat → Fin p} (hv : ∀ j, j < n → v j = sm m (fun i => a i * N i j)) {k : Nat} (hk : k < r) : v (P k) = a k := by
  rw [hv _ (h.lt k hk), sm_one (fun i => a i * N i (P k)) (show k < m by have := h.le; omega) (fun i hi hne => by simp only [h.col i k hi hk hne]; grind), h.one k hk]; grind
theorem Rref.exp (h : Rref m n r P N) {v : Nat → Fin p} (hv : Comb m n N v) {j : Nat} (hj : j < n) : v j = sm r (fun i => v (P i) * N i j) := by
  obtain ⟨a, ha⟩ := hv
  have hle := h.le
  rw [ha j hj, show m = r + (m - r) by omega, sm_split, sm_zero (n := m - r) (fun i hi => by rw [h.rest (r + i) j (by omega) (by omega) hj]; grind)]
  rw [sm_congr (fun i hi => by rw [← h.coef ha hi])]; grind
theorem Rref.first (h : Rref m n r P N) {v : Nat → Fin p} (hv : Comb m n N v) {q : Nat} (hq : q < n) (h0 : ∀ j, j < q → v j = 0) (h1 : v q ≠ 0) : ∃ i, i < r ∧ P i = q := by
  refine Classical.byContradiction fun hno => h1 ?_
  rw [h.exp hv hq]
  refine sm_zero fun i hi => ?_
  rcases Nat.lt_trichotomy (P i) q with c | c | c
  · rw [h0 _ c]; grind
  · exact absurd ⟨i, hi, c⟩ hno
  · rw [h.lead i q hi c]; grind
end

theorem mono_eq {r r' : Nat} {P P' : Nat → Nat} (hm : ∀ i j, i < j → j < r → P i < P j) (hm' : ∀ i j, i < j → j < r' → P' i < P' j)
    (h : ∀ i, i < r → ∃ k, k < r' ∧ P' k = P i) (h' : ∀ i, i < r' → ∃ k, k < r ∧ P k = P' i) : r = r' ∧ ∀ i, i < r → P i = P' i := by
  have key : ∀ i, i < r → i < r' → P i = P' i := by
    intro i
    induction i using Nat.strongRecOn with
    | _ i ih =>
      intro hi hi'
      obtain ⟨k, hk, ek⟩ := h i hi
      obtain ⟨l, hl, el⟩ := h' i hi'
      have k1 : i ≤ k := Nat.le_of_not_lt fun hlt => by
        have := ih k hlt (by omega) hk
        have := hm k i hlt hi; omega
      have l1 : i ≤ l := Nat.le_of_not_lt fun hlt => by
        have := ih l hlt hl (by omega)
        have := hm' l i hlt hi'; omega
      have a1 : P' i ≤ P i := by
        rcases Nat.lt_or_ge i k with c | c
        · have := hm' i k c hk; omega
        · have : i = k := by omega
          subst this; omega
      have a2 : P i ≤ P' i := by
        rcases Nat.lt_or_ge i l with c | c
        · have := hm i l c hl; omega
        · have : i = l := by omega
          subst this; omega
      omega
  have e : r = r' := by
    rcases Nat.lt_trichotomy r r' with c | c | c
    · obtain ⟨k, hk, ek⟩ := h' r c
      have := key k hk (by omega)
      have := hm' k r hk c; omega
    · exact c
    · obtain ⟨k, hk, ek⟩ := h r' c
      have := key k (by omega) hk
      have := hm k r' hk c; omega
  exact ⟨e, fun i hi => key i hi (by omega)⟩

/-- a reduced echelon form is known by the combinations of its rows -/
theorem Rref.unique (h01 : (1 : Fin p) ≠ 0) {m m' n r r' : Nat} {P P' : Nat → Nat} {N N' : Nat → Nat → Fin p} (h : Rref m n r P N) (h' : Rref m' n r' P' N')
    (hs : ∀ i, i < r → Comb m' n N' (N i)) (hs' : ∀ i, i < r' → Comb m n N (N' i)) :
    r = r' ∧ (∀ i, i < r → P i = P' i) ∧ ∀ i j, i < r → j < n → N i j = N' i j := by
  obtain ⟨e1, e2⟩ := mono_eq h.mono h'.mono
    (fun i hi => h'.first (hs i hi) (h.lt i hi) (fun j hj => h.lead i j hi hj) (by rw [h.one i hi]; exact h01))
    (fun i hi => h.first (hs' i hi) (h'.lt i hi) (fun j hj => h'.lead i j hi hj) (by rw [h'.one i hi]; exact h01))
  subst e1
  refine ⟨rfl, e2, fun i j hi hj => ?_⟩
  have hle := h.le
  rw [h.exp (Comb.row (by omega)) hj, h.exp (hs' i hi) hj]
  refine sm_congr fun k hk => ?_
  by_cases e : i = k
  · subst e; rw [h.one i hi, e2 i hi, h'.one i hi]
  · rw [h.col i k (by omega) hk e, e2 k hk, h'.col i k (by have := h'.le; omega) hk e]

end Go.Proofs.Ytdlpemmoobbgnaa.laF

namespace Go.Proofs.Ytdlpemmoobbgnaa.laF
variable {p : Nat} [NeZero p]

/-- the rows of each are combinations of the rows of the other -/
def SpanEq (m n : Nat) (M N : Nat → Nat → Fin p) : Prop := (∀ i, i < m → Comb m n N (M i)) ∧ (∀ i, i < m → Comb m n M (N i))

section
variable {m n : Nat} {M N Q : Nat → Nat → Fin p}
theorem SpanEq.symm (h : SpanEq m n M N) : SpanEq m n N M := ⟨h.2, h.1⟩
theorem SpanEq.trans (h : SpanEq m n M N) (g : SpanEq m n N Q) : SpanEq m n M Q :=
  ⟨fun i hi => (h.1 i hi).trans g.1, fun i hi => (g.2 i hi).trans h.2⟩
theorem SpanEq.rows (h : ∀ i j, i < m → j < n → M i j = N i j) : SpanEq m n M N :=
  ⟨fun i hi => (Comb.row hi).congr fun j hj => h i j hi hj, fun i hi => (Comb.row hi).congr fun j hj => (h i j hi hj).symm⟩
theorem SpanEq.refl (m n : Nat) (M : Nat → Nat → Fin p) : SpanEq m n M M := SpanEq.rows fun _ _ _ _ => rfl

/-- two places exchanged -/
def sx (i j k : Nat) : Nat := if k = i then j else if k = j then i else k
theorem sx_lt {i j k m : Nat} (hi : i < m) (hj : j < m) (hk : k < m) : sx i j k < m := by unfold sx; (repeat' split) <;> omega
theorem sx_sx (i j k : Nat) : sx i j (sx i j k) = k := by unfold sx; (repeat' split) <;> omega

theorem SpanEq.swap {i r : Nat} (hi : i < m) (hr : r < m) : SpanEq m n N (fun l => N (sx i r l)) :=
  ⟨fun l hl => (Comb.row (N := fun l => N (sx i r l)) (sx_lt hi hr hl)).congr fun c _ => by simp only [sx_sx], fun l hl => Comb.row (sx_lt hi hr hl)⟩

theorem SpanEq.scale {r : Nat} {u v : Fin p} (hr : r < m) (huv : u * v = 1) : SpanEq m n N (fun l c => if l = r then u * N r c else N l c) := by
  refine ⟨fun l hl => ?_, fun l hl => ?_⟩
  · have h := Comb.row (n := n) (N := fun l c => if l = r then u * N r c else N l c) hl
    by_cases e : l = r
    · subst e
      exact (h.scale v).congr fun c _ => by simp only [if_true]; grind
    · exact h.congr fun c _ => by simp only [if_neg e]
  · by_cases e : l = r
    · subst e
      exact ((Comb.row (n := n) (N := N) hr).scale u).congr fun c _ => by simp only [if_true]
    · exact (Comb.row (n := n) (N := N) hl).congr fun c _ => by simp only [if_neg e]

theorem SpanEq.elim {r : Nat} (hr : r < m) (q : Nat → Fin p) : SpanEq m n N (fun l c => if l = r then N r c else N l c - q l * N r c) := by
  refine ⟨fun l hl => ?_, fun l hl => ?_⟩
  · have h := Comb.row (n := n) (N := fun l c => if l = r then N r c else N l c - q l * N r c) hl
    have h2 := Comb.row (n := n) (N := fun l c => if l = r then N r c else N l c - q l * N r c) hr
    by_cases e : l = r
    · subst e
      exact h.congr fun c _ => by simp only [if_true]
    · exact (h.add (h2.scale (q l))).congr fun c _ => by simp only [if_neg e, if_true]; grind
  · by_cases e : l = r
    · subst e
      exact (Comb.row (n := n) (N := N) hr).congr fun c _ => by simp only [if_true]
    · exact ((Comb.row (n := n) (N := N) hl).add ((Comb.row (n := n) (N := N) hr).scale (- q l))).congr fun c _ => by simp only [if_neg e]; grind

/-- as far as fewer columns go -/
theorem Comb.left {n' : Nat} {v : Nat → Fin p} (h : Comb m n N v) (hn : n' ≤ n) : Comb m n' N v := by
  obtain ⟨a, ha⟩ := h
  exact ⟨a, fun j hj => ha j (by omega)⟩
theorem SpanEq.left {n' : Nat} (h : SpanEq m n M N) (hn : n' ≤ n) : SpanEq m n' M N := ⟨fun i hi => (h.1 i hi).left hn, fun i hi => (h.2 i hi).left hn⟩
/-- the columns from the place k on -/
theorem Comb.right {n' k : Nat} {v : Nat → Fin p} (h : Comb m n N v) (hn : k + n' ≤ n) : Comb m n' (fun i j => N i (k + j)) (fun j => v (k + j)) := by
  obtain ⟨a, ha⟩ := h
  exact ⟨a, fun j hj => ha (k + j) (by omega)⟩
end

section
variable {m j r : Nat} {P : Nat → Nat} {N : Nat → Nat → Fin p}
theorem Rref.start (m : Nat) (P : Nat → Nat) (N : Nat → Nat → Fin p) : Rref m 0 0 P N :=
  ⟨by omega, fun i hi => absurd hi (by omega), fun i k _ hk => absurd hk (by omega), fun i _ hi => absurd hi (by omega), fun i hi => absurd hi (by omega), fun i k _ hk => absurd hk (by omega), fun i c _ _ hc => absurd hc (by omega)⟩
theorem Rref.congrP (h : Rref m j r P N) {P' : Nat → Nat} (e : ∀ i, i < r → P i = P' i) : Rref m j r P' N :=
  ⟨h.le, fun i hi => by rw [← e i hi]; exact h.lt i hi, fun i k hik hk => by rw [← e i (by omega), ← e k hk]; exact h.mono i k hik hk, fun i c hi hc => h.lead i c hi (by rw [e i hi]; exact hc),
   fun i hi => by rw [← e i hi]; exact h.one i hi, fun i k hi hk hne => by rw [← e k hk]; exact h.col i k hi hk hne, h.rest⟩
theorem Rref.congr (h : Rref m j r P N) {N' : Nat → Nat → Fin p} (e : ∀ i c, i < m → c < j → N i c = N' i c) : Rref m j r P N' :=
  ⟨h.le, h.lt, h.mono, fun i c hi hc => by rw [← e i c (by have := h.le; omega) (by have := h.lt i hi; omega)]; exact h.lead i c hi hc,
   fun i hi => by rw [← e i _ (by have := h.le; omega) (h.lt i hi)]; exact h.one i hi, fun i k hi hk hne => by rw [← e i _ hi (h.lt k hk)]; exact h.col i k hi hk hne,
   fun i c hi hm hc => by rw [← e i c hm hc]; exact h.rest i c hi hm hc⟩
theorem Rref.step_zero (h : Rref m j r P N) (hz : ∀ i, r ≤ i → i < m → N i j = 0) : Rref m (j + 1) r P N :=
  ⟨h.le, fun i hi => by have := h.lt i hi; omega, h.mono, h.lead, h.one, h.col, fun i c hi hm hc => by
    by_cases e : c = j
    · rw [e]; exact hz i hi hm
    · exact h.rest i c hi hm (by omega)⟩
theorem Rref.step_pivot (h : Rref m j r P N) (hr : r < m) {N' : Nat → Nat → Fin p} (h1 : N' r j = 1) (h0 : ∀ i, i < m → i ≠ r → N' i j = 0) (ha : ∀ i c, i < r → c < j → N' i c = N i c) (hb : ∀ i c, r ≤ i → i < m → c < j → N' i c = 0) :
    Rref m (j + 1) (r + 1) (fun i => if i = r then j else P i) N' := by
  have hl := h.lt
  refine ⟨by omega, fun i hi => ?_, fun i k hik hk => ?_, fun i c hi hc => ?_, fun i hi => ?_, fun i k hi hk hne => ?_, fun i c hi hm hc => ?_⟩
  · show (if i = r then j else P i) < j + 1
    split
    · omega
    · have := hl i (by omega); omega
  · show (if i = r then j else P i) < (if k = r then j else P k)
    rw [if_neg (by omega)]
    split
    · exact hl i (by omega)
    · exact h.mono i k hik (by omega)
  · by_cases e : i = r
    · rw [if_pos e] at hc
      exact hb i c (by omega) (by omega) hc
    · rw [if_neg e] at hc
      have := hl i (by omega)
      rw [ha i c (by omega) (by omega)]; exact h.lead i c (by omega) hc
  · by_cases e : i = r
    · rw [if_pos e, e]; exact h1
    · rw [if_neg e, ha i _ (by omega) (hl i (by omega))]; exact h.one i (by omega)
  · by_cases e : k = r
    · rw [if_pos e]; exact h0 i hi (by omega)
    · rw [if_neg e]
      have := hl k (by omega)
      by_cases e2 : i < r
      · rw [ha i _ e2 this]; exact h.col i k hi (by omega) hne
      · exact hb i _ (by omega) hi this
  · by_cases e : c = j
    · rw [e]; exact h0 i hm (by omega)
    · exact hb i c (by omega) hm (by omega)
end

end Go.Proofs.Ytdlpemmoobbgnaa.laF

namespace Go.Proofs.Ytdlpemmoobbgnaa.fer

/-- the numbers of Pascal's triangle -/
def ch : Nat → Nat → Int
  | _, 0 => 1
  | 0, _ + 1 => 0
  | n + 1, k + 1 => ch n k + ch n (k + 1)

theorem ch_zero (n : Nat) : ch n 0 = 1 := by cases n <;> rfl
theorem ch_above : ∀ (n k : Nat), n < k → ch n k = 0
  | 0, 0, h => absurd h (by omega)
  | 0, k + 1, _ => rfl
  | n + 1, 0, h => absurd h (by omega)
  | n + 1, k + 1, h => by
    show ch n k + ch n (k + 1) = 0
    rw [ch_above n k (by omega), ch_above n (k + 1) (by omega)]; rfl
theorem ch_self : ∀ n, ch n n = 1
  | 0 => rfl
  | n + 1 => by
    show ch n n + ch n (n + 1) = 1
    rw [ch_self n, ch_above n (n + 1) (by omega)]; rfl

theorem ch_absorb : ∀ (n k : Nat), ((k : Int) + 1) * ch (n + 1) (k + 1) = ((n : Int) + 1) * ch n k
  | 0, 0 => by decide
  | 0, k + 1 => by
    rw [ch_above (0 + 1) (k + 1 + 1) (by omega), ch_above 0 (k + 1) (by omega)]; simp
  | n + 1, 0 => by
    have h := ch_absorb n 0
    show _ * (ch (n + 1) 0 + ch (n + 1) (0 + 1)) = _ * ch (n + 1) 0
    rw [ch_zero] at h ⊢
    grind
  | n + 1, k + 1 => by
    have h1 := ch_absorb n k
    have h2 := ch_absorb n (k + 1)
    have h3 : ch (n + 1) (k + 1) = ch n k + ch n (k + 1) := rfl
    show _ * (ch (n + 1) (k + 1) + ch (n + 1) (k + 1 + 1)) = _
    push_cast at h1 h2 ⊢
    grind

/-- the sum of the first m members of the row n at x -/
def bs (x : Int) (n : Nat) : Nat → Int
  | 0 => 0
  | m + 1 => bs x n m + ch n m * x ^ m

theorem bs_next (x : Int) (n : Nat) : ∀ m, bs x (n + 1) (m + 1) = bs x n (m + 1) + x * bs x n m
  | 0 => by simp [bs, ch_zero]
  | m + 1 => by
    have h := bs_next x n m
    have e : ch (n + 1) (m + 1) = ch n m + ch n (m + 1) := rfl
    simp only [bs] at h ⊢
    rw [e, Int.pow_succ]
    grind

theorem bs_pow (x : Int) : ∀ n, bs x n (n + 1) = (x + 1) ^ n
  | 0 => by simp [bs, ch]
  | n + 1 => by
    rw [bs_next, show bs x n (n + 1 + 1) = bs x n (n + 1) + ch n (n + 1) * x ^ (n + 1) from rfl, ch_above n (n + 1) (by omega), bs_pow x n, Int.pow_succ]
    grind

theorem isPB_dvd {p : Nat} (hp : isPB p = true) {d : Nat} (hd : d ∣ p) : d = 1 ∨ d = p := by
  obtain ⟨h2, h⟩ := (isPB_iff p).1 hp
  obtain ⟨e, rfl⟩ := hd
  rcases Nat.lt_or_ge d 2 with c | c
  · rcases (by omega : d = 0 ∨ d = 1) with r | r
    · subst r; omega
    · exact Or.inl r
  rcases Nat.lt_or_ge e 2 with c' | c'
  · rcases (by omega : e = 0 ∨ e = 1) with r | r
    · subst r; omega
    · subst r; right; omega
  · exfalso
    rcases Nat.le_total d e with g | g
    · exact h d c (Nat.mul_le_mul_left d g) (Nat.mul_mod_right d e)
    · exact h e c' (Nat.mul_le_mul_right e g) (Nat.mul_mod_left d e)

theorem isPB_mul_dvd {p : Nat} (hp : isPB p = true) {a b : Nat} (h : p ∣ a * b) : p ∣ a ∨ p ∣ b := by
  rcases isPB_dvd hp (Nat.gcd_dvd_left p a) with g | g
  · right
    have hc : Nat.Coprime p a := g
    exact hc.dvd_of_dvd_mul_left h
  · left
    rw [← g]; exact Nat.gcd_dvd_right p a

theorem dvd_mul {p : Nat} (hp : isPB p = true) {a b : Int} (h : (p : Int) ∣ a * b) : (p : Int) ∣ a ∨ (p : Int) ∣ b := by
  have h' : p ∣ a.natAbs * b.natAbs := by
    rw [← Int.natAbs_mul]; exact Int.ofNat_dvd_left.1 h
  rcases isPB_mul_dvd hp h' with g | g
  · exact Or.inl (Int.ofNat_dvd_left.2 g)
  · exact Or.inr (Int.ofNat_dvd_left.2 g)

theorem ch_dvd {p : Nat} (hp : isPB p = true) {k : Nat} (h0 : 0 < k) (h1 : k < p) : (p : Int) ∣ ch p k := by
  obtain ⟨k, rfl⟩ : ∃ j, k = j + 1 := ⟨k - 1, by omega⟩
  obtain ⟨q, rfl⟩ : ∃ q, p = q + 1 := ⟨p - 1, by omega⟩
  have h := ch_absorb q k
  have hd : ((q + 1 : Nat) : Int) ∣ ((k : Int) + 1) * ch (q + 1) (k + 1) := by rw [h]; exact ⟨ch q k, by push_cast; rfl⟩
  rcases dvd_mul hp hd with g | g
  · exfalso
    have := Int.le_of_dvd (by omega) g
    push_cast at this; omega
  · exact g

theorem bs_mod {p : Nat} (hp : isPB p = true) (x : Int) : ∀ m, m < p → bs x p (m + 1) % p = 1 % p
  | 0, _ => by simp [bs, ch_zero]
  | m + 1, h => by
    have ih := bs_mod hp x m (by omega)
    obtain ⟨c, hc⟩ := ch_dvd hp (show 0 < m + 1 by omega) h
    show (bs x p (m + 1) + ch p (m + 1) * x ^ (m + 1)) % p = _
    rw [hc, Int.mul_assoc, Int.add_mul_emod_self_left]; exact ih

theorem succ_pow {p : Nat} (hp : isPB p = true) (x : Int) : (x + 1) ^ p % p = (x ^ p + 1) % p := by
  have h2 := isPB_ge p hp
  obtain ⟨q, rfl⟩ : ∃ q, p = q + 1 := ⟨p - 1, by omega⟩
  have h := bs_mod hp x q (by omega)
  rw [← bs_pow]
  show (bs x (q + 1) (q + 1) + ch (q + 1) (q + 1) * x ^ (q + 1)) % _ = _
  rw [ch_self, Int.one_mul, Int.add_emod, h, ← Int.add_emod, Int.add_comm]

theorem fermat_nat {p : Nat} (hp : isPB p = true) : ∀ n : Nat, (n : Int) ^ p % p = n % p
  | 0 => by
    have h2 := isPB_ge p hp
    obtain ⟨q, rfl⟩ : ∃ q, p = q + 1 := ⟨p - 1, by omega⟩
    simp [Int.pow_succ]
  | n + 1 => by
    have ih := fermat_nat hp n
    have h := succ_pow hp (n : Int)
    push_cast
    rw [h, Int.add_emod, ih, ← Int.add_emod]

/-- a number between 0 and a prime has an inverse: its power -/
theorem inv_pow {p : Nat} (hp : isPB p = true) {x : Int} (h0 : 0 < x) (h1 : x < p) : x * (x ^ (p - 2) % p) % p = 1 := by
  have h2 := isPB_ge p hp
  obtain ⟨q, rfl⟩ : ∃ q, p = q + 2 := ⟨p - 2, by omega⟩
  obtain ⟨n, rfl⟩ := Int.eq_ofNat_of_zero_le (show 0 ≤ x by omega)
  have hf := fermat_nat hp n
  have hd : ((q + 2 : Nat) : Int) ∣ (n : Int) * ((n : Int) ^ (q + 1) - 1) := by
    rw [Int.mul_sub, Int.mul_one, Int.mul_comm (n : Int), ← Int.pow_succ]
    exact Int.dvd_of_emod_eq_zero (Int.emod_eq_emod_iff_emod_sub_eq_zero.1 hf)
  rcases dvd_mul hp hd with g | g
  · exact absurd (Int.le_of_dvd h0 g) (by omega)
  · have e : (n : Int) ^ (q + 1) % (q + 2 : Nat) = 1 % (q + 2 : Nat) := Int.emod_eq_emod_iff_emod_sub_eq_zero.2 (Int.emod_eq_zero_of_dvd g)
    rw [show q + 2 - 2 = q by omega, Int.mul_emod, Int.emod_emod_of_dvd _ (Int.dvd_refl _), ← Int.mul_emod, Int.mul_comm, ← Int.pow_succ, e]
    exact Int.emod_eq_of_lt (by omega) (by push_cast; omega)

end Go.Proofs.Ytdlpemmoobbgnaa.fer

namespace Go.Proofs.Ytdlpemmoobbgnaa.laF
theorem fin_ext {p : Nat} {x y : Fin p} (h : ((x.val : Nat) : Int) = ((y.val : Nat) : Int)) : x = y := Fin.ext (by exact_mod_cast h)
theorem val_add {p : Nat} (x y : Fin p) : (((x + y : Fin p).val : Nat) : Int) = ((x.val : Int) + (y.val : Int)) % p := by
  rw [Fin.val_add]; push_cast; rfl
theorem val_mul {p : Nat} (x y : Fin p) : (((x * y : Fin p).val : Nat) : Int) = ((x.val : Int) * (y.val : Int)) % p := by
  rw [Fin.val_mul]; push_cast; rfl

variable {p : Nat} [NeZero p]

/-- the residue of an integer -/
def ph (a : Int) : Fin p := Fin.ofNat p (a % p).toNat

theorem ph_val (a : Int) : (((ph a : Fin p).val : Nat) : Int) = a % p := by
  have hp : (p : Int) ≠ 0 := by have := NeZero.ne p; omega
  have h0 := Int.emod_nonneg a hp
  have h1 := Int.emod_lt_of_pos a (show (0 : Int) < p by have := NeZero.ne p; omega)
  show (((a % p).toNat % p : Nat) : Int) = _
  rw [Nat.mod_eq_of_lt (by omega), Int.toNat_of_nonneg h0]

theorem ph_eq {a b : Int} : (ph a : Fin p) = ph b ↔ a % p = b % p := by
  constructor
  · intro h; rw [← ph_val, ← ph_val, h]
  · intro h; apply fin_ext; rw [ph_val, ph_val, h]

theorem ph_add (a b : Int) : (ph (a + b) : Fin p) = ph a + ph b := by
  apply fin_ext; rw [val_add, ph_val, ph_val, ph_val, ← Int.add_emod]
theorem ph_mul (a b : Int) : (ph (a * b) : Fin p) = ph a * ph b := by
  apply fin_ext; rw [val_mul, ph_val, ph_val, ph_val, ← Int.mul_emod]
theorem ph_zero : (ph 0 : Fin p) = 0 := by
  apply fin_ext; rw [ph_val]; simp
theorem ph_one : (ph 1 : Fin p) = 1 := by
  apply fin_ext; rw [ph_val]; show 1 % (p : Int) = ((1 % p : Nat) : Int); push_cast; rfl
theorem ph_neg (a : Int) : (ph (-a) : Fin p) = - ph a := by
  have h : (ph (-a) : Fin p) + ph a = 0 := by rw [← ph_add, Int.add_left_neg, ph_zero]
  grind
theorem ph_sub (a b : Int) : (ph (a - b) : Fin p) = ph a - ph b := by
  rw [Int.sub_eq_add_neg, ph_add, ph_neg]; grind
theorem ph_mod (a : Int) : (ph (a % p) : Fin p) = ph a := by
  rw [ph_eq, Int.emod_emod_of_dvd _ (Int.dvd_refl _)]
theorem ph_p : (ph (p : Int) : Fin p) = 0 := by
  rw [← ph_zero, ph_eq]; simp
theorem ph_sub_p (a : Int) : (ph ((p : Int) - a) : Fin p) = - ph a := by rw [ph_sub, ph_p]; grind
theorem ph_zero_iff {a : Int} : (ph a : Fin p) = 0 ↔ a % p = 0 := by rw [← ph_zero, ph_eq]; simp
theorem ph_dvd {a : Int} : (ph a : Fin p) = 0 ↔ (p : Int) ∣ a := by rw [ph_zero_iff]; exact ⟨Int.dvd_of_emod_eq_zero, Int.emod_eq_zero_of_dvd⟩
theorem ph_inj {a b : Int} (a0 : 0 ≤ a) (a1 : a < p) (b0 : 0 ≤ b) (b1 : b < p) (h : (ph a : Fin p) = ph b) : a = b := by
  rw [ph_eq, Int.emod_eq_of_lt a0 a1, Int.emod_eq_of_lt b0 b1] at h; exact h
theorem ph_ne {a : Int} (a0 : 0 ≤ a) (a1 : a < p) (h : a ≠ 0) : (ph a : Fin p) ≠ 0 := by
  intro e; rw [ph_zero_iff, Int.emod_eq_of_lt a0 a1] at e; exact h e
theorem one_ne (hp : 2 ≤ p) : (1 : Fin p) ≠ 0 := by
  rw [← ph_one]; exact ph_ne (by omega) (by omega) (by omega)

/-- a number that is not 0 times its power is 1 -/
theorem ph_inv (hp : isPB p = true) {x : Int} (h0 : 0 ≤ x) (h1 : x < p) (hx : x ≠ 0) : (ph x : Fin p) * ph (x ^ (p - 2) % p) = 1 := by
  rw [← ph_mul, ← ph_one, ph_eq, fer.inv_pow hp (by omega) h1, Int.emod_eq_of_lt (by omega) (by have := isPB_ge p hp; omega)]

theorem exists_inv (hp : isPB p = true) {x : Fin p} (hx : x ≠ 0) : ∃ y : Fin p, x * y = 1 := by
  refine ⟨ph (((x.val : Nat) : Int) ^ (p - 2) % p), ?_⟩
  have e : x = ph ((x.val : Nat) : Int) := by apply fin_ext; rw [ph_val, Int.emod_eq_of_lt (by omega) (by have := x.isLt; omega)]
  have hne : ((x.val : Nat) : Int) ≠ 0 := fun h => hx (fin_ext (by rw [h]; simp))
  conv => lhs; arg 1; rw [e]
  exact ph_inv hp (by omega) (by have := x.isLt; omega) hne

end Go.Proofs.Ytdlpemmoobbgnaa.laF

namespace Go.Proofs.Ytdlpemmoobbgnaa
open laF

/-- a grid as a matrix over Fin q -/
def phG (q : Nat) [NeZero q] (G : Nat → Nat → Int) : Nat → Nat → Fin q := fun i j => ph (G i j)

section
variable {q : Nat} [NeZero q] {m n j : Nat}

theorem RS.step_ok (hp : isPB q = true) {s : RS} (hres : Res q m n s.G) (hl : s.P.length ≤ m) (hj : j < n) (h : Rref m j s.P.length (fun i => s.P.getD i 0) (phG q s.G)) :
    Rref m (j + 1) (s.step q m n j).P.length (fun i => (s.step q m n j).P.getD i 0) (phG q (s.step q m n j).G) ∧ SpanEq m n (phG q s.G) (phG q (s.step q m n j).G) := by
  have hb := fnd_bd s.G j (m - s.P.length) s.P.length
  have hne := fnd_ne s.G j (m - s.P.length) s.P.length
  have hz := fnd_zero s.G j (m - s.P.length) s.P.length
  unfold RS.step
  simp only
  obtain ⟨r, hr⟩ : ∃ r, r = s.P.length := ⟨_, rfl⟩
  rw [← hr] at hb hne hz h hl ⊢
  obtain ⟨i, hi⟩ : ∃ i, i = fnd s.G j (m - r) r := ⟨_, rfl⟩
  rw [← hi] at hb hne hz ⊢
  by_cases him : i = m
  · rw [if_pos him]
    refine ⟨?_, SpanEq.refl _ _ _⟩
    rw [← hr]
    exact h.step_zero fun l h1 h2 => by unfold phG; rw [hz l h1 (by omega)]; exact ph_zero
  · rw [if_neg him]
    have hrm : r < m := by omega
    have him' : i < m := by omega
    have hq := isPB_ge q hp
    -- the pivot
    have hG1 : swF i r s.G r j = s.G i j := by unfold swF; rw [show sw i r r = i by unfold sw; (repeat' split) <;> omega]
    obtain ⟨y, hy⟩ : ∃ y, y = swF i r s.G r j := ⟨_, rfl⟩
    have hy0 : y ≠ 0 := by rw [hy, hG1]; exact hne (by omega)
    have hyb := hres i j him' hj
    rw [← hG1, ← hy] at hyb
    have hu : ph (invm q y) * (ph y : Fin q) = 1 := by
      have := ph_inv hp hyb.1 hyb.2 hy0
      unfold invm
      rw [show ((q : Int) - 2).toNat = q - 2 by omega]; grind
    obtain ⟨u, hu'⟩ : ∃ u : Fin q, u = ph (invm q y) := ⟨_, rfl⟩
    -- the rows from r on are 0 before the column j
    have hz1 : ∀ l c, r ≤ l → l < m → c < j → (ph (swF i r s.G l c) : Fin q) = 0 := fun l c h1 h2 h3 => by
      have hsl : r ≤ sw i r l ∧ sw i r l < m := by unfold sw; (repeat' split) <;> omega
      exact h.rest (sw i r l) c hsl.1 hsl.2 h3
    -- the three stages
    have e1 : ∀ l c, phG q (swF i r s.G) l c = (fun l => phG q s.G (sx i r l)) l c := fun _ _ => rfl
    have e2 : ∀ l c, l < m → c < n → phG q (scF q j r (swF i r s.G)) l c = (fun l c => if l = r then u * phG q (swF i r s.G) r c else phG q (swF i r s.G) l c) l c := fun l c hl hc => by
      show ph (scF q j r (swF i r s.G) l c) = (if l = r then u * ph (swF i r s.G r c) else ph (swF i r s.G l c))
      unfold scF
      by_cases e : l = r
      · rw [if_pos e, if_pos e, ← hy]
        unfold scaleF
        by_cases e' : j ≤ c
        · rw [if_pos e', ph_mod, ph_mul, hu']; grind
        · rw [if_neg e', hz1 r c (Nat.le_refl _) hrm (by omega)]; grind
      · rw [if_neg e, if_neg e]
    have e3 : ∀ l c, l < m → c < n → phG q (elimF q j n r (scF q j r (swF i r s.G)) m) l c =
        (fun l c => if l = r then phG q (scF q j r (swF i r s.G)) r c else phG q (scF q j r (swF i r s.G)) l c - phG q (scF q j r (swF i r s.G)) l j * phG q (scF q j r (swF i r s.G)) r c) l c := fun l c hl hc => by
      show ph (elimF q j n r (scF q j r (swF i r s.G)) m l c) = (if l = r then _ else _)
      unfold elimF
      by_cases e : l = r
      · rw [if_pos e, if_neg (by omega), e]; rfl
      · rw [if_neg e, if_pos ⟨hl, e⟩]
        unfold takeF
        by_cases e' : j ≤ c
        · rw [if_pos ⟨e', hc⟩, ph_mod, ph_add, ph_mul, ph_sub_p]; unfold phG; grind
        · rw [if_neg (by omega)]
          have : phG q (scF q j r (swF i r s.G)) r c = 0 := by
            rw [e2 r c hrm hc]
            show (if r = r then u * ph (swF i r s.G r c) else _) = _
            rw [if_pos rfl, hz1 r c (Nat.le_refl _) hrm (by omega)]; grind
          rw [this]; unfold phG; grind
    have t2 : phG q (scF q j r (swF i r s.G)) r j = 1 := by
      rw [e2 r j hrm hj]
      show (if r = r then u * ph (swF i r s.G r j) else _) = _
      rw [if_pos rfl, ← hy, hu']; exact hu
    have t0 : ∀ c, c < j → phG q (scF q j r (swF i r s.G)) r c = 0 := fun c hc => by
      rw [e2 r c hrm (by omega)]
      show (if r = r then u * ph (swF i r s.G r c) else _) = _
      rw [if_pos rfl, hz1 r c (Nat.le_refl _) hrm hc]; grind
    constructor
    · have hlen : (s.P ++ [j]).length = r + 1 := by simp [hr]
      rw [hlen]
      refine (Rref.step_pivot (N' := phG q (elimF q j n r (scF q j r (swF i r s.G)) m)) h hrm ?_ ?_ ?_ ?_).congrP ?_
      · rw [e3 r j hrm hj]; show (if r = r then _ else _) = _; rw [if_pos rfl]; exact t2
      · intro l hl hne
        rw [e3 l j hl hj]; show (if l = r then _ else _) = _
        rw [if_neg hne, t2]; grind
      · intro l c hl hc
        rw [e3 l c (by omega) (by omega)]; show (if l = r then _ else _) = _
        rw [if_neg (by omega), t0 c hc, e2 l c (by omega) (by omega)]
        show (if l = r then _ else phG q (swF i r s.G) l c) - _ = _
        rw [if_neg (by omega), e1]
        show phG q s.G (sx i r l) c - _ = _
        rw [show sx i r l = l by unfold sx; rw [if_neg (by omega), if_neg (by omega)]]; grind
      · intro l c h1 h2 h3
        rw [e3 l c h2 (by omega)]; show (if l = r then _ else _) = _
        by_cases e : l = r
        · rw [if_pos e]; exact t0 c h3
        · rw [if_neg e, t0 c h3, e2 l c h2 (by omega)]
          show (if l = r then _ else ph (swF i r s.G l c)) - _ = _
          rw [if_neg e, hz1 l c h1 h2 h3]; grind
      · intro l hl
        simp only [List.getD_eq_getElem?_getD]
        by_cases e : l = r
        · rw [if_pos e, e, hr, List.getElem?_append_right (by omega)]; simp
        · rw [if_neg e, List.getElem?_append_left (by omega)]
    · refine (SpanEq.swap him' hrm).trans ((SpanEq.trans (SpanEq.rows fun l c _ _ => (e1 l c).symm) ?_))
      refine (SpanEq.scale (u := u) (v := ph y) hrm (by rw [hu']; exact hu)).trans ((SpanEq.rows fun l c hl hc => (e2 l c hl hc).symm).trans ?_)
      exact (SpanEq.elim hrm (fun l => phG q (scF q j r (swF i r s.G)) l j)).trans (SpanEq.rows fun l c hl hc => (e3 l c hl hc).symm)

/-- the elimination by the first j columns -/
theorem RS.run_ok (hp : isPB q = true) {G : Nat → Nat → Int} (hres : Res q m n G) (d : Int) : ∀ j, j ≤ n →
    Rref m j (RS.run q m n ⟨G, [], d⟩ j).P.length (fun i => (RS.run q m n ⟨G, [], d⟩ j).P.getD i 0) (phG q (RS.run q m n ⟨G, [], d⟩ j).G) ∧ SpanEq m n (phG q G) (phG q (RS.run q m n ⟨G, [], d⟩ j).G)
  | 0, _ => ⟨Rref.start _ _ _, SpanEq.refl _ _ _⟩
  | j + 1, h => by
    obtain ⟨h1, h2⟩ := RS.run_ok hp hres d j (by omega)
    have hq := isPB_ge q hp
    obtain ⟨h3, h4⟩ := RS.step_ok hp (RS.run_res (s := ⟨G, [], d⟩) (by omega) (Nat.zero_le _) hres j) (RS.run_len (s := ⟨G, [], d⟩) (Nat.zero_le _) j) h h1
    exact ⟨h3, h2.trans h4⟩
end

end Go.Proofs.Ytdlpemmoobbgnaa

namespace Go.Proofs.Ytdlpemmoobbgnaa
open Go.RowKit

/-- a grid of the call's own, whose rows are of widths N and capacities C -/
structure Rag (k : IntKind) (e E : TypeId) (w : World) (base gb m : Nat) (B N C : Nat → Nat) (G : Nat → Nat → Int) : Prop where
  blk : Blk w gb m E
  cells : CellsAt w gb 0 m (fun i => .slice (some ⟨B i, 0, none⟩) (N i) (C i))
  rows : ∀ i, i < m → Blk w (B i) (C i) e ∧ RowAt k w (B i) 0 (N i) (G i)
  caps : ∀ i, i < m → N i ≤ C i ∧ N i ≤ 17592186044416 ∧ C i ≤ maxLen
  apart : ∀ i j, i < m → j < m → B i = B j → i = j
  off : ∀ i, i < m → B i ≠ gb
  own : ∀ i, i < m → base ≤ B i
  ownG : base ≤ gb

def upd {α : Type} (f : Nat → α) (l : Nat) (x : α) : Nat → α := fun i => if i = l then x else f i
theorem upd_same {α : Type} (f : Nat → α) (l : Nat) (x : α) : upd f l x l = x := if_pos rfl
theorem upd_other {α : Type} (f : Nat → α) {l i : Nat} (x : α) (h : i ≠ l) : upd f l x i = f i := if_neg h

section
variable {k : IntKind} {e E : TypeId} {w w' : World} {base gb m : Nat} {B N C : Nat → Nat} {G : Nat → Nat → Int}

theorem Rag.lt (h : Rag k e E w base gb m B N C G) (i : Nat) (hi : i < m) : B i < w.heap.size := (h.rows i hi).1.lt

theorem Rag.grown (h : Rag k e E w base gb m B N C G) {q : Option Nat} (hg : w.grownBy w' q) (h1 : some gb ≠ q) (h2 : ∀ i, i < m → some (B i) ≠ q) : Rag k e E w' base gb m B N C G :=
  { h with blk := h.blk.grown hg h1, cells := h.cells.grown hg h1, rows := fun i hi => ⟨(h.rows i hi).1.grown hg (h2 i hi), (h.rows i hi).2.gb hg (h2 i hi)⟩ }

theorem Rag.below (h : Rag k e E w base gb m B N C G) (hb : Below w.heap.size w w') : Rag k e E w' base gb m B N C G :=
  h.grown (gb_below hb none) (by simp) (fun _ _ => by simp)

/-- row l is replaced: what is appended to it lies in the block g, which is the old one or a new one -/
theorem Rag.widen (h : Rag k e E w base gb m B N C G) {l g n cap : Nat} (hl : l < m) {f : Nat → Int} (hg : w.grownBy w' (some (B l))) (hat : some (B l) = some g ∨ g = w.heap.size)
    (hb : Blk w' g cap e) (hr : RowAt k w' g 0 n f) (hc : n ≤ cap ∧ n ≤ 17592186044416 ∧ cap ≤ maxLen) (hw : base ≤ w.heap.size) :
    Rag k e E (w'.setCell ⟨gb, l, none⟩ (.slice (some ⟨g, 0, none⟩) n cap)) base gb m (upd B l g) (upd N l n) (upd C l cap) (upd G l f) := by
  have hgb := h.blk.lt
  have hoff := h.off
  have hlt := h.lt
  have hB : ∀ i, i < m → i ≠ l → B i ≠ g := fun i hi hne e1 => by
    rcases hat with h1 | h1
    · injection h1 with h1; exact hne (h.apart i l hi hl (by omega))
    · have := hlt i hi; omega
  have hgg : g ≠ gb := by
    rcases hat with h1 | h1
    · injection h1 with h1; have := hoff l hl; omega
    · omega
  have hbg : base ≤ g := by
    rcases hat with h1 | h1
    · injection h1 with h1; have := h.own l hl; omega
    · omega
  have hgB : some gb ≠ some (B l) := fun e1 => hoff l hl (Option.some.inj e1).symm
  refine ⟨(h.blk.grown hg hgB).set l _, ((h.cells.grown hg hgB).set0 hl _).congr fun i hi => ?_, fun i hi => ?_, fun i hi => ?_, fun i j hi hj => ?_, fun i hi => ?_, fun i hi => ?_, h.ownG⟩
  · by_cases e1 : i = l
    · subst e1; rw [if_pos rfl, upd_same, upd_same, upd_same]
    · rw [if_neg e1, upd_other _ _ e1, upd_other _ _ e1, upd_other _ _ e1]
  · by_cases e1 : i = l
    · subst e1; rw [upd_same, upd_same, upd_same, upd_same]
      exact ⟨hb.other (by show gb ≠ g; omega) _, hr.other (by show gb ≠ g; omega) _⟩
    · rw [upd_other _ _ e1, upd_other _ _ e1, upd_other _ _ e1, upd_other _ _ e1]
      have hne : some (B i) ≠ some (B l) := fun e2 => e1 (h.apart i l hi hl (Option.some.inj e2))
      have := hoff i hi
      exact ⟨((h.rows i hi).1.grown hg hne).other (by show gb ≠ B i; omega) _, ((h.rows i hi).2.gb hg hne).other (by show gb ≠ B i; omega) _⟩
  · by_cases e1 : i = l
    · subst e1; rw [upd_same, upd_same]; exact hc
    · rw [upd_other _ _ e1, upd_other _ _ e1]; exact h.caps i hi
  · intro e0
    by_cases e1 : i = l
    · by_cases e2 : j = l
      · omega
      · subst e1; rw [upd_same, upd_other _ _ e2] at e0; exact absurd e0.symm (hB j hj e2)
    · by_cases e2 : j = l
      · subst e2; rw [upd_same, upd_other _ _ e1] at e0; exact absurd e0 (hB i hi e1)
      · rw [upd_other _ _ e1, upd_other _ _ e2] at e0; exact h.apart i j hi hj e0
  · by_cases e1 : i = l
    · subst e1; rw [upd_same]; exact hgg
    · rw [upd_other _ _ e1]; exact hoff i hi
  · by_cases e1 : i = l
    · subst e1; rw [upd_same]; exact hbg
    · rw [upd_other _ _ e1]; exact h.own i hi

theorem Rag.of {n : Nat} (h : Part k e E w base gb m n B G m m) (hn : n ≤ 17592186044416) : Rag k e E w base gb m B (fun _ => n) (fun _ => n) G :=
  ⟨h.blk, h.cells.congr fun i hi => if_pos hi, h.rows, fun _ _ => ⟨Nat.le_refl _, hn, by unfold maxLen; omega⟩, h.apart, h.off, h.own, h.ownG⟩

theorem Rag.congr (h : Rag k e E w base gb m B N C G) {N' : Nat → Nat} {G' : Nat → Nat → Int} (hN : ∀ i, i < m → N i = N' i) (hG : ∀ i j, i < m → j < N i → G i j = G' i j) : Rag k e E w base gb m B N' C G' :=
  { h with
    cells := h.cells.congr fun i hi => by rw [hN i hi]
    rows := fun i hi => ⟨(h.rows i hi).1, by rw [← hN i hi]; exact (h.rows i hi).2.congr fun j hj => hG i j hi hj⟩
    caps := fun i hi => by rw [← hN i hi]; exact h.caps i hi }

theorem Rag.grid {n : Nat} (h : Rag k e E w base gb m B (fun _ => n) C G) : GridAt k w base gb 0 m n B (fun _ => 0) C G :=
  ⟨h.cells, fun i hi => (h.rows i hi).2, h.apart, h.off, fun i hi => ⟨(h.caps i hi).1, (h.caps i hi).2.1⟩, h.own, h.ownG, h.lt⟩
end

theorem own_row {k : IntKind} {w : World} {base g n cap : Nat} {e : TypeId} {xs : List Value} {f : Nat → Int} (h : w.ownsRow base e 1 (.slice (some ⟨g, 0, none⟩) n cap) n xs) (hx : xs = (List.range n).map fun i => .int k (f i)) :
    Blk w g cap e ∧ RowAt k w g 0 n f ∧ n ≤ cap ∧ cap ≤ maxLen := by
  obtain ⟨_, h⟩ := h
  rcases h with ⟨h, _⟩ | ⟨g', cap', cur, h1, h2, h3, h4, h5, h6, h7⟩
  · simp at h
  · simp only [Value.slice.injEq, Option.some.injEq, Addr.mk.injEq, true_and, and_true] at h1
    obtain ⟨rfl, rfl⟩ := h1
    refine ⟨⟨cur, h3, by omega⟩, fun i hi => ⟨?_, ?_⟩, h4, h5⟩
    · rw [Nat.zero_add, cell_of_row _ _ _ _ _ _ h3]
      have := congrArg (·[i]?) h7
      simp only [hx] at this
      rw [List.getElem?_take, if_pos (by omega)] at this
      simpa [hi] using this
    · unfold World.frozen?
      rw [show (⟨g, 0 + i, none⟩ : Addr).block = g from rfl, h3]; simp

theorem range_two (n m : Nat) (F : Nat → Value) : (List.range (n + m)).map F = (List.range n).map F ++ (List.range m).map fun i => F (n + i) := by
  rw [List.range_add, List.map_append, List.map_map]; rfl

theorem Rag.mono {k : IntKind} {e E : TypeId} {w : World} {base gb m : Nat} {B N C : Nat → Nat} {G : Nat → Nat → Int} (h : Rag k e E w base gb m B N C G) {base' : Nat} (hb : base' ≤ base) : Rag k e E w base' gb m B N C G :=
  { h with own := fun i hi => Nat.le_trans hb (h.own i hi), ownG := Nat.le_trans hb h.ownG }

/-- row i of the matrix with the unit matrix behind it -/
def besG (p : Int) (K : Nat) (x : Nat → Raw) : Nat → Nat → Int := fun i j => if j < K then resG p K x i j else if j = K + i then 1 else 0

/-- the unit row is made -/
theorem bes_pre {e E : TypeId} {wr : World} {base gb m : Nat} {B N C : Nat → Nat} {G : Nat → Nat → Int} (h : Rag .u64 e E wr base gb m B N C G) {l : Nat} (hl : l < m) :
    Rag .u64 e E ((wr.alloc (.cells (madeCells #[.int .u64 0] m) e)).setCell ⟨wr.heap.size, l, none⟩ (.int .u64 1)) base gb m B N C G ∧
    Below wr.heap.size wr ((wr.alloc (.cells (madeCells #[.int .u64 0] m) e)).setCell ⟨wr.heap.size, l, none⟩ (.int .u64 1)) ∧
    (wr.alloc (.cells (madeCells #[.int .u64 0] m) e)).cell? ⟨wr.heap.size, l, none⟩ = some (.int .u64 0) ∧ (wr.alloc (.cells (madeCells #[.int .u64 0] m) e)).frozen? ⟨wr.heap.size, l, none⟩ = false ∧
    (∀ j u, ((List.range m).map fun i => Value.int .u64 (if i = l then 1 else 0))[j]? = some u →
      ((wr.alloc (.cells (madeCells #[.int .u64 0] m) e)).setCell ⟨wr.heap.size, l, none⟩ (.int .u64 1)).cell? (Addr.add ⟨wr.heap.size, 0, none⟩ j) = some u) ∧
    ((wr.alloc (.cells (madeCells #[.int .u64 0] m) e)).setCell ⟨wr.heap.size, l, none⟩ (.int .u64 1)).ownsRow base e 1 (.slice (some ⟨B l, 0, none⟩) (N l) (C l)) (N l) ((List.range (N l)).map fun i => .int .u64 (G l i)) := by
  have hb : Below wr.heap.size wr ((wr.alloc (.cells (madeCells #[.int .u64 0] m) e)).setCell ⟨wr.heap.size, l, none⟩ (.int .u64 1)) :=
    ((Below.refl _ _).alloc (Nat.le_refl _) _).setCell (Nat.le_refl _) _
  have c := CellsAt.made wr (.int .u64 0) m e
  have cl := c.get0 hl rfl
  have c2 := c.set0 hl (.int .u64 1)
  have h2 := h.below hb
  refine ⟨h2, hb, cl.1, cl.2, fun j u hj => ?_, ?_⟩
  · have hjm : j < m := by have := (List.getElem?_eq_some_iff.1 hj).1; simpa using this
    rw [Addr.add_lit]
    have := (c2 j hjm).1
    rw [this]
    simp [hjm] at hj
    rw [← hj]
    show some (if j = l then Value.int .u64 1 else Value.int .u64 0) = some (Value.int .u64 (if j = l then 1 else 0))
    by_cases ej : j = l
    · rw [if_pos ej, if_pos ej]
    · rw [if_neg ej, if_neg ej]
  · obtain ⟨⟨cur, hB, hs⟩, hr⟩ := h2.rows l hl
    refine ⟨by simp, Or.inr ⟨B l, C l, cur, rfl, h.own l hl, hB, (h.caps l hl).1, (h.caps l hl).2.2, by omega, ?_⟩⟩
    · apply List.ext_getElem?
      intro i
      rw [Nat.mul_one, List.getElem?_take]
      by_cases hi : i < N l
      · rw [if_pos hi]
        have := (hr i hi).1
        rw [Nat.zero_add, cell_of_row _ _ _ _ _ _ hB] at this
        simp [hi, this]
      · rw [if_neg hi, List.getElem?_eq_none (by simp; omega)]

theorem bes_list (p : Int) (K R l : Nat) (x : Nat → Raw) : (List.range K).map (fun i => Value.int .u64 (resG p K x l i)) ++ (List.range R).map (fun i => Value.int .u64 (if i = l then 1 else 0)) =
    (List.range (K + R)).map fun i => .int .u64 (besG p K x l i) := by
  rw [range_two]
  congr 1
  · refine List.map_congr_left fun j hj => ?_
    have hjK : j < K := by simpa using hj
    unfold besG; rw [if_pos hjK]
  · refine List.map_congr_left fun j hj => ?_
    have h1 : ¬ K + j < K := by omega
    unfold besG
    by_cases e : j = l
    · rw [if_pos e, if_neg h1, if_pos (show K + j = K + l by omega)]
    · rw [if_neg e, if_neg h1, if_neg (show ¬ K + j = K + l by omega)]

set_option maxHeartbeats 2000000 in
set_option maxRecDepth 100000 in
theorem beside_any (p : Int) (h1 : 1 ≤ p) (h2 : p < 2147483648) (R K n : Nat) (hR : R ≤ 64) (hK : K ≤ 64) (hN : n = R * K) (s : Value) (x : Nat → Raw) (w : World) (hr : RdL w s n x) :
    Calls Try.prog 47 #[.int .u64 p, .agg #[.int .i64 R, .int .i64 K, s]] w fun e w' =>
      ∃ gb B C, e = .returned (.slice (some ⟨gb, 0, none⟩) R R) ∧ Rag .u64 22 54 w' w.heap.size gb R B (fun _ => K + R) C (besG p K x) ∧ Below w.heap.size w w' := by
  have m1 := mk_words R (by omega)
  obtain ⟨a, cap, rfl, hn⟩ := hr.slice
  obtain ⟨i0, hi, hz0, hz1, hz2⟩ := info_parts infoW
  have HI := Lib.hid (And.intro hi (And.intro hz0 (And.intro hz1 hz2)))
  have HR := Lib.hid hr
  have HN := Lib.hid hN
  have hb0 : Below w.heap.size w (w.alloc (.cells #[.int .i64 R, .int .i64 K, .slice a n cap] 34)) := (Below.refl _ _).alloc (Nat.le_refl _) _
  have HB0 := Lib.hid hb0
  have HR1 := Lib.hid (hr.below hb0)
  clear hr hi hz0 hz1 hz2 hN hb0
  go_enter Try.func47, Try.ntmps47
  go_wp2_with (go_at_call 45; refine (residues_any p h1 h2 R K n hR hK HN.out _ x _ HR1.out).mono ?_; rintro e w1 ⟨gb, B, rfl, hp2, hb2⟩)
  have hbw : Below w.heap.size w w1 := HB0.out.trans (hb2.mono (by simp))
  have hrag := (Rag.of hp2 (by omega)).mono (base' := w.heap.size) (by simp)
  have HRG := Lib.hid hrag
  have HBW := Lib.hid hbw
  clear hrag hbw hp2 hb2
  go_loopw [13] (fun iv wr => ∃ (l : Nat) (B C : Nat → Nat), l ≤ R ∧ iv = .int .i64 l ∧
      Rag .u64 22 54 wr w.heap.size gb R B (fun i => if i < l then K + R else K) C (fun i => if i < l then besG p K x i else resG p K x i) ∧ Below w.heap.size w wr) (fun iv _ => R - (intOf iv).toNat)
  case atStart =>
    refine ⟨0, B, _, by omega, rfl, HRG.out.congr (fun i _ => (if_neg (by omega)).symm) (fun i j _ _ => ?_), HBW.out⟩
    rw [if_neg (by omega)]; rfl
  case round =>
    clear HRG HBW B
    obtain ⟨l, B, C, l1, rfl, hrag, hbel⟩ := hrel
    by_cases hl : l < R
    · obtain ⟨r1, r2, r3, r4, r5, r6⟩ := bes_pre hrag hl
      rw [if_neg (Nat.lt_irrefl l), show (if l < l then besG p K x l else resG p K x l) = resG p K x l from if_neg (Nat.lt_irrefl l)] at r6
      obtain ⟨k1, k2⟩ := r1.cells.get0 hl (x := .slice (some ⟨B l, 0, none⟩) K (C l)) (by rw [if_neg (Nat.lt_irrefl l)])
      have he := World.setCell_alloc_new (w := wr) (madeCells #[.int .u64 0] R) 22 l (.int .u64 1)
      rw [he] at r1 r2 r5 r6 k1 k2
      obtain ⟨xs, hxs⟩ : ∃ xs, xs = (List.range K).map (fun i => Value.int .u64 (resG p K x l i)) := ⟨_, rfl⟩
      obtain ⟨news, hnews⟩ : ∃ news, news = (List.range R).map (fun i => Value.int .u64 (if i = l then 1 else 0)) := ⟨_, rfl⟩
      have hxn := bes_list p K R l x
      have hnl : news.length = R * 1 := by rw [hnews]; simp
      have hno : ∀ u ∈ news, u.oneCell' = true := by rw [hnews]; intro u hu; obtain ⟨j, _, rfl⟩ := List.mem_map.1 hu; rfl
      rw [← hxs, ← hnews] at hxn
      rw [← hnews] at r5
      rw [← hxs] at r6
      have HXN := Lib.hid hxn
      clear hxn hxs hnews
      have R1 := Lib.hid r1
      have R2 := Lib.hid r2
      have R5 := Lib.hid r5
      have R6 := Lib.hid r6
      have HB := Lib.hid hbel
      clear r1 r2 r5 r6 hrag hbel he
      have hsw := HB.out.size
      go_wp2_with (at_builtin; refine wpList_append_lies _ rfl _ _ 54 rfl w.heap.size 22 i0 (.int .u64 0) 1 8 Try.underlying54 HI.out.1 HI.out.2.1 HI.out.2.2.1 HI.out.2.2.2 rfl (by decide) _ _ _ rfl R6.out ⟨wr.heap.size, 0, none⟩ R R _ rfl ?c1 R5.out ?c2 ?c3 ?c4 ?c5 ?c6 _ rfl ?_)
      case c1 => exact hnl
      case c2 => exact hno
      case c3 => omega
      case c4 => unfold maxLen; omega
      case c5 => omega
      case c6 => have := R2.out.size; omega
      · intro g cp w5 hown hgrow hat hlt
        obtain ⟨o1, o2, o3, o4⟩ := own_row (k := .u64) (f := besG p K x l) hown HXN.out
        have hoff := R1.out.off l hl
        have how := R1.out.own l hl
        have hog := R1.out.ownG
        have hgbs := R1.out.blk.lt
        obtain ⟨c1, c2⟩ := (R1.out.cells.grown hgrow (by simp [Value.ownBlock]; omega)).get0 hl (x := .slice (some ⟨B l, 0, none⟩) K (C l)) (by rw [if_neg (Nat.lt_irrefl l)])
        have hs2 := R2.out.size
        have hrag := R1.out.widen hl hgrow (by rcases hat with h | h; exact Or.inl h; exact Or.inr (by rw [h]; simp)) o1 o2 ⟨o3, by omega, o4⟩ (by omega)
        have hbel := ((HB.out.trans (R2.out.mono hsw)).grown hgrow (by omega) (fun k hk => by simp [Value.ownBlock] at hk; show w.heap.size ≤ k; omega)).setCell (p := ⟨gb, l, none⟩) hog (.slice (some ⟨g, 0, none⟩) (K + R) cp)
        have HRG := Lib.hid hrag
        have HBL := Lib.hid hbel
        clear hrag hbel R1 R2 R5 R6 HB hown hgrow o1 o2 o3 o4
        go_wp2_with fail
        go_roundw
        case rel =>
          refine ⟨l + 1, _, _, by omega, by go_num, HRG.out.congr (fun i _ => ?_) (fun i j _ _ => ?_), HBL.out⟩
          · by_cases e : i = l
            · subst e; rw [upd_same, if_pos (by omega)]
            · rw [upd_other _ _ e]
              by_cases e2 : i < l
              · rw [if_pos e2, if_pos (by omega)]
              · rw [if_neg e2, if_neg (by omega)]
          · by_cases e : i = l
            · subst e; rw [upd_same, if_pos (by omega)]
            · rw [upd_other _ _ e]
              by_cases e2 : i < l
              · rw [if_pos e2, if_pos (by omega)]
              · rw [if_neg e2, if_neg (by omega)]
        case measure => simp [intOf]; omega
    · obtain rfl : l = R := by omega
      go_wp2_with fail
      go_ret
      exact ⟨gb, B, C, rfl, hrag.congr (fun i hi => if_pos hi) (fun i j hi _ => by rw [if_pos hi]), hbel⟩

end Go.Proofs.Ytdlpemmoobbgnaa

namespace Go.Proofs.Ytdlpemmoobbgnaa
open Go.RowKit

/-- a grid of rows of K + n numbers, of which the first l rows have lost their first K -/
structure Cut (w : World) (base gb go m K n l : Nat) (B O C : Nat → Nat) (G : Nat → Nat → Int) : Prop where
  cells : ∀ i, i < m → w.cell? ⟨gb, go + i, none⟩ = some (if i < l then .slice (some ⟨B i, O i + K, none⟩) n (C i - K) else .slice (some ⟨B i, O i, none⟩) (K + n) (C i)) ∧ w.frozen? ⟨gb, go + i, none⟩ = false
  rows : ∀ i, i < m → RowAt .u64 w (B i) (O i) (K + n) (G i)
  apart : ∀ i j, i < m → j < m → B i = B j → i = j
  off : ∀ i, i < m → B i ≠ gb
  caps : ∀ i, i < m → K + n ≤ C i ∧ K + n ≤ 17592186044416
  own : ∀ i, i < m → base ≤ B i
  ownG : base ≤ gb
  lt : ∀ i, i < m → B i < w.heap.size

section
variable {w w' : World} {base gb go m K n l : Nat} {B O C : Nat → Nat} {G : Nat → Nat → Int}

theorem Cut.start (h : GridAt .u64 w base gb go m (K + n) B O C G) : Cut w base gb go m K n 0 B O C G :=
  { h with cells := fun i hi => by rw [if_neg (Nat.not_lt_zero i)]; exact h.cells i hi }

theorem Cut.drew (h : Cut w base gb go m K n l B O C G) : Cut w.drew base gb go m K n l B O C G :=
  ⟨h.cells, h.rows, h.apart, h.off, h.caps, h.own, h.ownG, h.lt⟩

theorem Cut.next (h : Cut w base gb go m K n l B O C G) (hl : l < m) : Cut (w.setCell ⟨gb, go + l, none⟩ (.slice (some ⟨B l, O l + K, none⟩) n (C l - K))) base gb go m K n (l + 1) B O C G := by
  refine { h with cells := fun i hi => ?_, rows := fun i hi => (h.rows i hi).other (fun e => h.off i hi (by simpa using e.symm)) _, lt := fun i hi => by simpa using h.lt i hi }
  obtain ⟨c1, c2⟩ := h.cells i hi
  rw [World.frozen?_setCell]
  refine ⟨?_, c2⟩
  by_cases e : i = l
  · subst e
    rw [if_pos (by omega)]
    exact World.cell?_setCell_same _ _ _ c1
  · rw [World.cell?_setCell_other _ _ _ _ (by intro e'; injection e' with _ e3 _; omega), c1]
    by_cases e2 : i < l
    · rw [if_pos e2, if_pos (by omega)]
    · rw [if_neg e2, if_neg (by omega)]

theorem Cut.done (h : Cut w base gb go m K n m B O C G) : GridAt .u64 w base gb go m n B (fun i => O i + K) (fun i => C i - K) (fun i j => G i (K + j)) :=
  ⟨fun i hi => by have := h.cells i hi; rw [if_pos hi] at this; exact this,
   fun i hi j hj => by have := h.rows i hi (K + j) (by omega); rw [← Nat.add_assoc] at this; exact this,
   h.apart, h.off, fun i hi => by have := h.caps i hi; omega, h.own, h.ownG, h.lt⟩

theorem GridAt.drop {k : IntKind} (h : GridAt k w base gb go m n B O C G) (r : Nat) : GridAt k w base gb (go + r) (m - r) n (fun i => B (r + i)) (fun i => O (r + i)) (fun i => C (r + i)) (fun i => G (r + i)) :=
  ⟨fun i hi => by have := h.cells (r + i) (by omega); rw [← Nat.add_assoc] at this; exact this, fun i hi => h.rows _ (by omega),
   fun i j hi hj e => by have := h.apart (r + i) (r + j) (by omega) (by omega) e; omega, fun i hi => h.off _ (by omega), fun i hi => h.caps _ (by omega), fun i hi => h.own _ (by omega), h.ownG, fun i hi => h.lt _ (by omega)⟩

theorem GridAt.congrO {k : IntKind} (h : GridAt k w base gb go m n B O C G) {go' : Nat} (e : go = go') : GridAt k w base gb go' m n B O C G := e ▸ h
end

/-- the state of the elimination of a with the unit matrix beside it -/
def besS (p : Int) (R K : Nat) (x : Nat → Raw) : RS := RS.run p R (K + R) ⟨besG p K x, [], 1 % p⟩ K

theorem besG_res (p : Int) (hp : 2 ≤ p) (R K : Nat) (x : Nat → Raw) : Res p R (K + R) (besG p K x) := by
  intro i j _ _
  unfold besG
  split
  · exact resid_bd _ p (by omega)
  · split <;> omega

theorem besS_res (p : Int) (hp : 2 ≤ p) (R K : Nat) (x : Nat → Raw) : Res p R (K + R) (besS p R K x).G :=
  RS.run_res (s := ⟨besG p K x, [], 1 % p⟩) (by omega) (Nat.zero_le _) (besG_res p hp R K x) K

def invE (r c : Int) (n : Nat) (x : Nat → Raw) (p : Int) : Int :=
  if openE r c n p (r == c) = 0 then if (besS p r.toNat c.toNat x).P.length < r.toNat then 6 else 0 else openE r c n p (r == c)

set_option maxHeartbeats 2000000 in
set_option maxRecDepth 100000 in
theorem Inverse_any (r c : Int) (p : Int) (hp : 0 ≤ p) (s : Value) (n : Nat) (x : Nat → Raw) (w : World) (hr : RdL w s n x) :
    Calls Try.prog 20 #[.agg #[.int .i64 r, .int .i64 c, s], .int .u64 p] w fun e w' => ∃ v,
      e = .returned (.tuple #[v, .int .i64 (invE r c n x p)]) ∧ AnsM w' w.heap.size v (invE r c n x p) r.toNat r.toNat (fun i j => (besS p r.toNat c.toNat x).G i (c.toNat + j)) ∧ Below w.heap.size w w' := by
  obtain ⟨a, cap, rfl, hn⟩ := hr.slice
  have HR := Lib.hid hr
  have HO := Lib.hid (Opened.start w r c (.slice a n cap))
  clear hr
  by_cases he : openE r c n p (r == c) = 0
  · obtain ⟨R, C, rfl, rfl, hR, hC, hN, p0, p1, hrc, -⟩ := openE_ok he
    obtain rfl : R = C := by have : (R : Int) = C := by simpa using hrc
                             omega
    obtain ⟨S, hS⟩ : ∃ S, S = RS.run p R (R + R) ⟨besG p R x, [], 1 % p⟩ R := ⟨_, rfl⟩
    have hbs : besS p R R x = S := hS.symm
    have HI : Hid (invE R R n x p = if S.P.length < R then 6 else 0) := by show _ = _; unfold invE; rw [if_pos he, Int.toNat_natCast, hbs]
    have HRS : Hid (Res p R (R + R) S.G) := by have := besS_res p p0 R R x; rw [hbs] at this; exact this
    rw [Int.toNat_natCast, hbs]
    have hE : openE R R n p true = 0 := by rw [hrc] at he; exact he
    have HE := Lib.hid hE
    have HN := Lib.hid hN
    have HS := Lib.hid hS
    have HGB : Hid (∀ i j, i < R → j < R → 0 ≤ S.G i (R + j) ∧ S.G i (R + j) < 2147483648) := fun i j hi hj => by
      have := HRS.out i (R + j) hi (by omega); omega
    clear he hN hS hrc hbs hE
    by_cases hlt : S.P.length < R
    · rw [HI.out, if_pos hlt]
      go_enter Try.func20, Try.ntmps20
      go_wp2_with (first
        | (go_at_call 43; refine (open_any R R a n cap hn p hp true _).mono ?_; rw [HE.out]; rintro e w1 ⟨rfl, hb1⟩; have HO := Lib.hid (HO.out.step HO.out.size hb1); obtain ⟨x0, x1, x2, ⟨z0, y0⟩, ⟨z1, y1⟩, ⟨z2, y2⟩, hB1, hsz⟩ := HO.out; have hr1 := Lib.hid (HR.out.below hB1); clear hb1)
        | (go_at_call 47; refine (beside_any p (by omega) p1 R R n hR hC HN.out _ x _ hr1.out).mono ?_; rintro e w2 ⟨gb, B, C, rfl, hp2, hb2⟩; have HO2 := Lib.hid (HO.out.step hsz hb2); have y0 := HO2.out.x0; have y1 := HO2.out.x1; have y2 := HO2.out.x2)
        | (go_at_call 44; refine (reduce_any p p0 p1 R (R + R) R R _ gb 0 B _ _ (besG p R x) (by omega) (by omega) (by omega) (besG_res p p0 R R x) _ hp2.grid hb2.size).mono ?_; rw [← HS.out]; rintro e w3 ⟨B', O', C', pv, rfl, hg3, ho3, hb3⟩; obtain ⟨pa, pc, rfl⟩ := own_slice ho3; have HO3 := Lib.hid (HO2.out.step hsz hb3); obtain ⟨y0, y1, y2, ⟨z0, s0⟩, ⟨z1, s1⟩, ⟨z2, s2⟩, hB3, hsz3⟩ := HO3.out))
      refine bodyPost_ret (v := .tuple #[mat0, .int .i64 6]) ?_ rfl ⟨_, rfl, ⟨fun h => absurd h (by omega), fun _ => rfl⟩, HO3.out.none (.int .i64 0) (.int .i64 0) (.slice none 0 0)⟩
      simp [results, Try.results20, go_sem, z0, z1, z2, mat0]
    · rw [HI.out, if_neg hlt]
      go_enter Try.func20, Try.ntmps20
      go_wp2_with (first
        | (go_at_call 43; refine (open_any R R a n cap hn p hp true _).mono ?_; rw [HE.out]; rintro e w1 ⟨rfl, hb1⟩; have HO := Lib.hid (HO.out.step HO.out.size hb1); obtain ⟨x0, x1, x2, ⟨z0, y0⟩, ⟨z1, y1⟩, ⟨z2, y2⟩, hB1, hsz⟩ := HO.out; have hr1 := Lib.hid (HR.out.below hB1); clear hb1)
        | (go_at_call 47; refine (beside_any p (by omega) p1 R R n hR hC HN.out _ x _ hr1.out).mono ?_; rintro e w2 ⟨gb, B, C, rfl, hp2, hb2⟩; have HO2 := Lib.hid (HO.out.step hsz hb2); have y0 := HO2.out.x0; have y1 := HO2.out.x1; have y2 := HO2.out.x2)
        | (go_at_call 44; refine (reduce_any p p0 p1 R (R + R) R R _ gb 0 B _ _ (besG p R x) (by omega) (by omega) (by omega) (besG_res p p0 R R x) _ hp2.grid hb2.size).mono ?_; rw [← HS.out]; rintro e w3 ⟨B', O', C', pv, rfl, hg3, ho3, hb3⟩; obtain ⟨pa, pc, rfl⟩ := own_slice ho3; have HO3 := Lib.hid (HO2.out.step hsz hb3); obtain ⟨y0, y1, y2, ⟨z0, s0⟩, ⟨z1, s1⟩, ⟨z2, s2⟩, hB3, hsz3⟩ := HO3.out))
      have hc0 := Cut.start hg3
      have HC0 := Lib.hid hc0
      have hs3 := hb2.size
      clear hc0 hg3 ho3 hb3 hb2 hp2 HO2
      go_loopw [42] (fun iv wr => ∃ l : Nat, l ≤ R ∧ iv = .int .i64 l ∧ Cut wr w1.heap.size gb 0 R R R l B' O' C' S.G ∧ Opened w wr R R (.slice a n cap)) (fun iv _ => R - (intOf iv).toNat)
      case atStart => exact ⟨0, by omega, rfl, HC0.out, HO3.out⟩
      case round =>
        clear z0 s0 z1 s1 z2 s2 y0 y1 y2 hB3 hsz3
        obtain ⟨l, l1, rfl, hcut, hop⟩ := hrel
        have HOP : Hid (Opened w wr R R (.slice a n cap)) := hop
        obtain ⟨y0, y1, y2, ⟨z0, s0⟩, ⟨z1, s1⟩, ⟨z2, s2⟩, hB3, hsz3⟩ := hop
        have HC := Lib.hid hcut
        clear hcut
        by_cases hl : l < R
        · obtain ⟨c1, c2⟩ := HC.out.cells l hl
          rw [if_neg (Nat.lt_irrefl l), Nat.zero_add] at c1
          rw [Nat.zero_add] at c2
          have hcap := HC.out.caps l hl
          go_wp2_with fail
          have hlen : R + R - R = R := Nat.add_sub_cancel R R
          go_region
          all_goals
            have hn := HC.out.drew.next hl
            rw [Nat.zero_add] at hn
            have HN2 := Lib.hid hn
            have hog := HC.out.ownG
            have hO3 := Lib.hid (HOP.out.drew.step (B := w1.heap.size) hsz ((Below.refl _ _).setCell (p := ⟨gb, l, none⟩) hog (.slice (some ⟨B' l, O' l + R, none⟩) R (C' l - R))))
            clear hn
            go_wp2_with fail
            go_roundw
            case rel => exact ⟨l + 1, by omega, by go_num, by first | exact HN2.out | (rw [hlen]; exact HN2.out), by first | exact hO3.out | (rw [hlen]; exact hO3.out)⟩
            case measure => simp [intOf]; omega
        · obtain rfl : l = R := by omega
          have hg := HC.out.done
          have HG := Lib.hid hg
          clear hg HC
          have hsw := HOP.out.size
          go_wp2_with (go_at_call 48; refine (whole_any l l l _ gb 0 B' _ _ _ hR hC HGB.out _ HG.out).mono ?_; rintro e w4 ⟨lb, M, rfl, hl4, hb4⟩; have HO4 := Lib.hid (HOP.out.step hsw hb4); obtain ⟨y0, y1, y2, ⟨z0, s0⟩, ⟨z1, s1⟩, ⟨z2, s2⟩, hB4, hsz4⟩ := HO4.out)
          obtain ⟨o1, o2⟩ := HO4.out.out (.int .i64 l) (.int .i64 l) (.slice (some ⟨lb, 0, none⟩) (l * l) (l * l)) hsw hl4
          refine bodyPost_ret (v := .tuple #[.agg #[.int .i64 l, .int .i64 l, .slice (some ⟨lb, 0, none⟩) (l * l) (l * l)], .int .i64 0]) ?_ rfl ⟨_, rfl, ⟨fun _ => ⟨lb, M, rfl, o1⟩, fun h => absurd rfl h⟩, o2⟩
          simp [results, Try.results20, go_sem, z0, z1, z2]
  · have hI : invE r c n x p = openE r c n p (r == c) := if_neg he
    have hne : (openE r c n p (r == c) != 0) = true := by rw [bne_iff_ne]; exact he
    rw [hI]
    obtain ⟨E, hE⟩ : ∃ E, E = openE r c n p (r == c) := ⟨_, rfl⟩
    rw [← hE] at hne ⊢
    have HE := Lib.hid hE.symm
    have HNE : Hid (E ≠ 0) := by rw [hE]; exact he
    clear he hE hI
    go_enter Try.func20, Try.ntmps20
    go_wp2_with (go_at_call 43; refine (open_any r c a n cap hn p hp (r == c) _).mono ?_; rw [HE.out]; rintro e w1 ⟨rfl, hb1⟩; have HO1 := Lib.hid (HO.out.step HO.out.size hb1); obtain ⟨y0, y1, y2, ⟨z0, s0⟩, ⟨z1, s1⟩, ⟨z2, s2⟩, hB3, hsz3⟩ := HO1.out)
    refine bodyPost_ret (v := .tuple #[mat0, .int .i64 E]) ?_ rfl ⟨_, rfl, ⟨fun h => absurd h HNE.out, fun _ => rfl⟩, HO1.out.none (.int .i64 0) (.int .i64 0) (.slice none 0 0)⟩
    simp [results, Try.results20, go_sem, z0, z1, z2, mat0]

end Go.Proofs.Ytdlpemmoobbgnaa

namespace Go.Proofs.Ytdlpemmoobbgnaa
open Go.RowKit

def kerR (p : Int) (R K : Nat) (x : Nat → Raw) : Nat := (besS p R K x).P.length
/-- what stays below the pivots' rows, cut -/
def kerG (p : Int) (R K : Nat) (x : Nat → Raw) : Nat → Nat → Int := fun i j => (besS p R K x).G (kerR p R K x + i) (K + j)
def kerS (p : Int) (R K : Nat) (x : Nat → Raw) : RS := RS.run p (R - kerR p R K x) R ⟨kerG p R K x, [], 1 % p⟩ R

theorem kerR_le (p : Int) (R K : Nat) (x : Nat → Raw) : kerR p R K x ≤ R := RS.run_len (s := ⟨besG p K x, [], 1 % p⟩) (Nat.zero_le _) K

theorem kerG_res (p : Int) (hp : 2 ≤ p) (R K : Nat) (x : Nat → Raw) : Res p (R - kerR p R K x) R (kerG p R K x) := fun i j hi hj => by
  have := kerR_le p R K x
  exact besS_res p hp R K x _ _ (by omega) (by omega)

theorem kerS_res (p : Int) (hp : 2 ≤ p) (R K : Nat) (x : Nat → Raw) : Res p (R - kerR p R K x) R (kerS p R K x).G :=
  RS.run_res (s := ⟨kerG p R K x, [], 1 % p⟩) (by omega) (Nat.zero_le _) (kerG_res p hp R K x) R

theorem GridAt.empty {k : IntKind} {w : World} {base gb go m n n' : Nat} {B O C : Nat → Nat} {G : Nat → Nat → Int} (h : GridAt k w base gb go m n B O C G) (go' : Nat) (G' : Nat → Nat → Int) : GridAt k w base gb go' 0 n' B O C G' :=
  ⟨fun _ hi => absurd hi (by omega), fun _ hi => absurd hi (by omega), fun _ _ hi => absurd hi (by omega), fun _ hi => absurd hi (by omega), fun _ hi => absurd hi (by omega), fun _ hi => absurd hi (by omega), h.ownG, fun _ hi => absurd hi (by omega)⟩

theorem own_mono {w : World} {base base' : Nat} {e : TypeId} {size : Nat} {v : Value} {n : Nat} {xs : List Value} (h : w.ownsRow base e size v n xs) (hb : base' ≤ base) : w.ownsRow base' e size v n xs := by
  obtain ⟨h1, h2⟩ := h
  refine ⟨h1, ?_⟩
  rcases h2 with h2 | ⟨g, cap, cur, k1, k2, k3⟩
  · exact Or.inl h2
  · exact Or.inr ⟨g, cap, cur, k1, Nat.le_trans hb k2, k3⟩

set_option maxHeartbeats 2000000 in
set_option maxRecDepth 100000 in
theorem kernel_any (p : Int) (p0 : 2 ≤ p) (p1 : p < 2147483648) (R K n : Nat) (hR : R ≤ 64) (hK : K ≤ 64) (hN : n = R * K) (s : Value) (x : Nat → Raw) (w : World) (hr : RdL w s n x) :
    Calls Try.prog 53 #[.int .u64 p, .agg #[.int .i64 R, .int .i64 K, s]] w fun e w' =>
      ∃ gb go B O C pv, e = .returned (.tuple #[.slice (some ⟨gb, go, none⟩) (R - kerR p R K x) (R - kerR p R K x), pv]) ∧ GridAt .u64 w' w.heap.size gb go (R - kerR p R K x) R B O C (kerS p R K x).G ∧
        w'.ownsRow w.heap.size 3 1 pv (kerS p R K x).P.length (ints (kerS p R K x).P) ∧ Below w.heap.size w w' := by
  obtain ⟨a, cap, rfl, hn⟩ := hr.slice
  have hb0 : Below w.heap.size w (w.alloc (.cells #[.int .i64 R, .int .i64 K, .slice a n cap] 34)) := (Below.refl _ _).alloc (Nat.le_refl _) _
  have z := three_cells w (.int .i64 R) (.int .i64 K) (.slice a n cap) 34
  have hs0 : (w.alloc (.cells #[.int .i64 R, .int .i64 K, .slice a n cap] 34)).heap.size = w.heap.size + 1 := by simp
  have HB0 := Lib.hid hb0
  have HR1 := Lib.hid (hr.below hb0)
  have Z := Lib.hid z
  have HN := Lib.hid hN
  have HS0 := Lib.hid hs0
  obtain ⟨S, hS⟩ : ∃ S, S = RS.run p R (K + R) ⟨besG p K x, [], 1 % p⟩ K := ⟨_, rfl⟩
  have hbs : besS p R K x = S := hS.symm
  have hle := kerR_le p R K x
  have hkr : kerR p R K x = S.P.length := by unfold kerR; rw [hbs]
  have hkg := kerG_res p p0 R K x
  obtain ⟨T, hT⟩ : ∃ T, T = kerS p R K x := ⟨_, rfl⟩
  have hT' : RS.run p (R - S.P.length) R ⟨fun i j => S.G (S.P.length + i) (K + j), [], 1 % p⟩ R = T := by rw [hT]; unfold kerS kerG; rw [hkr, hbs]
  have hkg' : Res p (R - S.P.length) R (fun i j => S.G (S.P.length + i) (K + j)) := by have := hkg; unfold kerG at this; rw [hkr, hbs] at this; exact this
  rw [← hT, hkr]
  rw [hkr] at hle
  have HS := Lib.hid hS
  have HT := Lib.hid hT'
  have HKG := Lib.hid hkg'
  clear hr hb0 z hs0 hN hS hbs hkr hkg hT hT' hkg'
  by_cases hlr : S.P.length = R
  · subst hlr
    go_enter Try.func53, Try.ntmps53
    go_wp2_with (first
      | (go_at_call 47; refine (beside_any p (by omega) p1 S.P.length K n hR hK HN.out _ x _ HR1.out).mono ?_; rintro e w2 ⟨gb, B, C, rfl, hp2, hb2⟩; have y0 := cell_stays hb2 (Z.out 0 _ rfl).1; have y1 := cell_stays hb2 (Z.out 1 _ rfl).1)
      | (go_at_call 44; refine (reduce_any p p0 p1 S.P.length (K + S.P.length) K S.P.length _ gb 0 B _ _ (besG p K x) (by omega) (by omega) (by omega) (besG_res p p0 S.P.length K x) _ hp2.grid hb2.size).mono ?_; rw [← HS.out]; rintro e w3 ⟨B', O', C', pv, rfl, hg3, ho3, hb3⟩; obtain ⟨pa, pc, rfl⟩ := own_slice ho3))
    have hg0 := hg3.empty (n' := S.P.length) 0 (fun i j => S.G (S.P.length + i) (K + j))
    have hbw : Below w.heap.size w w3 := HB0.out.trans ((hb2.mono (by rw [HS0.out]; omega)).trans (hb3.mono (by rw [HS0.out]; omega)))
    rw [HS0.out] at hg0 hb3 hb2
    have hs2 := hb2.size
    rw [HS0.out] at hs2
    have y0 := (World.cell?_of_block (w := w2) (a := ⟨w.heap.size, 0, none⟩) (hb3.block w.heap.size (by omega))).trans y0
    have y1 := (World.cell?_of_block (w := w2) (a := ⟨w.heap.size, 1, none⟩) (hb3.block w.heap.size (by omega))).trans y1
    have hs3 : w.heap.size + 1 ≤ w3.heap.size := Nat.le_trans hs2 hb3.size
    have HG := Lib.hid hg0
    have HBL := Lib.hid hbw
    have HT0 : Hid (RS.run p 0 S.P.length ⟨fun i j => S.G (S.P.length + i) (K + j), [], 1 % p⟩ S.P.length = T) := by have := HT.out; rw [Nat.sub_self] at this; exact this
    have HKG0 : Hid (Res p 0 S.P.length (fun i j => S.G (S.P.length + i) (K + j))) := by have := HKG.out; rw [Nat.sub_self] at this; exact this
    clear hg0 hbw hg3 ho3 hb3 hb2 hp2 hs2
    go_loopw [29] (fun iv wr => iv = .int .i64 0 ∧ wr = w3) (fun _ _ => 0)
    case atStart => exact ⟨rfl, rfl⟩
    case round =>
      obtain ⟨rfl, rfl⟩ := hrel
      go_wp2_with (go_at_call 44; refine (reduce_any p p0 p1 0 S.P.length S.P.length 0 _ gb 0 _ _ _ _ (by omega) (by omega) (Nat.le_refl _) HKG0.out _ HG.out hs3).mono ?_; rw [HT0.out]; rintro e w5 ⟨B5, O5, C5, pv5, rfl, hg5, ho5, hb5⟩; have HG5 := Lib.hid hg5; have HO5 := Lib.hid ho5; have HB5 := Lib.hid hb5; clear hg5 ho5 hb5)
      go_ret2
      rw [Nat.sub_self]
      exact ⟨gb, 0, B5, O5, C5, pv5, rfl, ⟨HG5.out.cells, HG5.out.rows, HG5.out.apart, HG5.out.off, HG5.out.caps, fun i hi => by have := HG5.out.own i hi; omega, by have := HG5.out.ownG; omega, HG5.out.lt⟩, own_mono HO5.out (by omega), HBL.out.trans (HB5.out.mono (by omega))⟩
  · have hlt : S.P.length < R := by omega
    clear hlr hle
    go_enter Try.func53, Try.ntmps53
    go_wp2_with (first
      | (go_at_call 47; refine (beside_any p (by omega) p1 R K n hR hK HN.out _ x _ HR1.out).mono ?_; rintro e w2 ⟨gb, B, C, rfl, hp2, hb2⟩; have y0 := cell_stays hb2 (Z.out 0 _ rfl).1; have y1 := cell_stays hb2 (Z.out 1 _ rfl).1)
      | (go_at_call 44; refine (reduce_any p p0 p1 R (K + R) K R _ gb 0 B _ _ (besG p K x) (by omega) (by omega) (by omega) (besG_res p p0 R K x) _ hp2.grid hb2.size).mono ?_; rw [← HS.out]; rintro e w3 ⟨B', O', C', pv, rfl, hg3, ho3, hb3⟩; obtain ⟨pa, pc, rfl⟩ := own_slice ho3))
    have hc0 := Cut.start ((hg3.drop S.P.length).congrO (Nat.zero_add _))
    generalize hq : R - S.P.length = q at *
    have hbw : Below w.heap.size w w3 := HB0.out.trans ((hb2.mono (by rw [HS0.out]; omega)).trans (hb3.mono (by rw [HS0.out]; omega)))
    rw [HS0.out] at hc0 hb3 hb2
    have hs2 := hb2.size
    rw [HS0.out] at hs2
    have y0 := (World.cell?_of_block (w := w2) (a := ⟨w.heap.size, 0, none⟩) (hb3.block w.heap.size (by omega))).trans y0
    have y1 := (World.cell?_of_block (w := w2) (a := ⟨w.heap.size, 1, none⟩) (hb3.block w.heap.size (by omega))).trans y1
    have hs3 : w.heap.size + 1 ≤ w3.heap.size := Nat.le_trans hs2 hb3.size
    have HC0 := Lib.hid hc0
    have HBW := Lib.hid hbw
    clear hc0 hbw hg3 ho3 hb3 hb2 hp2 hs2
    go_loopw [29] (fun iv wr => ∃ l : Nat, l ≤ q ∧ iv = .int .i64 l ∧ Cut wr (w.heap.size + 1) gb S.P.length q K R l (fun i => B' (S.P.length + i)) (fun i => O' (S.P.length + i)) (fun i => C' (S.P.length + i)) (fun i => S.G (S.P.length + i)) ∧
        Below w.heap.size w wr ∧ wr.cell? ⟨w.heap.size, 0, none⟩ = some (.int .i64 R) ∧ wr.cell? ⟨w.heap.size, 1, none⟩ = some (.int .i64 K) ∧ w.heap.size + 1 ≤ wr.heap.size) (fun iv _ => q - (intOf iv).toNat)
    case atStart => exact ⟨0, by omega, rfl, HC0.out, HBW.out, y0, y1, hs3⟩
    case round =>
      clear HC0 HBW y0 y1
      obtain ⟨l, l1, rfl, hcut, hbel, y0, y1, hs4⟩ := hrel
      have HC := Lib.hid hcut
      have HBL := Lib.hid hbel
      clear hcut hbel
      by_cases hl : l < q
      · obtain ⟨c1, c2⟩ := HC.out.cells l hl
        rw [if_neg (Nat.lt_irrefl l)] at c1
        have hcap := HC.out.caps l hl
        have hlen : K + R - K = R := Nat.add_sub_cancel_left K R
        go_wp2_with fail
        go_region
        all_goals
          have hn := HC.out.drew.next hl
          have hog := HC.out.ownG
          have hb4 : Below w.heap.size w (wr.drew.setCell ⟨gb, S.P.length + l, none⟩ (.slice (some ⟨B' (S.P.length + l), O' (S.P.length + l) + K, none⟩) R (C' (S.P.length + l) - K))) := HBL.out.drew.setCell (by show w.heap.size ≤ gb; omega) _
          have hg4 := gb_set wr.drew ⟨gb, S.P.length + l, none⟩ (.slice (some ⟨B' (S.P.length + l), O' (S.P.length + l) + K, none⟩) R (C' (S.P.length + l) - K))
          have z0 := hg4.cell (a := ⟨w.heap.size, 0, none⟩) y0 (by simp; omega)
          have z1 := hg4.cell (a := ⟨w.heap.size, 1, none⟩) y1 (by simp; omega)
          have z2 : w.heap.size + 1 ≤ (wr.drew.setCell ⟨gb, S.P.length + l, none⟩ (.slice (some ⟨B' (S.P.length + l), O' (S.P.length + l) + K, none⟩) R (C' (S.P.length + l) - K))).heap.size := Nat.le_trans hs4 hg4.size
          have HN2 := Lib.hid (And.intro hn (And.intro hb4 (And.intro z0 (And.intro z1 z2))))
          clear hn hb4 z0 z1 z2 hg4
          go_wp2_with fail
          go_roundw
          case rel =>
            first
              | exact ⟨l + 1, by omega, by go_num, HN2.out⟩
              | (rw [hlen]; exact ⟨l + 1, by omega, by go_num, HN2.out⟩)
          case measure => simp [intOf]; omega
      · obtain rfl : l = q := by omega
        have hg := HC.out.done
        have HG := Lib.hid hg
        clear hg HC
        go_wp2_with (go_at_call 44; refine (reduce_any p p0 p1 l R R l _ gb S.P.length _ _ _ _ (by omega) (by omega) (Nat.le_refl _) HKG.out _ HG.out hs4).mono ?_; rw [HT.out]; rintro e w5 ⟨B5, O5, C5, pv5, rfl, hg5, ho5, hb5⟩; have HG5 := Lib.hid hg5; have HO5 := Lib.hid ho5; have HB5 := Lib.hid hb5; clear hg5 ho5 hb5)
        go_ret2
        subst hq
        exact ⟨gb, S.P.length, B5, O5, C5, pv5, rfl, ⟨HG5.out.cells, HG5.out.rows, HG5.out.apart, HG5.out.off, HG5.out.caps, fun i hi => by have := HG5.out.own i hi; omega, by have := HG5.out.ownG; omega, HG5.out.lt⟩, own_mono HO5.out (by omega), HBL.out.trans (HB5.out.mono (by omega))⟩

set_option maxHeartbeats 2000000 in
set_option maxRecDepth 100000 in
theorem Kernel_any (r c : Int) (p : Int) (hp : 0 ≤ p) (s : Value) (n : Nat) (x : Nat → Raw) (w : World) (hr : RdL w s n x) :
    Calls Try.prog 26 #[.agg #[.int .i64 r, .int .i64 c, s], .int .u64 p] w fun e w' => ∃ v,
      e = .returned (.tuple #[v, .int .i64 (openE r c n p true)]) ∧ AnsM w' w.heap.size v (openE r c n p true) (r.toNat - kerR p r.toNat c.toNat x) r.toNat (kerS p r.toNat c.toNat x).G ∧ Below w.heap.size w w' := by
  obtain ⟨a, cap, rfl, hn⟩ := hr.slice
  have HR := Lib.hid hr
  have HO := Lib.hid (Opened.start w r c (.slice a n cap))
  clear hr
  by_cases he : openE r c n p true = 0
  · obtain ⟨R, C, rfl, rfl, hR, hC, hN, p0, p1, -, -⟩ := openE_ok he
    rw [he, Int.toNat_natCast, Int.toNat_natCast]
    have hle := kerR_le p R C x
    have HGB : Hid (∀ i j, i < R - kerR p R C x → j < R → 0 ≤ (kerS p R C x).G i j ∧ (kerS p R C x).G i j < 2147483648) := fun i j hi hj => by
      have := kerS_res p p0 R C x i j hi hj; omega
    have hk := fun w hr => kernel_any p p0 p1 R C n hR hC hN (.slice a n cap) x w hr
    generalize hq : R - kerR p R C x = q at *
    generalize (kerS p R C x).G = T at *
    have hq64 : q ≤ 64 := by omega
    have HK := Lib.hid hk
    have HE := Lib.hid he
    clear he hN hk hq hle
    go_enter Try.func26, Try.ntmps26
    go_wp2_with (first
      | (go_at_call 43; refine (open_any R C a n cap hn p hp true _).mono ?_; rw [HE.out]; rintro e w1 ⟨rfl, hb1⟩; have HO := Lib.hid (HO.out.step HO.out.size hb1); obtain ⟨x0, x1, x2, ⟨z0, y0⟩, ⟨z1, y1⟩, ⟨z2, y2⟩, hB1, hsz⟩ := HO.out; have hr1 := Lib.hid (HR.out.below hB1); clear hb1)
      | (go_at_call 53; refine (HK.out _ hr1.out).mono ?_; rintro e w2 ⟨gb, go, B, O, C', pv, rfl, hg2, ho2, hb2⟩; have HO2 := Lib.hid (HO.out.step hsz hb2); have y0 := HO2.out.x0; have y1 := HO2.out.x1; have y2 := HO2.out.x2; have hs3 := HO2.out.size)
      | (go_at_call 48; refine (whole_any q R _ _ gb go B _ _ _ hq64 hR HGB.out _ hg2).mono ?_; rintro e w4 ⟨lb, M, rfl, hl4, hb4⟩; have HO4 := Lib.hid (HO2.out.step hs3 hb4); obtain ⟨y0, y1, y2, ⟨z0, s0⟩, ⟨z1, s1⟩, ⟨z2, s2⟩, hB4, hsz4⟩ := HO4.out))
    obtain ⟨o1, o2⟩ := HO4.out.out (.int .i64 q) (.int .i64 R) (.slice (some ⟨lb, 0, none⟩) (q * R) (q * R)) hs3 hl4
    refine bodyPost_ret (v := .tuple #[.agg #[.int .i64 q, .int .i64 R, .slice (some ⟨lb, 0, none⟩) (q * R) (q * R)], .int .i64 0]) ?_ rfl ⟨_, rfl, ⟨fun _ => ⟨lb, M, rfl, o1⟩, fun h => absurd rfl h⟩, o2⟩
    simp [results, Try.results26, go_sem, z0, z1, z2]
  · have hne : (openE r c n p true != 0) = true := by rw [bne_iff_ne]; exact he
    obtain ⟨E, hE⟩ : ∃ E, E = openE r c n p true := ⟨_, rfl⟩
    rw [← hE] at hne ⊢
    have HE := Lib.hid hE.symm
    have HNE : Hid (E ≠ 0) := by rw [hE]; exact he
    clear he hE
    go_enter Try.func26, Try.ntmps26
    go_wp2_with (go_at_call 43; refine (open_any r c a n cap hn p hp true _).mono ?_; rw [HE.out]; rintro e w1 ⟨rfl, hb1⟩; have HO1 := Lib.hid (HO.out.step HO.out.size hb1); obtain ⟨y0, y1, y2, ⟨z0, s0⟩, ⟨z1, s1⟩, ⟨z2, s2⟩, hB3, hsz3⟩ := HO1.out)
    refine bodyPost_ret (v := .tuple #[mat0, .int .i64 E]) ?_ rfl ⟨_, rfl, ⟨fun h => absurd h HNE.out, fun _ => rfl⟩, HO1.out.none (.int .i64 0) (.int .i64 0) (.slice none 0 0)⟩
    simp [results, Try.results26, go_sem, z0, z1, z2, mat0]

end Go.Proofs.Ytdlpemmoobbgnaa

namespace Go.Proofs.Ytdlpemmoobbgnaa
open Go.RowKit

theorem cellsOf (w : World) (l : List Value) (t : TypeId) : ∀ i y, l[i]? = some y → (w.alloc (.cells l.toArray t)).cell? ⟨w.heap.size, i, none⟩ = some y ∧ (w.alloc (.cells l.toArray t)).frozen? ⟨w.heap.size, i, none⟩ = false := by
  intro i y hy
  have h := heap_alloc_new w (.cells l.toArray t)
  refine ⟨by rw [cell_of_row _ _ _ _ _ _ h]; simpa using hy, ?_⟩
  unfold World.frozen?; simp only; rw [h]; simp

set_option maxHeartbeats 4000000 in
set_option maxRecDepth 100000 in
theorem same_yes (x y l l' : Value) (r c : Int) (n m : Nat) (X Y L L' : Nat → Raw) (W N E : Int) (ok : Bool) (w : World) (hx : RdL w x n X) (hy : RdL w y n Y) (h : ∀ i, i < n → RawEq (X i) (Y i)) (hl : RdL w l m L) (hl' : RdL w l' m L') (g : ∀ i, i < m → RawEq (L i) (L' i)) :
    Calls Try.prog 61 #[.agg #[.int .i64 r, .int .i64 c, x, l, .int .u64 W, .int .i64 N, .bool ok, .int .i64 E], .agg #[.int .i64 r, .int .i64 c, y, l', .int .u64 W, .int .i64 N, .bool ok, .int .i64 E]] w
      fun e w' => e = .returned (.bool true) ∧ Below w.heap.size w w' := by
  obtain ⟨a, cap, rfl, -⟩ := hx.slice
  obtain ⟨b, cap', rfl, -⟩ := hy.slice
  obtain ⟨a2, cap2, rfl, -⟩ := hl.slice
  obtain ⟨b2, cap2', rfl, -⟩ := hl'.slice
  obtain ⟨w1, hw1⟩ : ∃ w1, w1 = w.alloc (.cells #[.int .i64 r, .int .i64 c, .slice a n cap, .slice a2 m cap2, .int .u64 W, .int .i64 N, .bool ok, .int .i64 E] 92) := ⟨_, rfl⟩
  have z1 := cellsOf w [.int .i64 r, .int .i64 c, .slice a n cap, .slice a2 m cap2, .int .u64 W, .int .i64 N, .bool ok, .int .i64 E] 92
  have hb1 : Below w.heap.size w w1 := by rw [hw1]; exact (Below.refl _ _).alloc (Nat.le_refl _) _
  have hs1 : w1.heap.size = w.heap.size + 1 := by rw [hw1]; simp
  rw [← hw1] at z1
  obtain ⟨w2, hw2⟩ : ∃ w2, w2 = w1.alloc (.cells #[.int .i64 r, .int .i64 c, .slice b n cap', .slice b2 m cap2', .int .u64 W, .int .i64 N, .bool ok, .int .i64 E] 92) := ⟨_, rfl⟩
  have z2 := cellsOf w1 [.int .i64 r, .int .i64 c, .slice b n cap', .slice b2 m cap2', .int .u64 W, .int .i64 N, .bool ok, .int .i64 E] 92
  have hb2 : Below w1.heap.size w1 w2 := by rw [hw2]; exact (Below.refl _ _).alloc (Nat.le_refl _) _
  rw [← hw2, hs1] at z2
  have hb := hb1.trans (hb2.mono hb1.size)
  have x0 := cell_stays hb2 (z1 0 _ rfl).1
  have x1 := cell_stays hb2 (z1 1 _ rfl).1
  have x2 := cell_stays hb2 (z1 2 _ rfl).1
  have x3 := cell_stays hb2 (z1 3 _ rfl).1
  have x4 := cell_stays hb2 (z1 4 _ rfl).1
  have x5 := cell_stays hb2 (z1 5 _ rfl).1
  have x6 := cell_stays hb2 (z1 6 _ rfl).1
  have x7 := cell_stays hb2 (z1 7 _ rfl).1
  have y0 := (z2 0 _ rfl).1
  have y1 := (z2 1 _ rfl).1
  have y2 := (z2 2 _ rfl).1
  have y3 := (z2 3 _ rfl).1
  have y4 := (z2 4 _ rfl).1
  have y5 := (z2 5 _ rfl).1
  have y6 := (z2 6 _ rfl).1
  have y7 := (z2 7 _ rfl).1
  have HM := Lib.hid (alikeMats_yes _ _ r c n X Y _ (hx.below hb) (hy.below hb) h)
  have HL := Lib.hid (hl.below hb)
  have HL' := Lib.hid (hl'.below hb)
  have HG := Lib.hid g
  have HB := Lib.hid hb
  rw [hw2, hw1] at HM x0 x1 x2 x3 x4 x5 x6 x7 y0 y1 y2 y3 y4 y5 y6 y7 HL HL' HB
  clear hx hy h hl hl' g z1 z2 hb hb1 hb2 hw1 hw2 hs1
  go_enter Try.func61, Try.ntmps61
  go_wp2_with fail
  refine HM.out.mono ?_
  rintro e w4 ⟨rfl, hb4⟩
  have x3 := cell_stays hb4 x3
  have x4 := cell_stays hb4 x4
  have x5 := cell_stays hb4 x5
  have x6 := cell_stays hb4 x6
  have x7 := cell_stays hb4 x7
  have y3 := cell_stays hb4 y3
  have y4 := cell_stays hb4 y4
  have y5 := cell_stays hb4 y5
  have y6 := cell_stays hb4 y6
  have y7 := cell_stays hb4 y7
  have HR := Lib.hid (alikeRows_yes _ _ m L L' _ (HL.out.below hb4) (HL'.out.below hb4) HG.out)
  have HB4 := Lib.hid (HB.out.trans (hb4.mono HB.out.size))
  clear hb4 HM HL HL' HB
  go_wp2_with fail
  refine HR.out.mono ?_
  rintro e w5 ⟨rfl, hb5⟩
  have x4 := cell_stays hb5 x4
  have x5 := cell_stays hb5 x5
  have x6 := cell_stays hb5 x6
  have x7 := cell_stays hb5 x7
  have y4 := cell_stays hb5 y4
  have y5 := cell_stays hb5 y5
  have y6 := cell_stays hb5 y6
  have y7 := cell_stays hb5 y7
  have HB5 := Lib.hid (HB4.out.trans (hb5.mono HB4.out.size))
  clear hb5 HR
  go_wp2_with fail
  go_ret
  exact ⟨by simp, HB5.out⟩

end Go.Proofs.Ytdlpemmoobbgnaa
