import Derived.Test.YtejliecmdkmgiaaGA
set_option linter.unusedVariables false
set_option linter.unusedSimpArgs false
namespace Go.Proofs.Ytejliecmdkmgiaa.laQ
def sm : Nat → (Nat → Rat) → Rat
  | 0, _ => 0
  | n + 1, f => sm n f + f n
theorem sm_congr {n : Nat} {f g : Nat → Rat} (h : ∀ i, i < n → f i = g i) : sm n f = sm n g := by
  induction n with
  | zero => rfl
  | succ n ih => simp only [sm]; rw [ih (fun i hi => h i (by omega)), h n (by omega)]
theorem sm_zero {n : Nat} {f : Nat → Rat} (h : ∀ i, i < n → f i = 0) : sm n f = 0 := by
  induction n with
  | zero => rfl
  | succ n ih => simp only [sm]; rw [ih (fun i hi => h i (by omega)), h n (by omega)]; grind
theorem sm_add (n : Nat) (f g : Nat → Rat) : sm n (fun i => f i + g i) = sm n f + sm n g := by
  induction n with
  | zero => simp only [sm]; grind
  | succ n ih => simp only [sm]; rw [ih]; grind
theorem sm_mul (n : Nat) (a : Rat) (f : Nat → Rat) : sm n (fun i => a * f i) = a * sm n f := by
  induction n with
  | zero => simp only [sm]; grind
  | succ n ih => simp only [sm]; rw [ih]; grind
theorem sm_mul_r (n : Nat) (a : Rat) (f : Nat → Rat) : sm n (fun i => f i * a) = sm n f * a := by
  induction n with
  | zero => simp only [sm]; grind
  | succ n ih => simp only [sm]; rw [ih]; grind
theorem sm_one {n k : Nat} (f : Nat → Rat) (hk : k < n) (h : ∀ i, i < n → i ≠ k → f i = 0) : sm n f = f k := by
  induction n with
  | zero => omega
  | succ n ih =>
    simp only [sm]
    by_cases e : k = n
    · subst e
      rw [sm_zero (fun i hi => h i (by omega) (by omega))]; grind
    · rw [ih (by omega) (fun i hi => h i (by omega)), h n (by omega) (fun e' => e e'.symm)]; grind
theorem sm_comm (m n : Nat) (f : Nat → Nat → Rat) : sm m (fun i => sm n (fun j => f i j)) = sm n (fun j => sm m (fun i => f i j)) := by
  induction m with
  | zero => simp only [sm]; exact (sm_zero (fun _ _ => rfl)).symm
  | succ m ih => simp only [sm]; rw [ih, ← sm_add]
theorem sm_split (m n : Nat) (f : Nat → Rat) : sm (m + n) f = sm m f + sm n (fun i => f (m + i)) := by
  induction n with
  | zero => simp only [sm, Nat.add_zero]; grind
  | succ n ih => rw [← Nat.add_assoc]; simp only [sm]; rw [ih]; grind
def Comb (m n : Nat) (N : Nat → Nat → Rat) (v : Nat → Rat) : Prop := ∃ a : Nat → Rat, ∀ j, j < n → v j = sm m (fun i => a i * N i j)
theorem Comb.row {m n : Nat} {N : Nat → Nat → Rat} {i : Nat} (hi : i < m) : Comb m n N (N i) := by
  refine ⟨fun k => if k = i then 1 else 0, fun j _ => ?_⟩
  rw [sm_one (fun k => (if k = i then (1 : Rat) else 0) * N k j) hi (fun k _ hne => by simp only [if_neg hne]; grind)]
  simp only [if_true]; grind
theorem Comb.zero {m n : Nat} {N : Nat → Nat → Rat} {v : Nat → Rat} (h : ∀ j, j < n → v j = 0) : Comb m n N v :=
  ⟨fun _ => 0, fun j hj => by rw [h j hj, sm_zero (fun _ _ => by grind)]⟩
theorem Comb.add {m n : Nat} {N : Nat → Nat → Rat} {u v : Nat → Rat} (hu : Comb m n N u) (hv : Comb m n N v) : Comb m n N (fun j => u j + v j) := by
  obtain ⟨a, ha⟩ := hu
  obtain ⟨b, hb⟩ := hv
  refine ⟨fun i => a i + b i, fun j hj => ?_⟩
  show u j + v j = _
  rw [ha j hj, hb j hj, ← sm_add]
  exact sm_congr fun i _ => by grind
theorem Comb.scale {m n : Nat} {N : Nat → Nat → Rat} {u : Nat → Rat} (c : Rat) (hu : Comb m n N u) : Comb m n N (fun j => c * u j) := by
  obtain ⟨a, ha⟩ := hu
  refine ⟨fun i => c * a i, fun j hj => ?_⟩
  show c * u j = _
  rw [ha j hj, ← sm_mul]
  exact sm_congr fun i _ => by grind
theorem Comb.congr {m n : Nat} {N : Nat → Nat → Rat} {u v : Nat → Rat} (hu : Comb m n N u) (h : ∀ j, j < n → v j = u j) : Comb m n N v := by
  obtain ⟨a, ha⟩ := hu
  exact ⟨a, fun j hj => by rw [h j hj, ha j hj]⟩
theorem Comb.sum {m n l : Nat} {N M : Nat → Nat → Rat} (h : ∀ i, i < l → Comb m n N (M i)) (a : Nat → Rat) : Comb m n N (fun j => sm l (fun i => a i * M i j)) := by
  induction l with
  | zero => exact Comb.zero fun _ _ => rfl
  | succ l ih => exact ((ih fun i hi => h i (by omega)).add ((h l (by omega)).scale (a l))).congr fun _ _ => rfl
theorem Comb.trans {m n l : Nat} {N M : Nat → Nat → Rat} {v : Nat → Rat} (hv : Comb l n M v) (h : ∀ i, i < l → Comb m n N (M i)) : Comb m n N v := by
  obtain ⟨a, ha⟩ := hv
  exact (Comb.sum h a).congr ha
structure Rref (m n r : Nat) (P : Nat → Nat) (N : Nat → Nat → Rat) : Prop where
  le : r ≤ m
  lt : ∀ i, i < r → P i < n
  mono : ∀ i j, i < j → j < r → P i < P j
  lead : ∀ i j, i < r → j < P i → N i j = 0
  one : ∀ i, i < r → N i (P i) = 1
  col : ∀ i k, i < m → k < r → i ≠ k → N i (P k) = 0
  rest : ∀ i j, r ≤ i → i < m → j < n → N i j = 0
section
variable {m n r : Nat} {P : Nat → Nat} {N : Nat → Nat → Rat}
theorem Rref.coef (h : Rref m n r P N) {a v : Nat → Rat} (hv : ∀ j, j < n → v j = sm m (fun i => a i * N i j)) {k : Nat} (hk : k < r) : v (P k) = a k := by
  rw [hv _ (h.lt k hk), sm_one (fun i => a i * N i (P k)) (show k < m by have := h.le; omega) (fun i hi hne => by simp only [h.col i k hi hk hne]; grind), h.one k hk]; grind
theorem Rref.exp (h : Rref m n r P N) {v : Nat → Rat} (hv : Comb m n N v) {j : Nat} (hj : j < n) : v j = sm r (fun i => v (P i) * N i j) := by
  obtain ⟨a, ha⟩ := hv
  have hle := h.le
  rw [ha j hj, show m = r + (m - r) by omega, sm_split, sm_zero (n := m - r) (fun i hi => by rw [h.rest (r + i) j (by omega) (by omega) hj]; grind)]
  rw [sm_congr (fun i hi => by rw [← h.coef ha hi])]; grind
theorem Rref.first (h : Rref m n r P N) {v : Nat → Rat} (hv : Comb m n N v) {q : Nat} (hq : q < n) (h0 : ∀ j, j < q → v j = 0) (h1 : v q ≠ 0) : ∃ i, i < r ∧ P i = q := by
  refine Classical.byContradiction fun hno => h1 ?_
  rw [h.exp hv hq]
  refine sm_zero fun i hi => ?_
  rcases Nat.lt_trichotomy (P i) q with c | c | c
  · rw [h0 _ c]; grind
  · exact absurd ⟨i, hi, c⟩ hno
  · rw [h.lead i q hi c]; grind
end
theorem mono_eq {r r' : Nat} {P P' : Nat → Nat} (hm : ∀ i j, i < j → j < r → P i < P j) (hm' : ∀ i j, i < j → j < r' → P' i < P' j)
    (h : ∀ i, i < r → ∃ k, k < r' ∧ P' k = P i) (h' : ∀ i, i < r' → ∃ k, k < r ∧ P k = P' i) : r = r' ∧ ∀ i, i < r → P i = P' i := by
  have key : ∀ i, i < r → i < r' → P i = P' i := by
    intro i
    induction i using Nat.strongRecOn with
    | _ i ih =>
      intro hi hi'
      obtain ⟨k, hk, ek⟩ := h i hi
      obtain ⟨l, hl, el⟩ := h' i hi'
      have k1 : i ≤ k := Nat.le_of_not_lt fun hlt => by
        have := ih k hlt (by omega) hk
        have := hm k i hlt hi; omega
      have l1 : i ≤ l := Nat.le_of_not_lt fun hlt => by
        have := ih l hlt hl (by omega)
        have := hm' l i hlt hi'; omega
      have a1 : P' i ≤ P i := by
        rcases Nat.lt_or_ge i k with c | c
        · have := hm' i k c hk; omega
        · have : i = k := by omega
          subst this; omega
      have a2 : P i ≤ P' i := by
        rcases Nat.lt_or_ge i l with c | c
        · have := hm i l c hl; omega
        · have : i = l := by omega
          subst this; omega
      omega
  have e : r = r' := by
    rcases Nat.lt_trichotomy r r' with c | c | c
    · obtain ⟨k, hk, ek⟩ := h' r c
      have := key k hk (by omega)
      have := hm' k r hk c; omega
    · exact c
    · obtain ⟨k, hk, ek⟩ := h r' c
      have := key k (by omega) hk
      have := hm k r' hk c; omega
  exact ⟨e, fun i hi => key i hi (by omega)⟩
theorem Rref.unique (h01 : (1 : Rat) ≠ 0) {m m' n r r' : Nat} {P P' : Nat → Nat} {N N' : Nat → Nat → Rat} (h : Rref m n r P N) (h' : Rref m' n r' P' N')
    (hs : ∀ i, i < r → Comb m' n N' (N i)) (hs' : ∀ i, i < r' → Comb m n N (N' i)) :
    r = r' ∧ (∀ i, i < r → P i = P' i) ∧ ∀ i j, i < r → j < n → N i j = N' i j := by
  obtain ⟨e1, e2⟩ := mono_eq h.mono h'.mono
    (fun i hi => h'.first (hs i hi) (h.lt i hi) (fun j hj => h.lead i j hi hj) (by rw [h.one i hi]; exact h01))
    (fun i hi => h.first (hs' i hi) (h'.lt i hi) (fun j hj => h'.lead i j hi hj) (by rw [h'.one i hi]; exact h01))
  subst e1
  refine ⟨rfl, e2, fun i j hi hj => ?_⟩
  have hle := h.le
  rw [h.exp (Comb.row (by omega)) hj, h.exp (hs' i hi) hj]
  refine sm_congr fun k hk => ?_
  by_cases e : i = k
  · subst e; rw [h.one i hi, e2 i hi, h'.one i hi]
  · rw [h.col i k (by omega) hk e, e2 k hk, h'.col i k (by have := h'.le; omega) hk e]
end Go.Proofs.Ytejliecmdkmgiaa.laQ
namespace Go.Proofs.Ytejliecmdkmgiaa.laQ
def SpanEq (m n : Nat) (M N : Nat → Nat → Rat) : Prop := (∀ i, i < m → Comb m n N (M i)) ∧ (∀ i, i < m → Comb m n M (N i))
section
variable {m n : Nat} {M N Q : Nat → Nat → Rat}
theorem SpanEq.symm (h : SpanEq m n M N) : SpanEq m n N M := ⟨h.2, h.1⟩
theorem SpanEq.trans (h : SpanEq m n M N) (g : SpanEq m n N Q) : SpanEq m n M Q :=
  ⟨fun i hi => (h.1 i hi).trans g.1, fun i hi => (g.2 i hi).trans h.2⟩
theorem SpanEq.rows (h : ∀ i j, i < m → j < n → M i j = N i j) : SpanEq m n M N :=
  ⟨fun i hi => (Comb.row hi).congr fun j hj => h i j hi hj, fun i hi => (Comb.row hi).congr fun j hj => (h i j hi hj).symm⟩
theorem SpanEq.refl (m n : Nat) (M : Nat → Nat → Rat) : SpanEq m n M M := SpanEq.rows fun _ _ _ _ => rfl
def sx (i j k : Nat) : Nat := if k = i then j else if k = j then i else k
theorem sx_lt {i j k m : Nat} (hi : i < m) (hj : j < m) (hk : k < m) : sx i j k < m := by unfold sx; (repeat' split) <;> omega
theorem sx_sx (i j k : Nat) : sx i j (sx i j k) = k := by unfold sx; (repeat' split) <;> omega
theorem SpanEq.swap {i r : Nat} (hi : i < m) (hr : r < m) : SpanEq m n N (fun l => N (sx i r l)) :=
  ⟨fun l hl => (Comb.row (N := fun l => N (sx i r l)) (sx_lt hi hr hl)).congr fun c _ => by simp only [sx_sx], fun l hl => Comb.row (sx_lt hi hr hl)⟩
theorem SpanEq.scale {r : Nat} {u v : Rat} (hr : r < m) (huv : u * v = 1) : SpanEq m n N (fun l c => if l = r then u * N r c else N l c) := by
  refine ⟨fun l hl => ?_, fun l hl => ?_⟩
  · have h := Comb.row (n := n) (N := fun l c => if l = r then u * N r c else N l c) hl
    by_cases e : l = r
    · subst e
      exact (h.scale v).congr fun c _ => by simp only [if_true]; grind
    · exact h.congr fun c _ => by simp only [if_neg e]
  · by_cases e : l = r
    · subst e
      exact ((Comb.row (n := n) (N := N) hr).scale u).congr fun c _ => by simp only [if_true]
    · exact (Comb.row (n := n) (N := N) hl).congr fun c _ => by simp only [if_neg e]
theorem SpanEq.elim {r : Nat} (hr : r < m) (q : Nat → Rat) : SpanEq m n N (fun l c => if l = r then N r c else N l c - q l * N r c) := by
  refine ⟨fun l hl => ?_, fun l hl => ?_⟩
  · have h := Comb.row (n := n) (N := fun l c => if l = r then N r c else N l c - q l * N r c) hl
    have h2 := Comb.row (n := n) (N := fun l c => if l = r then N r c else N l c - q l * N r c) hr
    by_cases e : l = r
    · subst e
      exact h.congr fun c _ => by simp only [if_true]
    · exact (h.add (h2.scale (q l))).congr fun c _ => by simp only [if_neg e, if_true]; grind
  · by_cases e : l = r
    · subst e
      exact (Comb.row (n := n) (N := N) hr).congr fun c _ => by simp only [if_true]
    · exact ((Comb.row (n := n) (N := N) hl).add ((Comb.row (n := n) (N := N) hr).scale (- q l))).congr fun c _ => by simp only [if_neg e]; grind
theorem Comb.left {n' : Nat} {v : Nat → Rat} (h : Comb m n N v) (hn : n' ≤ n) : Comb m n' N v := by
  obtain ⟨a, ha⟩ := h
  exact ⟨a, fun j hj => ha j (by omega)⟩
theorem SpanEq.left {n' : Nat} (h : SpanEq m n M N) (hn : n' ≤ n) : SpanEq m n' M N := ⟨fun i hi => (h.1 i hi).left hn, fun i hi => (h.2 i hi).left hn⟩
theorem Comb.right {n' k : Nat} {v : Nat → Rat} (h : Comb m n N v) (hn : k + n' ≤ n) : Comb m n' (fun i j => N i (k + j)) (fun j => v (k + j)) := by
  obtain ⟨a, ha⟩ := h
  exact ⟨a, fun j hj => ha (k + j) (by omega)⟩
end
section
variable {m j r : Nat} {P : Nat → Nat} {N : Nat → Nat → Rat}
theorem Rref.start (m : Nat) (P : Nat → Nat) (N : Nat → Nat → Rat) : Rref m 0 0 P N :=
  ⟨by omega, fun i hi => absurd hi (by omega), fun i k _ hk => absurd hk (by omega), fun i _ hi => absurd hi (by omega), fun i hi => absurd hi (by omega), fun i k _ hk => absurd hk (by omega), fun i c _ _ hc => absurd hc (by omega)⟩
theorem Rref.congrP (h : Rref m j r P N) {P' : Nat → Nat} (e : ∀ i, i < r → P i = P' i) : Rref m j r P' N :=
  ⟨h.le, fun i hi => by rw [← e i hi]; exact h.lt i hi, fun i k hik hk => by rw [← e i (by omega), ← e k hk]; exact h.mono i k hik hk, fun i c hi hc => h.lead i c hi (by rw [e i hi]; exact hc),
   fun i hi => by rw [← e i hi]; exact h.one i hi, fun i k hi hk hne => by rw [← e k hk]; exact h.col i k hi hk hne, h.rest⟩
theorem Rref.congr (h : Rref m j r P N) {N' : Nat → Nat → Rat} (e : ∀ i c, i < m → c < j → N i c = N' i c) : Rref m j r P N' :=
  ⟨h.le, h.lt, h.mono, fun i c hi hc => by rw [← e i c (by have := h.le; omega) (by have := h.lt i hi; omega)]; exact h.lead i c hi hc,
   fun i hi => by rw [← e i _ (by have := h.le; omega) (h.lt i hi)]; exact h.one i hi, fun i k hi hk hne => by rw [← e i _ hi (h.lt k hk)]; exact h.col i k hi hk hne,
   fun i c hi hm hc => by rw [← e i c hm hc]; exact h.rest i c hi hm hc⟩
theorem Rref.step_zero (h : Rref m j r P N) (hz : ∀ i, r ≤ i → i < m → N i j = 0) : Rref m (j + 1) r P N :=
  ⟨h.le, fun i hi => by have := h.lt i hi; omega, h.mono, h.lead, h.one, h.col, fun i c hi hm hc => by
    by_cases e : c = j
    · rw [e]; exact hz i hi hm
    · exact h.rest i c hi hm (by omega)⟩
theorem Rref.step_pivot (h : Rref m j r P N) (hr : r < m) {N' : Nat → Nat → Rat} (h1 : N' r j = 1) (h0 : ∀ i, i < m → i ≠ r → N' i j = 0) (ha : ∀ i c, i < r → c < j → N' i c = N i c) (hb : ∀ i c, r ≤ i → i < m → c < j → N' i c = 0) :
    Rref m (j + 1) (r + 1) (fun i => if i = r then j else P i) N' := by
  have hl := h.lt
  refine ⟨by omega, fun i hi => ?_, fun i k hik hk => ?_, fun i c hi hc => ?_, fun i hi => ?_, fun i k hi hk hne => ?_, fun i c hi hm hc => ?_⟩
  · show (if i = r then j else P i) < j + 1
    split
    · omega
    · have := hl i (by omega); omega
  · show (if i = r then j else P i) < (if k = r then j else P k)
    rw [if_neg (by omega)]
    split
    · exact hl i (by omega)
    · exact h.mono i k hik (by omega)
  · by_cases e : i = r
    · rw [if_pos e] at hc
      exact hb i c (by omega) (by omega) hc
    · rw [if_neg e] at hc
      have := hl i (by omega)
      rw [ha i c (by omega) (by omega)]; exact h.lead i c (by omega) hc
  · by_cases e : i = r
    · rw [if_pos e, e]; exact h1
    · rw [if_neg e, ha i _ (by omega) (hl i (by omega))]; exact h.one i (by omega)
  · by_cases e : k = r
    · rw [if_pos e]; exact h0 i hi (by omega)
    · rw [if_neg e]
      have := hl k (by omega)
      by_cases e2 : i < r
      · rw [ha i _ e2 this]; exact h.col i k hi (by omega) hne
      · exact hb i _ (by omega) hi this
  · by_cases e : c = j
    · rw [e]; exact h0 i hm (by omega)
    · exact hb i c (by omega) hm (by omega)
end
end Go.Proofs.Ytejliecmdkmgiaa.laQ
namespace Go.Proofs.Ytejliecmdkmgiaa.laQ
def sk (i k : Nat) : Nat := if k < i then k else k + 1
def us (i r : Nat) : Nat := if r < i then r else r - 1
theorem sk_ne (i k : Nat) : sk i k ≠ i := by unfold sk; split <;> omega
theorem sk_eq {i r k : Nat} (h : r ≠ i) : sk i k = r ↔ k = us i r := by unfold sk us; (repeat' split) <;> omega
theorem sk_lt {i k n : Nat} (hk : k < n) : sk i k < n + 1 := by unfold sk; split <;> omega
theorem us_lt {i r n : Nat} (hr : r < n + 1) (hi : i < n + 1) (h : r ≠ i) : us i r < n := by unfold us; split <;> omega
def mnr {α : Type} (i : Nat) (M : Nat → Nat → α) : Nat → Nat → α := fun r c => M (sk i r) (c + 1)
def sg (i : Nat) : Rat := if i % 2 = 0 then 1 else -1
theorem sg_succ (i : Nat) : (sg (i + 1) : Rat) = - sg i := by
  unfold sg
  by_cases h : i % 2 = 0
  · rw [if_pos h, if_neg (by omega)]
  · rw [if_neg h, if_pos (by omega)]; grind
def dt : Nat → (Nat → Nat → Rat) → Rat
  | 0, _ => 1
  | n + 1, M => sm (n + 1) (fun i => sg i * M i 0 * dt n (mnr i M))
theorem dt_congr : ∀ {n : Nat} {M N : Nat → Nat → Rat}, (∀ i j, i < n → j < n → M i j = N i j) → dt n M = dt n N
  | 0, _, _, _ => rfl
  | n + 1, M, N, h => sm_congr fun i hi => by
    rw [h i 0 hi (by omega), dt_congr (n := n) (M := mnr i M) (N := mnr i N) fun r c hr hc => h _ _ (sk_lt hr) (by omega)]
def rwr {α : Type} (r : Nat) (v : Nat → α) (M : Nat → Nat → α) : Nat → Nat → α := fun i j => if i = r then v j else M i j
theorem rwr_at {α : Type} (r : Nat) (v : Nat → α) (M : Nat → Nat → α) (j : Nat) : rwr r v M r j = v j := if_pos rfl
theorem rwr_ne {α : Type} {r i : Nat} (v : Nat → α) (M : Nat → Nat → α) (j : Nat) (h : i ≠ r) : rwr r v M i j = M i j := if_neg h
theorem rwr_self {α : Type} (r : Nat) (M : Nat → Nat → α) : rwr r (M r) M = M := by
  funext i j; unfold rwr; split
  · rename_i e; rw [e]
  · rfl
theorem rwr_comm {α : Type} {r s : Nat} (u v : Nat → α) (M : Nat → Nat → α) (h : r ≠ s) : rwr r u (rwr s v M) = rwr s v (rwr r u M) := by
  funext i j; unfold rwr
  by_cases e : i = r
  · rw [if_pos e, if_neg (by omega), if_pos e]
  · rw [if_neg e, if_neg e]
theorem mnr_rwr_same {α : Type} (r : Nat) (v : Nat → α) (M : Nat → Nat → α) : mnr r (rwr r v M) = mnr r M := by
  funext i j; unfold mnr; exact rwr_ne _ _ _ (sk_ne r i)
theorem mnr_rwr {α : Type} {i r : Nat} (v : Nat → α) (M : Nat → Nat → α) (h : r ≠ i) : mnr i (rwr r v M) = rwr (us i r) (fun j => v (j + 1)) (mnr i M) := by
  funext k j
  show (if sk i k = r then _ else _) = (if k = us i r then _ else _)
  by_cases e : k = us i r
  · rw [if_pos e, if_pos ((sk_eq h).2 e)]
  · rw [if_neg e, if_neg (fun e' => e ((sk_eq h).1 e'))]; rfl
theorem dt_lin : ∀ {n r : Nat} (M : Nat → Nat → Rat) (a b : Rat) (u v : Nat → Rat), r < n → dt n (rwr r (fun j => a * u j + b * v j) M) = a * dt n (rwr r u M) + b * dt n (rwr r v M)
  | 0, _, _, _, _, _, _, h => absurd h (by omega)
  | n + 1, r, M, a, b, u, v, h => by
    show sm (n + 1) _ = a * sm (n + 1) _ + b * sm (n + 1) _
    rw [← sm_mul, ← sm_mul, ← sm_add]
    refine sm_congr fun i hi => ?_
    show sg i * rwr r (fun j => a * u j + b * v j) M i 0 * dt n (mnr i (rwr r (fun j => a * u j + b * v j) M)) = a * (sg i * rwr r u M i 0 * dt n (mnr i (rwr r u M))) + b * (sg i * rwr r v M i 0 * dt n (mnr i (rwr r v M)))
    by_cases e : i = r
    · subst e
      rw [mnr_rwr_same, mnr_rwr_same, mnr_rwr_same, rwr_at, rwr_at, rwr_at]; grind
    · rw [rwr_ne _ _ _ e, rwr_ne _ _ _ e, rwr_ne _ _ _ e, mnr_rwr _ _ (fun e' => e e'.symm), mnr_rwr _ _ (fun e' => e e'.symm), mnr_rwr _ _ (fun e' => e e'.symm)]
      rw [dt_lin (mnr i M) a b (fun j => u (j + 1)) (fun j => v (j + 1)) (us_lt h hi (fun e' => e e'.symm))]; grind
theorem sm_two {n k : Nat} (f : Nat → Rat) (hk : k + 1 < n) (h : ∀ i, i < n → i ≠ k → i ≠ k + 1 → f i = 0) : sm n f = f k + f (k + 1) := by
  induction n with
  | zero => omega
  | succ n ih =>
    simp only [sm]
    by_cases e : k + 1 = n
    · subst e
      rw [sm_one f (show k < k + 1 by omega) (fun i hi hne => h i (by omega) hne (by omega))]
    · rw [ih (by omega) (fun i hi => h i (by omega)), h n (by omega) (by omega) (by omega)]; grind
theorem dt_alt1 : ∀ {n k : Nat} (M : Nat → Nat → Rat), k + 1 < n → (∀ j, j < n → M k j = M (k + 1) j) → dt n M = 0
  | 0, _, _, h, _ => absurd h (by omega)
  | n + 1, k, M, h, he => by
    show sm (n + 1) _ = 0
    rw [sm_two (k := k) _ h (fun i hi h1 h2 => ?_)]
    · have e1 : dt n (mnr k M) = dt n (mnr (k + 1) M) := dt_congr fun r c hr hc => by
        show M (sk k r) (c + 1) = M (sk (k + 1) r) (c + 1)
        by_cases e : r = k
        · subst e
          rw [show sk r r = r + 1 by unfold sk; rw [if_neg (by omega)], show sk (r + 1) r = r by unfold sk; rw [if_pos (by omega)], he _ (by omega)]
        · rw [show sk k r = sk (k + 1) r by unfold sk; (repeat' split) <;> omega]
      rw [e1, he 0 (by omega), sg_succ]; grind
    · have hlt : us i k + 1 < n := by unfold us; split <;> omega
      rw [dt_alt1 (k := us i k) (mnr i M) hlt (fun j hj => by
        show M (sk i (us i k)) (j + 1) = M (sk i (us i k + 1)) (j + 1)
        rw [(sk_eq (fun e => h1 e.symm)).2 rfl, show sk i (us i k + 1) = k + 1 by unfold sk us; (repeat' split) <;> omega]
        exact he _ (by omega))]
      grind
theorem dt_swap1 {n k : Nat} (M : Nat → Nat → Rat) (h : k + 1 < n) : dt n (rwr k (M (k + 1)) (rwr (k + 1) (M k) M)) = - dt n M := by
  have key : ∀ u v : Nat → Rat, dt n (rwr k u (rwr (k + 1) v M)) + dt n (rwr k v (rwr (k + 1) u M)) = 0 := fun u v => by
    have h0 := dt_alt1 (k := k) (rwr k (fun j => 1 * u j + 1 * v j) (rwr (k + 1) (fun j => 1 * u j + 1 * v j) M)) h (fun j _ => by rw [rwr_at, rwr_ne _ _ _ (by omega), rwr_at])
    have hu := dt_alt1 (k := k) (rwr k u (rwr (k + 1) u M)) h (fun j _ => by rw [rwr_at, rwr_ne _ _ _ (by omega), rwr_at])
    have hv := dt_alt1 (k := k) (rwr k v (rwr (k + 1) v M)) h (fun j _ => by rw [rwr_at, rwr_ne _ _ _ (by omega), rwr_at])
    rw [dt_lin _ 1 1 u v (by omega), rwr_comm _ _ _ (by omega), rwr_comm (r := k) v _ _ (by omega), dt_lin _ 1 1 u v (by omega), dt_lin _ 1 1 u v (by omega), rwr_comm (s := k) _ _ _ (by omega), rwr_comm (s := k) _ _ _ (by omega), rwr_comm (s := k) _ _ _ (by omega), rwr_comm (s := k) _ _ _ (by omega), hu, hv] at h0
    grind
  have h1 := key (M (k + 1)) (M k)
  rw [rwr_self, rwr_self] at h1
  grind
theorem dt_alt {n : Nat} : ∀ (d : Nat) {i : Nat} (M : Nat → Nat → Rat), i + d + 1 < n → (∀ j, j < n → M i j = M (i + d + 1) j) → dt n M = 0
  | 0, _, M, h, he => dt_alt1 M h he
  | d + 1, i, M, h, he => by
    have h1 := dt_swap1 (k := i + d + 1) M (by omega)
    rw [dt_alt d (i := i) _ (by omega) (fun j hj => by
      rw [rwr_ne _ _ _ (by omega), rwr_ne _ _ _ (by omega), rwr_at]
      exact he j hj)] at h1
    grind
theorem dt_alt' {n i k : Nat} (M : Nat → Nat → Rat) (hi : i < n) (hk : k < n) (hne : i ≠ k) (he : ∀ j, j < n → M i j = M k j) : dt n M = 0 := by
  rcases Nat.lt_or_ge i k with c | c
  · exact dt_alt (k - i - 1) (i := i) M (by omega) (fun j hj => by rw [show i + (k - i - 1) + 1 = k by omega]; exact he j hj)
  · exact dt_alt (i - k - 1) (i := k) M (by omega) (fun j hj => by rw [show k + (i - k - 1) + 1 = i by omega]; exact (he j hj).symm)
theorem dt_swap {n i k : Nat} (M : Nat → Nat → Rat) (hi : i < n) (hk : k < n) (hne : i ≠ k) : dt n (fun l => M (sx i k l)) = - dt n M := by
  have key : ∀ u v : Nat → Rat, dt n (rwr i u (rwr k v M)) + dt n (rwr i v (rwr k u M)) = 0 := fun u v => by
    have h0 := dt_alt' (rwr i (fun j => 1 * u j + 1 * v j) (rwr k (fun j => 1 * u j + 1 * v j) M)) hi hk hne (fun j _ => by rw [rwr_at, rwr_ne _ _ _ (fun e => hne e.symm), rwr_at])
    have hu := dt_alt' (rwr i u (rwr k u M)) hi hk hne (fun j _ => by rw [rwr_at, rwr_ne _ _ _ (fun e => hne e.symm), rwr_at])
    have hv := dt_alt' (rwr i v (rwr k v M)) hi hk hne (fun j _ => by rw [rwr_at, rwr_ne _ _ _ (fun e => hne e.symm), rwr_at])
    rw [dt_lin _ 1 1 u v hi, rwr_comm _ _ _ hne, rwr_comm (r := i) v _ _ hne, dt_lin _ 1 1 u v hk, dt_lin _ 1 1 u v hk, rwr_comm (s := i) _ _ _ (fun e => hne e.symm), rwr_comm (s := i) _ _ _ (fun e => hne e.symm), rwr_comm (s := i) _ _ _ (fun e => hne e.symm), rwr_comm (s := i) _ _ _ (fun e => hne e.symm), hu, hv] at h0
    grind
  have h1 := key (M k) (M i)
  rw [rwr_self, rwr_self] at h1
  have e : (fun l => M (sx i k l)) = rwr i (M k) (rwr k (M i) M) := by
    funext l j
    show M (sx i k l) j = (if l = i then M k j else if l = k then M i j else M l j)
    unfold sx
    by_cases c : l = i
    · rw [if_pos c, if_pos c]
    · rw [if_neg c, if_neg c]
      by_cases c' : l = k
      · rw [if_pos c', if_pos c']
      · rw [if_neg c', if_neg c']
  rw [e]; grind
theorem dt_scale {n r : Nat} (M : Nat → Nat → Rat) (u : Rat) (hr : r < n) : dt n (fun l c => if l = r then u * M r c else M l c) = u * dt n M := by
  have h := dt_lin (n := n) M u 0 (M r) (M r) hr
  rw [rwr_self] at h
  rw [show dt n (fun l c => if l = r then u * M r c else M l c) = dt n (rwr r (fun j => u * M r j + 0 * M r j) M) from dt_congr fun i j _ _ => by
    show _ = (if i = r then _ else _)
    by_cases e : i = r
    · rw [if_pos e, if_pos e]; grind
    · rw [if_neg e, if_neg e], h]
  grind
theorem dt_zero {n r : Nat} (M : Nat → Nat → Rat) (hr : r < n) (h : ∀ j, j < n → M r j = 0) : dt n M = 0 := by
  have h1 := dt_scale (n := n) M 0 hr
  rw [show dt n (fun l c => if l = r then 0 * M r c else M l c) = dt n M from dt_congr fun i j _ hj => by
    by_cases e : i = r
    · rw [if_pos e, e, h j hj]; grind
    · rw [if_neg e]] at h1
  rw [h1]; grind
theorem dt_add {n r l : Nat} (M : Nat → Nat → Rat) (q : Rat) (hr : r < n) (hl : l < n) (hne : l ≠ r) : dt n (rwr l (fun j => M l j - q * M r j) M) = dt n M := by
  have h := dt_lin (n := n) M 1 (-q) (M l) (M r) hl
  rw [rwr_self, dt_alt' (rwr l (M r) M) hl hr hne (fun j _ => by rw [rwr_at, rwr_ne _ _ _ (fun e => hne e.symm)])] at h
  rw [dt_congr (N := rwr l (fun j => 1 * M l j + -q * M r j) M) (fun i j _ _ => by unfold rwr; split <;> grind), h]; grind
theorem dt_elim {n r : Nat} (M : Nat → Nat → Rat) (q : Nat → Rat) (hr : r < n) : dt n (fun l c => if l = r then M r c else M l c - q l * M r c) = dt n M := by
  have key : ∀ k, k ≤ n → dt n (fun l c => if l = r ∨ k ≤ l then M l c else M l c - q l * M r c) = dt n M := by
    intro k
    induction k with
    | zero => intro _; exact dt_congr fun i j _ _ => if_pos (Or.inr (by omega))
    | succ k ih =>
      intro hk
      by_cases e : k = r
      · rw [← ih (by omega)]
        refine dt_congr fun i j _ _ => ?_
        by_cases c : i = r
        · rw [if_pos (Or.inl c), if_pos (Or.inl c)]
        · by_cases c' : k ≤ i
          · rw [if_pos (Or.inr (by omega)), if_pos (Or.inr c')]
          · rw [if_neg (by omega), if_neg (by omega)]
      · rw [← ih (by omega), ← dt_add (fun l c => if l = r ∨ k ≤ l then M l c else M l c - q l * M r c) (q k) hr (show k < n by omega) e]
        refine dt_congr fun i j _ _ => ?_
        show _ = (if i = k then _ else _)
        simp only []
        by_cases c : i = k
        · subst c
          rw [if_pos rfl, if_neg (by omega), if_pos (Or.inr (Nat.le_refl _)), if_pos (Or.inl trivial)]
        · rw [if_neg c]
          by_cases c' : i = r ∨ k ≤ i
          · rw [if_pos (by omega), if_pos c']
          · rw [if_neg (by omega), if_neg c']
  rw [← key n (Nat.le_refl n)]
  refine dt_congr fun i j hi _ => ?_
  by_cases c : i = r
  · rw [if_pos c, if_pos (Or.inl c), c]
  · rw [if_neg c, if_neg (by omega)]
def idm : Nat → Nat → Rat := fun i j => if j = i then 1 else 0
theorem dt_one : ∀ n, dt n (idm : Nat → Nat → Rat) = 1
  | 0 => rfl
  | n + 1 => by
    show sm (n + 1) _ = 1
    rw [sm_one _ (show 0 < n + 1 by omega) (fun i _ hne => by show sg i * (if 0 = i then 1 else 0) * _ = 0; rw [if_neg (fun e => hne e.symm)]; grind)]
    show sg 0 * (if 0 = 0 then 1 else 0) * _ = 1
    rw [dt_congr (N := idm) (fun i j _ _ => ?_), dt_one n]
    · unfold sg; rw [if_pos rfl, if_pos rfl]; grind
    · show (if j + 1 = sk 0 i then (1 : Rat) else 0) = (if j = i then 1 else 0)
      rw [show sk 0 i = i + 1 by unfold sk; rw [if_neg (by omega)]]
      by_cases c : j = i
      · rw [if_pos c, if_pos (by omega)]
      · rw [if_neg c, if_neg (by omega)]
inductive RE (m n : Nat) (M : Nat → Nat → Rat) : (Nat → Nat → Rat) → Rat → Prop
  | refl {N : Nat → Nat → Rat} : (∀ i j, i < m → j < n → M i j = N i j) → RE m n M N 1
  | swap {N : Nat → Nat → Rat} {c : Rat} {i r : Nat} : i < m → r < m → i ≠ r → RE m n M N c → RE m n M (fun l => N (sx i r l)) (-c)
  | scale {N : Nat → Nat → Rat} {c : Rat} {r : Nat} (u : Rat) : r < m → RE m n M N c → RE m n M (fun l j => if l = r then u * N r j else N l j) (u * c)
  | elim {N : Nat → Nat → Rat} {c : Rat} {r : Nat} (q : Nat → Rat) : r < m → RE m n M N c → RE m n M (fun l j => if l = r then N r j else N l j - q l * N r j) c
  | rows {N N' : Nat → Nat → Rat} {c : Rat} : RE m n M N c → (∀ i j, i < m → j < n → N i j = N' i j) → RE m n M N' c
theorem RE.det {n : Nat} {M N : Nat → Nat → Rat} {c : Rat} (h : RE n n M N c) : dt n N = c * dt n M := by
  induction h with
  | refl e => rw [dt_congr e]; grind
  | swap hi hr hne _ ih => rw [dt_swap _ hi hr hne, ih]; grind
  | scale u hr _ ih => rw [dt_scale _ u hr, ih]; grind
  | elim q hr _ ih => rw [dt_elim _ q hr, ih]
  | rows _ e ih => rw [← dt_congr e, ih]
def mm (n : Nat) (A B : Nat → Nat → Rat) : Nat → Nat → Rat := fun i j => sm n (fun k => A i k * B k j)
theorem mm_scale {n r : Nat} (N B : Nat → Nat → Rat) (u : Rat) (i j : Nat) : (if i = r then u * mm n N B r j else mm n N B i j) = mm n (fun l c => if l = r then u * N r c else N l c) B i j := by
  unfold mm
  by_cases e : i = r
  · rw [if_pos e, ← sm_mul]
    exact sm_congr fun k _ => by simp only [if_pos e]; grind
  · rw [if_neg e]
    exact sm_congr fun k _ => by simp only [if_neg e]
theorem mm_elim {n r : Nat} (N B : Nat → Nat → Rat) (q : Nat → Rat) (i j : Nat) : (if i = r then mm n N B r j else mm n N B i j - q i * mm n N B r j) = mm n (fun l c => if l = r then N r c else N l c - q l * N r c) B i j := by
  unfold mm
  by_cases e : i = r
  · rw [if_pos e]
    exact sm_congr fun k _ => by simp only [if_pos e]
  · rw [if_neg e, show sm n (fun k => N i k * B k j) - q i * sm n (fun k => N r k * B k j) = sm n (fun k => N i k * B k j) + sm n (fun k => (-q i) * (N r k * B k j)) by rw [sm_mul]; grind, ← sm_add]
    exact sm_congr fun k _ => by simp only [if_neg e]; grind
theorem RE.mul {m n l : Nat} {M N : Nat → Nat → Rat} {c : Rat} (h : RE m n M N c) (B : Nat → Nat → Rat) : RE m l (mm n M B) (mm n N B) c := by
  induction h with
  | refl e => exact RE.refl fun i j hi _ => sm_congr fun k hk => by rw [e i k hi hk]
  | swap hi hr hne _ ih => exact RE.swap hi hr hne ih
  | scale u hr _ ih => exact (RE.scale u hr ih).rows fun i j _ _ => mm_scale _ _ _ _ _
  | elim q hr _ ih => exact (RE.elim q hr ih).rows fun i j _ _ => mm_elim _ _ _ _ _
  | rows _ e ih => exact ih.rows fun i j hi _ => sm_congr fun k hk => by rw [e i k hi hk]
theorem mm_id {m n : Nat} {B : Nat → Nat → Rat} (i j : Nat) (hi : i < m) : mm m idm B i j = B i j := by
  show sm m _ = _
  rw [sm_one _ hi (fun k _ hne => by show (if k = i then (1 : Rat) else 0) * _ = 0; rw [if_neg hne]; grind)]
  show (if i = i then (1 : Rat) else 0) * _ = _
  rw [if_pos rfl]; grind
theorem dt_mm_of {n : Nat} {A N B : Nat → Nat → Rat} {c d : Rat} (h : RE n n A N c) (hd : d * c = 1) (hN : (∀ i j, i < n → j < n → N i j = idm i j) ∨ ∃ r, r < n ∧ ∀ j, j < n → N r j = 0) : dt n (mm n A B) = dt n A * dt n B := by
  have h1 := h.det
  have h2 := (h.mul (l := n) B).det
  rcases hN with e | ⟨r, hr, e⟩
  · rw [dt_congr e, dt_one] at h1
    rw [show dt n (mm n N B) = dt n B from dt_congr fun i j hi hj => by
      rw [← mm_id (m := n) (n := n) (B := B) i j hi]; exact sm_congr fun k hk => by rw [e i k hi hk]] at h2
    grind
  · rw [dt_zero _ hr e] at h1
    rw [dt_zero (r := r) _ hr (fun j _ => sm_zero fun k hk => by rw [e k hk]; grind)] at h2
    grind
end Go.Proofs.Ytejliecmdkmgiaa.laQ
namespace Go.Proofs.Ytejliecmdkmgiaa.laQ
theorem Rref.congr_low {m j r : Nat} {P : Nat → Nat} {N N' : Nat → Nat → Rat} (h : Rref m j r P N) (e : ∀ k, k < r → N' k = N k) (z : ∀ k c, r ≤ k → k < m → c < j → N' k c = 0) : Rref m j r P N' := by
  refine ⟨h.le, h.lt, h.mono, fun i c hi hc => by rw [e i hi]; exact h.lead i c hi hc, fun i hi => by rw [e i hi]; exact h.one i hi, fun i k hi hk hne => ?_, z⟩
  by_cases c : i < r
  · rw [e i c]; exact h.col i k hi hk hne
  · exact z i _ (by omega) hi (h.lt k hk)
structure Fld : Prop where
  inv : ∀ x : Rat, x ≠ 0 → ∃ y : Rat, x * y = 1
  one : (1 : Rat) ≠ 0
theorem rref_exists (fl : Fld) (m n : Nat) (M : Nat → Nat → Rat) : ∀ j, j ≤ n → ∃ (r : Nat) (P : Nat → Nat) (N : Nat → Nat → Rat) (c : Rat), Rref m j r P N ∧ RE m n M N c ∧ ∃ d, d * c = 1
  | 0, _ => ⟨0, fun _ => 0, M, 1, Rref.start _ _ _, RE.refl fun _ _ _ _ => rfl, 1, by grind⟩
  | j + 1, hj => by
    obtain ⟨r, P, N, c, h1, h2, d, hd⟩ := rref_exists fl m n M j (by omega)
    by_cases hz : ∀ i, r ≤ i → i < m → N i j = 0
    · exact ⟨r, P, N, c, h1.step_zero hz, h2, d, hd⟩
    · obtain ⟨i, hi⟩ := Classical.not_forall.1 hz
      obtain ⟨hri, hi⟩ := Classical.not_forall.1 hi
      obtain ⟨him, hne⟩ := Classical.not_forall.1 hi
      have hrm : r < m := by omega
      -- the rows i and r exchanged
      obtain ⟨N1, c1, k1, k2, k3, d1, k5⟩ : ∃ (N1 : Nat → Nat → Rat) (c1 : Rat), Rref m j r P N1 ∧ RE m n M N1 c1 ∧ N1 r j ≠ 0 ∧ ∃ d1, d1 * c1 = 1 := by
        by_cases e : i = r
        · subst e; exact ⟨N, c, h1, h2, hne, d, hd⟩
        · refine ⟨fun l => N (sx i r l), -c, ?_, RE.swap him hrm e h2, ?_, -d, by grind⟩
          · refine h1.congr_low ?_ ?_
            · intro k hk
              unfold sx; rw [if_neg (by omega), if_neg (by omega)]
            · intro k q hk hkm hq
              show N (sx i r k) q = 0
              exact h1.rest _ q (by unfold sx; (repeat' split) <;> omega) (sx_lt him hrm hkm) hq
          · show N (sx i r r) j ≠ 0
            rw [show sx i r r = i by unfold sx; rw [if_neg (by omega), if_pos rfl]]; exact hne
      obtain ⟨u, hu⟩ := fl.inv _ k3
      -- scaled, and the others cleared
      refine ⟨r + 1, fun t => if t = r then j else P t, _, _, k1.step_pivot hrm (N' := fun l c => if l = r then (fun l c => if l = r then u * N1 r c else N1 l c) r c else (fun l c => if l = r then u * N1 r c else N1 l c) l c - N1 l j * (fun l c => if l = r then u * N1 r c else N1 l c) r c) ?_ ?_ ?_ ?_,
        RE.elim (fun l => N1 l j) hrm (RE.scale u hrm k2), d1 * N1 r j, by grind⟩
      · simp only [if_true]; grind
      · intro l _ hl
        simp only [if_neg hl, if_true]; grind
      · intro i c hi hc
        have hz : N1 r c = 0 := k1.rest r c (Nat.le_refl _) hrm hc
        simp only [if_neg (show i ≠ r by omega), if_true, hz]; grind
      · intro i c hi him hc
        have hz : N1 r c = 0 := k1.rest r c (Nat.le_refl _) hrm hc
        have hz2 : N1 i c = 0 := k1.rest i c hi him hc
        by_cases e : i = r
        · simp only [if_pos e, if_true, hz]; grind
        · simp only [if_neg e, if_true, hz, hz2]; grind
theorem RE.span {m n : Nat} {M N : Nat → Nat → Rat} {c : Rat} (h : RE m n M N c) : (∃ d, d * c = 1) → SpanEq m n M N := by
  induction h with
  | refl e => exact fun _ => SpanEq.rows e
  | swap hi hr hne _ ih => exact fun ⟨d, hd⟩ => (ih ⟨-d, by grind⟩).trans (SpanEq.swap hi hr)
  | @scale N c r u hr _ ih => exact fun ⟨d, hd⟩ => (ih ⟨d * u, by grind⟩).trans (SpanEq.scale hr (v := d * c) (by grind))
  | elim q hr _ ih => exact fun hd => (ih hd).trans (SpanEq.elim hr q)
  | rows _ e ih => exact fun hd => (ih hd).trans (SpanEq.rows e)
theorem rref_id {m : Nat} {P : Nat → Nat} {N : Nat → Nat → Rat} (r1 : Rref m m m P N) : ∀ i j, i < m → j < m → N i j = idm i j := by
  have hP : ∀ i, i < m → P i = i := by
    have hge : ∀ i, i < m → i ≤ P i := by
      intro i
      induction i with
      | zero => intro _; omega
      | succ i ih => intro hi; have := ih (by omega); have := r1.mono i (i + 1) (by omega) hi; omega
    have hup : ∀ d i, i + d + 1 = m → P i + d + 1 ≤ m := by
      intro d
      induction d with
      | zero => intro i hi; have := r1.lt i (by omega); omega
      | succ d ih => intro i hi; have := ih (i + 1) (by omega); have := r1.mono i (i + 1) (by omega) (by omega); omega
    intro i hi
    have := hge i hi
    have := hup (m - i - 1) i (by omega)
    omega
  intro i j hi hj
  unfold idm
  by_cases c : j = i
  · subst c
    have := r1.one j hi
    rw [hP j hi] at this
    rw [if_pos rfl, this]
  · have := r1.col i j hi hj (fun e => c e.symm)
    rw [hP j hj] at this
    rw [if_neg c, this]
theorem comes_sq (fl : Fld) (n : Nat) (A : Nat → Nat → Rat) : ∃ (N : Nat → Nat → Rat) (c d : Rat), RE n n A N c ∧ d * c = 1 ∧ ((∀ i j, i < n → j < n → N i j = idm i j) ∨ ∃ r, r < n ∧ ∀ j, j < n → N r j = 0) := by
  obtain ⟨r, P, N, c, h1, h2, d, hd⟩ := rref_exists fl n n A n (Nat.le_refl n)
  refine ⟨N, c, d, h2, hd, ?_⟩
  have hle := h1.le
  by_cases e : r < n
  · exact Or.inr ⟨r, e, fun j hj => h1.rest r j (Nat.le_refl _) e hj⟩
  · obtain rfl : r = n := by omega
    exact Or.inl (rref_id h1)
section
variable {n : Nat}
theorem dt_mul (fl : Fld) (A B : Nat → Nat → Rat) : dt n (mm n A B) = dt n A * dt n B := by
  obtain ⟨N, c, d, h1, h2, h3⟩ := comes_sq fl n A
  exact dt_mm_of h1 h2 h3
theorem dt_addmany {r : Nat} (M : Nat → Nat → Rat) (v : Nat → Rat) (hr : r < n) : ∀ k, k ≤ n → dt n (rwr r (fun j => M r j - sm k (fun l => if l = r then 0 else v l * M l j)) M) = dt n M
  | 0, _ => dt_congr fun i j _ _ => by
    unfold rwr
    split
    · rename_i e; rw [e]; simp only [sm]; grind
    · rfl
  | k + 1, h => by
    rw [← dt_addmany M v hr k (by omega)]
    by_cases e : k = r
    · refine dt_congr fun i j _ _ => ?_
      unfold rwr
      split
      · simp only [sm, if_pos e]; grind
      · rfl
    · rw [← dt_add (rwr r (fun j => M r j - sm k (fun l => if l = r then 0 else v l * M l j)) M) (v k) (show k < n by omega) hr (fun e' => e e'.symm)]
      refine dt_congr fun i j _ _ => ?_
      unfold rwr
      by_cases c : i = r
      · simp only [if_pos c, sm, if_neg e, if_true]; grind
      · simp only [if_neg c]
theorem RE.turn (fl : Fld) {M N : Nat → Nat → Rat} {c : Rat} (h : RE n n M N c) : dt n (fun i j => N j i) = c * dt n (fun i j => M j i) := by
  induction h with
  | refl e => rw [dt_congr (M := fun i j => M j i) (fun i j hi hj => e j i hj hi)]; grind
  | @swap N c i r hi hr hne _ ih =>
    rw [show dt n (fun a b => N (sx i r b) a) = dt n (mm n (fun i j => N j i) (fun k b => idm (sx i r k) b)) from dt_congr fun a b _ hb => by
      show _ = sm n (fun k => N k a * (if b = sx i r k then 1 else 0))
      rw [sm_one _ (sx_lt hi hr hb) (fun k _ hk => by
        rw [if_neg (fun e => hk (by rw [e, sx_sx]))]; grind)]
      rw [if_pos (sx_sx i r b).symm]; grind]
    rw [dt_mul fl, show dt n (fun k b => (idm (sx i r k) b : Rat)) = - dt n idm from dt_swap idm hi hr hne, dt_one, ih]; grind
  | @scale N c r u hr _ ih =>
    rw [show dt n (fun a b => if b = r then u * N r a else N b a) = dt n (mm n (fun i j => N j i) (fun l c => if l = r then u * idm r c else idm l c)) from dt_congr fun a b _ hb => by
      show _ = sm n (fun k => N k a * (if k = r then u * (if b = r then 1 else 0) else (if b = k then 1 else 0)))
      rw [sm_one _ hb (fun k _ hk => by
        by_cases e : k = r
        · rw [if_pos e, if_neg (by omega)]; grind
        · rw [if_neg e, if_neg (by omega)]; grind)]
      by_cases e : b = r
      · rw [if_pos e, if_pos e, if_pos e, e]; grind
      · rw [if_neg e, if_neg e, if_pos rfl]; grind]
    rw [dt_mul fl, dt_scale _ u hr, dt_one, ih]; grind
  | @elim N c r v hr _ ih =>
    rw [show dt n (fun a b => if b = r then N r a else N b a - v b * N r a) = dt n (mm n (fun i j => N j i) (rwr r (fun j => idm r j - sm n (fun l => if l = r then 0 else v l * idm l j)) idm)) from dt_congr fun a b _ hb => by
      have hs : sm n (fun l => if l = r then (0 : Rat) else v l * idm l b) = if b = r then 0 else v b := by
        rw [sm_one _ hb (fun k _ hk => by
          unfold idm
          by_cases e : k = r
          · rw [if_pos e]
          · rw [if_neg e, if_neg (by omega)]; grind)]
        unfold idm
        split
        · rfl
        · rw [if_pos rfl]; grind
      show _ = sm n (fun k => N k a * (if k = r then (idm r b - sm n (fun l => if l = r then (0 : Rat) else v l * idm l b)) else idm k b))
      rw [hs]
      by_cases e : b = r
      · rw [if_pos e, if_pos e]
        rw [sm_one _ hb (fun k _ hk => by rw [if_neg (by omega)]; unfold idm; rw [if_neg (by omega)]; grind)]
        rw [if_pos e, e]; unfold idm; rw [if_pos rfl]; grind
      · rw [if_neg e, if_neg e]
        rw [sm_congr (g := fun k => (if k = r then -v b * N r a else 0) + (if k = b then N b a else 0)) (fun k _ => by
          unfold idm
          by_cases c1 : k = r
          · rw [if_pos c1, if_pos c1, if_neg (by omega), if_neg (by omega), c1]; grind
          · rw [if_neg c1, if_neg c1]
            by_cases c2 : k = b
            · rw [if_pos c2.symm, if_pos c2, c2]; grind
            · rw [if_neg (by omega), if_neg c2]; grind), sm_add]
        rw [sm_one _ hr (fun k _ hk => if_neg hk), sm_one _ hb (fun k _ hk => if_neg hk), if_pos rfl, if_pos rfl]; grind]
    rw [dt_mul fl, dt_addmany _ v hr n (Nat.le_refl n), dt_one, ih]; grind
  | rows _ e ih => rw [← ih]; exact (dt_congr fun i j hi hj => e j i hj hi).symm
theorem dt_turn (fl : Fld) (A : Nat → Nat → Rat) : dt n (fun i j => A j i) = dt n A := by
  obtain ⟨N, c, d, h1, h2, h3⟩ := comes_sq fl n A
  have h4 := h1.det
  have h5 := RE.turn fl h1
  rcases h3 with g | ⟨r, hr, g⟩
  · rw [dt_congr g, dt_one] at h4
    rw [dt_congr (N := idm) (fun i j hi hj => by
      rw [g j i hj hi]; unfold idm
      by_cases e : i = j
      · rw [if_pos e, if_pos e.symm]
      · rw [if_neg e, if_neg (fun e' => e e'.symm)]), dt_one] at h5
    grind
  · rw [dt_zero N hr g] at h4
    have h6 : dt n (fun i j => N j i) = 0 := by
      rw [show dt n (fun i j => N j i) = dt n (mm n (fun i j => N j i) (fun k b => if k = r then 0 else idm k b)) from dt_congr fun a b ha hb => by
        show _ = sm n (fun k => N k a * (if k = r then 0 else idm k b))
        rw [sm_one _ hb (fun k _ hk => by
          by_cases e : k = r
          · rw [if_pos e]; grind
          · rw [if_neg e]; unfold idm; rw [if_neg (by omega)]; grind)]
        by_cases e : b = r
        · rw [if_pos e, e, g a ha]; grind
        · rw [if_neg e]; unfold idm; rw [if_pos rfl]; grind]
      rw [dt_mul fl, dt_zero (r := r) (fun k b => if k = r then 0 else idm k b) hr (fun j _ => if_pos rfl)]; grind
    rw [h6] at h5
    grind
end
structure Ech (n r : Nat) (P : Nat → Nat) (N : Nat → Nat → Rat) : Prop where
  lt : ∀ i, i < r → P i < n
  mono : ∀ i j, i < j → j < r → P i < P j
  lead : ∀ i j, i < r → j < P i → N i j = 0
  nz : ∀ i, i < r → N i (P i) ≠ 0
theorem Rref.ech (fl : Fld) {m n r : Nat} {P : Nat → Nat} {N : Nat → Nat → Rat} (h : Rref m n r P N) : Ech n r P N :=
  ⟨h.lt, h.mono, h.lead, fun i hi => by rw [h.one i hi]; exact fl.one⟩
theorem Ech.among {s n r r' : Nat} {P Q : Nat → Nat} {N M : Nat → Nat → Rat} (h : Ech n r P N) (h' : Rref s n r' Q M) (hs : ∀ i, i < r → Comb s n M (N i)) : ∀ i, i < r → ∃ k, i ≤ k ∧ k < r' ∧ Q k = P i := by
  intro i
  induction i with
  | zero =>
    intro hi
    obtain ⟨k, hk, e⟩ := h'.first (hs 0 hi) (h.lt 0 hi) (fun j hj => h.lead 0 j hi hj) (h.nz 0 hi)
    exact ⟨k, by omega, hk, e⟩
  | succ i ih =>
    intro hi
    obtain ⟨k0, a0, b0, c0⟩ := ih (by omega)
    obtain ⟨k, hk, e⟩ := h'.first (hs (i + 1) hi) (h.lt (i + 1) hi) (fun j hj => h.lead (i + 1) j hi hj) (h.nz (i + 1) hi)
    refine ⟨k, Nat.le_of_not_lt fun hlt => ?_, hk, e⟩
    have hm := h.mono i (i + 1) (by omega) hi
    rcases Nat.lt_or_ge k k0 with c | c
    · have h5 := h'.mono k k0 c b0
      omega
    · have : k = k0 := by omega
      subst this
      omega
theorem Ech.le (fl : Fld) {s n r : Nat} {P : Nat → Nat} {N M : Nat → Nat → Rat} (h : Ech n r P N) (hs : ∀ i, i < r → Comb s n M (N i)) : r ≤ s := by
  obtain ⟨r', Q, M', c, h1, h2, hd⟩ := rref_exists fl s n M n (Nat.le_refl n)
  have hsp := h2.span hd
  have key := h.among h1 (fun i hi => (hs i hi).trans hsp.1)
  have hle := h1.le
  rcases Nat.eq_zero_or_pos r with e | e
  · omega
  · obtain ⟨k, a, b, -⟩ := key (r - 1) (by omega)
    omega
theorem mono_all {r : Nat} {P Q : Nat → Nat} (hP : ∀ i j, i < j → j < r → P i < P j) (hQ : ∀ i j, i < j → j < r → Q i < Q j) (h : ∀ i, i < r → ∃ k, i ≤ k ∧ k < r ∧ Q k = P i) : ∀ i, i < r → Q i = P i := by
  have key : ∀ d i, i + d + 1 = r → Q i = P i := by
    intro d
    induction d with
    | zero =>
      intro i hi
      obtain ⟨k, a, b, e⟩ := h i (by omega)
      rw [← e, show k = i by omega]
    | succ d ih =>
      intro i hi
      obtain ⟨k, a, b, e⟩ := h i (by omega)
      by_cases c : k = i
      · rw [← e, c]
      · have e2 := ih (i + 1) (by omega)
        have e3 := hP i (i + 1) (by omega) (by omega)
        rcases Nat.lt_or_ge (i + 1) k with c2 | c2
        · have := hQ (i + 1) k c2 b; omega
        · have : k = i + 1 := by omega
          subst this; omega
  intro i hi
  exact key (r - i - 1) i (by omega)
theorem Ech.rref (fl : Fld) {m n r : Nat} {P : Nat → Nat} {N A : Nat → Nat → Rat} (h : Ech n r P N) (hs : ∀ i, i < r → Comb m n A (N i)) (hA : ∀ i, i < m → Comb r n N (A i)) : ∃ M, Rref m n r P M ∧ SpanEq m n A M := by
  obtain ⟨r', Q, M, c, h1, h2, hd⟩ := rref_exists fl m n A n (Nat.le_refl n)
  have hsp := h2.span hd
  have key := h.among h1 (fun i hi => (hs i hi).trans hsp.1)
  have e1 : r' ≤ r := (h1.ech fl).le fl (fun i hi => (hsp.2 i (by have := h1.le; omega)).trans hA)
  have e2 : r ≤ r' := by
    rcases Nat.eq_zero_or_pos r with e | e
    · omega
    · obtain ⟨k, a, b, -⟩ := key (r - 1) (by omega)
      omega
  obtain rfl : r' = r := by omega
  exact ⟨M, h1.congrP (mono_all h.mono h1.mono key), hsp⟩
def Rk (m n : Nat) (A : Nat → Nat → Rat) (r : Nat) : Prop := (∃ N, ∀ i, i < m → Comb r n N (A i)) ∧ ∀ (s : Nat) (M : Nat → Nat → Rat), (∀ i, i < m → Comb s n M (A i)) → r ≤ s
theorem Rk.unique {m n r s : Nat} {A : Nat → Nat → Rat} (h : Rk m n A r) (h' : Rk m n A s) : r = s := by
  obtain ⟨N, hN⟩ := h.1
  obtain ⟨M, hM⟩ := h'.1
  have := h.2 s M hM
  have := h'.2 r N hN
  omega
theorem Rk.congr {m n r : Nat} {A B : Nat → Nat → Rat} (h : Rk m n A r) (e : ∀ i j, i < m → j < n → A i j = B i j) : Rk m n B r :=
  ⟨let ⟨N, hN⟩ := h.1; ⟨N, fun i hi => (hN i hi).congr fun j hj => (e i j hi hj).symm⟩, fun s M hM => h.2 s M fun i hi => (hM i hi).congr fun j hj => e i j hi hj⟩
theorem Rref.rows {m n r : Nat} {P : Nat → Nat} {N : Nat → Nat → Rat} (h : Rref m n r P N) {v : Nat → Rat} (hv : Comb m n N v) : Comb r n N v := ⟨fun i => v (P i), fun j hj => h.exp hv hj⟩
theorem Rref.rk (fl : Fld) {m n r : Nat} {P : Nat → Nat} {N A : Nat → Nat → Rat} (h : Rref m n r P N) (hA : SpanEq m n A N) : Rk m n A r :=
  ⟨⟨N, fun i hi => h.rows (hA.1 i hi)⟩, fun s M hM => (h.ech fl).le fl fun i hi => (hA.2 i (by have := h.le; omega)).trans hM⟩
theorem Rk.exists (fl : Fld) (m n : Nat) (A : Nat → Nat → Rat) : ∃ r P N, Rref m n r P N ∧ SpanEq m n A N ∧ Rk m n A r := by
  obtain ⟨r, P, N, c, h1, h2, hd⟩ := rref_exists fl m n A n (Nat.le_refl n)
  exact ⟨r, P, N, h1, h2.span hd, h1.rk fl (h2.span hd)⟩
theorem Rk.le_rows {m n r : Nat} {A : Nat → Nat → Rat} (h : Rk m n A r) : r ≤ m := h.2 m A fun _ hi => Comb.row hi
theorem Rk.turn_le {m n r s : Nat} {A : Nat → Nat → Rat} (h : Rk m n A r) (h' : Rk n m (fun j i => A i j) s) : s ≤ r := by
  obtain ⟨N, hN⟩ := h.1
  refine h'.2 r (fun k i => if hi : i < m then (hN i hi).choose k else 0) fun j hj => ⟨fun k => N k j, fun i hi => ?_⟩
  show A i j = _
  rw [(hN i hi).choose_spec j hj]
  exact sm_congr fun k _ => by simp only [dif_pos hi]; grind
theorem Rk.turn {m n r s : Nat} {A : Nat → Nat → Rat} (h : Rk m n A r) (h' : Rk n m (fun j i => A i j) s) : s = r := by
  have a := h.turn_le h'
  have b := h'.turn_le (A := fun j i => A i j) h
  omega
theorem Rk.mul_le_l {m n l r s : Nat} {A B : Nat → Nat → Rat} (h : Rk m n A r) (h' : Rk m l (mm n A B) s) : s ≤ r := by
  obtain ⟨N, hN⟩ := h.1
  refine h'.2 r (mm n N B) fun i hi => ?_
  obtain ⟨a, ha⟩ := hN i hi
  refine ⟨a, fun j hj => ?_⟩
  show sm n (fun k => A i k * B k j) = sm r (fun t => a t * sm n (fun k => N t k * B k j))
  rw [sm_congr (g := fun k => sm r (fun t => a t * N t k) * B k j) (fun k hk => by rw [ha k hk])]
  rw [sm_congr (g := fun k => sm r (fun t => a t * N t k * B k j)) (fun k hk => by rw [← sm_mul_r]), sm_comm]
  exact sm_congr fun t _ => by rw [← sm_mul]; exact sm_congr fun k _ => by grind
theorem Rk.mul_le_r {m n l r s : Nat} {A B : Nat → Nat → Rat} (h : Rk n l B r) (h' : Rk m l (mm n A B) s) : s ≤ r := by
  obtain ⟨N, hN⟩ := h.1
  exact h'.2 r N fun i _ => Comb.trans (M := B) ⟨fun k => A i k, fun j _ => rfl⟩ hN
theorem Comb.two {n r s : Nat} {N M : Nat → Nat → Rat} {u v : Nat → Rat} (hu : Comb r n N u) (hv : Comb s n M v) : Comb (r + s) n (fun k j => if k < r then N k j else M (k - r) j) (fun j => u j + v j) := by
  obtain ⟨a, ha⟩ := hu
  obtain ⟨b, hb⟩ := hv
  refine ⟨fun k => if k < r then a k else b (k - r), fun j hj => ?_⟩
  show u j + v j = _
  rw [sm_split, ha j hj, hb j hj]
  congr 1
  · exact sm_congr fun k hk => by simp only [if_pos hk]
  · exact sm_congr fun k _ => by
      simp only [if_neg (show ¬ r + k < r by omega), show r + k - r = k by omega]
theorem Rk.det_zero (fl : Fld) {n r : Nat} {A : Nat → Nat → Rat} (h : Rk n n A r) (hr : r < n) : dt n A = 0 := by
  obtain ⟨N, hN⟩ := h.1
  obtain ⟨C, hC⟩ : ∃ C : Nat → Nat → Rat, ∀ i, i < n → ∀ j, j < n → A i j = sm r (fun k => C i k * N k j) :=
    ⟨fun i => if hi : i < n then (hN i hi).choose else fun _ => 0, fun i hi => by simp only [dif_pos hi]; exact (hN i hi).choose_spec⟩
  rw [dt_congr (N := mm n C (fun k j => if k < r then N k j else 0)) (fun i j hi hj => by
    rw [hC i hi j hj]
    show _ = sm n (fun k => C i k * (if k < r then N k j else 0))
    rw [show n = r + (n - r) by omega, sm_split, sm_zero (n := n - r) (fun k _ => by simp only [if_neg (show ¬ r + k < r by omega)]; grind)]
    rw [show sm r (fun k => C i k * (if k < r then N k j else 0)) = sm r (fun k => C i k * N k j) from sm_congr fun k hk => by simp only [if_pos hk]]; grind), dt_mul fl, dt_zero (r := r) (fun k j => if k < r then N k j else 0) hr (fun j _ => if_neg (Nat.lt_irrefl r))]; grind
theorem Rk.det_ne (fl : Fld) {n : Nat} {A : Nat → Nat → Rat} (h : Rk n n A n) : dt n A ≠ 0 := by
  obtain ⟨r, P, N, c, h1, h2, d, hd⟩ := rref_exists fl n n A n (Nat.le_refl n)
  obtain rfl : r = n := (h1.rk fl (h2.span ⟨d, hd⟩)).unique h
  have h3 := h2.det
  rw [dt_congr (rref_id h1), dt_one] at h3
  intro e
  rw [e] at h3
  exact fl.one (by grind)
theorem Rref.row_basis {m n r : Nat} {Q : Nat → Nat} {A N : Nat → Nat → Rat} (h : Rref n m r Q N) (hA : SpanEq n m (fun j i => A i j) N) : ∀ i, i < m → Comb r n (fun k => A (Q k)) (A i) := by
  intro i hi
  refine ⟨fun k => N k i, fun j hj => ?_⟩
  have := h.exp (hA.1 j hj) hi
  rw [show A i j = (fun j i => A i j) j i from rfl, this]
  exact sm_congr fun k _ => by grind
theorem core_det (fl : Fld) {m n r s : Nat} {P Q : Nat → Nat} {A N M : Nat → Nat → Rat} (h : Rref m n r P N) (hA : SpanEq m n A N) (h' : Rref n m s Q M) (hT : SpanEq n m (fun j i => A i j) M) : s = r ∧ dt r (fun i j => A (Q i) (P j)) ≠ 0 := by
  have k1 := h.rk fl hA
  have k2 := h'.rk fl hT
  obtain rfl : s = r := k1.turn k2
  refine ⟨rfl, ?_⟩
  obtain ⟨t, P', N', g1, g2, g3⟩ := Rk.exists fl s s (fun i j => A (Q i) (P j))
  have hle := g3.le_rows
  have hge : s ≤ t := by
    obtain ⟨Y, hY⟩ := g3.1
    refine k1.2 t (fun k j => sm s (fun l => Y k l * N l j)) fun i hi => ?_
    refine (h'.row_basis hT i hi).trans fun k hk => ?_
    obtain ⟨y, hy⟩ := hY k hk
    have hQ : Q k < m := h'.lt k hk
    refine ⟨y, fun j hj => ?_⟩
    show A (Q k) j = sm t (fun q => y q * sm s (fun l => Y q l * N l j))
    rw [h.exp (hA.1 (Q k) hQ) hj, sm_congr (n := t) (g := fun q => sm s (fun l => y q * (Y q l * N l j))) (fun q _ => by rw [sm_mul]), sm_comm]
    refine sm_congr fun l hl => ?_
    rw [show A (Q k) (P l) = sm t (fun q => y q * Y q l) from hy l hl, ← sm_mul_r]
    exact sm_congr fun q _ => by grind
  obtain rfl : t = s := by omega
  exact g3.det_ne fl
theorem more_det (fl : Fld) {m n r k : Nat} {A : Nat → Nat → Rat} (h : Rk m n A r) (hk : r < k) {Q P : Nat → Nat} (hQ : ∀ i, i < k → Q i < m) (hP : ∀ i, i < k → P i < n) : dt k (fun i j => A (Q i) (P j)) = 0 := by
  obtain ⟨s, P', N', -, -, g3⟩ := Rk.exists fl k k (fun i j => A (Q i) (P j))
  obtain ⟨N, hN⟩ := h.1
  refine g3.det_zero fl (Nat.lt_of_le_of_lt (g3.2 r (fun t j => N t (P j)) fun i hi => ?_) hk)
  obtain ⟨a, ha⟩ := hN (Q i) (hQ i hi)
  exact ⟨a, fun j hj => ha (P j) (hP j hj)⟩
end Go.Proofs.Ytejliecmdkmgiaa.laQ
namespace Go.Proofs.Ytejliecmdkmgiaa.laZ
def sm : Nat → (Nat → Int) → Int
  | 0, _ => 0
  | n + 1, f => sm n f + f n
theorem sm_congr {n : Nat} {f g : Nat → Int} (h : ∀ i, i < n → f i = g i) : sm n f = sm n g := by
  induction n with
  | zero => rfl
  | succ n ih => simp only [sm]; rw [ih (fun i hi => h i (by omega)), h n (by omega)]
theorem sm_zero {n : Nat} {f : Nat → Int} (h : ∀ i, i < n → f i = 0) : sm n f = 0 := by
  induction n with
  | zero => rfl
  | succ n ih => simp only [sm]; rw [ih (fun i hi => h i (by omega)), h n (by omega)]; grind
theorem sm_add (n : Nat) (f g : Nat → Int) : sm n (fun i => f i + g i) = sm n f + sm n g := by
  induction n with
  | zero => simp only [sm]; grind
  | succ n ih => simp only [sm]; rw [ih]; grind
theorem sm_mul (n : Nat) (a : Int) (f : Nat → Int) : sm n (fun i => a * f i) = a * sm n f := by
  induction n with
  | zero => simp only [sm]; grind
  | succ n ih => simp only [sm]; rw [ih]; grind
theorem sm_mul_r (n : Nat) (a : Int) (f : Nat → Int) : sm n (fun i => f i * a) = sm n f * a := by
  induction n with
  | zero => simp only [sm]; grind
  | succ n ih => simp only [sm]; rw [ih]; grind
theorem sm_one {n k : Nat} (f : Nat → Int) (hk : k < n) (h : ∀ i, i < n → i ≠ k → f i = 0) : sm n f = f k := by
  induction n with
  | zero => omega
  | succ n ih =>
    simp only [sm]
    by_cases e : k = n
    · subst e
      rw [sm_zero (fun i hi => h i (by omega) (by omega))]; grind
    · rw [ih (by omega) (fun i hi => h i (by omega)), h n (by omega) (fun e' => e e'.symm)]; grind
theorem sm_comm (m n : Nat) (f : Nat → Nat → Int) : sm m (fun i => sm n (fun j => f i j)) = sm n (fun j => sm m (fun i => f i j)) := by
  induction m with
  | zero => simp only [sm]; exact (sm_zero (fun _ _ => rfl)).symm
  | succ m ih => simp only [sm]; rw [ih, ← sm_add]
theorem sm_split (m n : Nat) (f : Nat → Int) : sm (m + n) f = sm m f + sm n (fun i => f (m + i)) := by
  induction n with
  | zero => simp only [sm, Nat.add_zero]; grind
  | succ n ih => rw [← Nat.add_assoc]; simp only [sm]; rw [ih]; grind
def Comb (m n : Nat) (N : Nat → Nat → Int) (v : Nat → Int) : Prop := ∃ a : Nat → Int, ∀ j, j < n → v j = sm m (fun i => a i * N i j)
theorem Comb.row {m n : Nat} {N : Nat → Nat → Int} {i : Nat} (hi : i < m) : Comb m n N (N i) := by
  refine ⟨fun k => if k = i then 1 else 0, fun j _ => ?_⟩
  rw [sm_one (fun k => (if k = i then (1 : Int) else 0) * N k j) hi (fun k _ hne => by simp only [if_neg hne]; grind)]
  simp only [if_true]; grind
theorem Comb.zero {m n : Nat} {N : Nat → Nat → Int} {v : Nat → Int} (h : ∀ j, j < n → v j = 0) : Comb m n N v :=
  ⟨fun _ => 0, fun j hj => by rw [h j hj, sm_zero (fun _ _ => by grind)]⟩
theorem Comb.add {m n : Nat} {N : Nat → Nat → Int} {u v : Nat → Int} (hu : Comb m n N u) (hv : Comb m n N v) : Comb m n N (fun j => u j + v j) := by
  obtain ⟨a, ha⟩ := hu
  obtain ⟨b, hb⟩ := hv
  refine ⟨fun i => a i + b i, fun j hj => ?_⟩
  show u j + v j = _
  rw [ha j hj, hb j hj, ← sm_add]
  exact sm_congr fun i _ => by grind
theorem Comb.scale {m n : Nat} {N : Nat → Nat → Int} {u : Nat → Int} (c : Int) (hu : Comb m n N u) : Comb m n N (fun j => c * u j) := by
  obtain ⟨a, ha⟩ := hu
  refine ⟨fun i => c * a i, fun j hj => ?_⟩
  show c * u j = _
  rw [ha j hj, ← sm_mul]
  exact sm_congr fun i _ => by grind
theorem Comb.congr {m n : Nat} {N : Nat → Nat → Int} {u v : Nat → Int} (hu : Comb m n N u) (h : ∀ j, j < n → v j = u j) : Comb m n N v := by
  obtain ⟨a, ha⟩ := hu
  exact ⟨a, fun j hj => by rw [h j hj, ha j hj]⟩
theorem Comb.sum {m n l : Nat} {N M : Nat → Nat → Int} (h : ∀ i, i < l → Comb m n N (M i)) (a : Nat → Int) : Comb m n N (fun j => sm l (fun i => a i * M i j)) := by
  induction l with
  | zero => exact Comb.zero fun _ _ => rfl
  | succ l ih => exact ((ih fun i hi => h i (by omega)).add ((h l (by omega)).scale (a l))).congr fun _ _ => rfl
theorem Comb.trans {m n l : Nat} {N M : Nat → Nat → Int} {v : Nat → Int} (hv : Comb l n M v) (h : ∀ i, i < l → Comb m n N (M i)) : Comb m n N v := by
  obtain ⟨a, ha⟩ := hv
  exact (Comb.sum h a).congr ha
structure Rref (m n r : Nat) (P : Nat → Nat) (N : Nat → Nat → Int) : Prop where
  le : r ≤ m
  lt : ∀ i, i < r → P i < n
  mono : ∀ i j, i < j → j < r → P i < P j
  lead : ∀ i j, i < r → j < P i → N i j = 0
  one : ∀ i, i < r → N i (P i) = 1
  col : ∀ i k, i < m → k < r → i ≠ k → N i (P k) = 0
  rest : ∀ i j, r ≤ i → i < m → j < n → N i j = 0
section
variable {m n r : Nat} {P : Nat → Nat} {N : Nat → Nat → Int}
theorem Rref.coef (h : Rref m n r P N) {a v : Nat → Int} (hv : ∀ j, j < n → v j = sm m (fun i => a i * N i j)) {k : Nat} (hk : k < r) : v (P k) = a k := by
  rw [hv _ (h.lt k hk), sm_one (fun i => a i * N i (P k)) (show k < m by have := h.le; omega) (fun i hi hne => by simp only [h.col i k hi hk hne]; grind), h.one k hk]; grind
theorem Rref.exp (h : Rref m n r P N) {v : Nat → Int} (hv : Comb m n N v) {j : Nat} (hj : j < n) : v j = sm r (fun i => v (P i) * N i j) := by
  obtain ⟨a, ha⟩ := hv
  have hle := h.le
  rw [ha j hj, show m = r + (m - r) by omega, sm_split, sm_zero (n := m - r) (fun i hi => by rw [h.rest (r + i) j (by omega) (by omega) hj]; grind)]
  rw [sm_congr (fun i hi => by rw [← h.coef ha hi])]; grind
theorem Rref.first (h : Rref m n r P N) {v : Nat → Int} (hv : Comb m n N v) {q : Nat} (hq : q < n) (h0 : ∀ j, j < q → v j = 0) (h1 : v q ≠ 0) : ∃ i, i < r ∧ P i = q := by
  refine Classical.byContradiction fun hno => h1 ?_
  rw [h.exp hv hq]
  refine sm_zero fun i hi => ?_
  rcases Nat.lt_trichotomy (P i) q with c | c | c
  · rw [h0 _ c]; grind
  · exact absurd ⟨i, hi, c⟩ hno
  · rw [h.lead i q hi c]; grind
end
theorem mono_eq {r r' : Nat} {P P' : Nat → Nat} (hm : ∀ i j, i < j → j < r → P i < P j) (hm' : ∀ i j, i < j → j < r' → P' i < P' j)
    (h : ∀ i, i < r → ∃ k, k < r' ∧ P' k = P i) (h' : ∀ i, i < r' → ∃ k, k < r ∧ P k = P' i) : r = r' ∧ ∀ i, i < r → P i = P' i := by
  have key : ∀ i, i < r → i < r' → P i = P' i := by
    intro i
    induction i using Nat.strongRecOn with
    | _ i ih =>
      intro hi hi'
      obtain ⟨k, hk, ek⟩ := h i hi
      obtain ⟨l, hl, el⟩ := h' i hi'
      have k1 : i ≤ k := Nat.le_of_not_lt fun hlt => by
        have := ih k hlt (by omega) hk
        have := hm k i hlt hi; omega
      have l1 : i ≤ l := Nat.le_of_not_lt fun hlt => by
        have := ih l hlt hl (by omega)
        have := hm' l i hlt hi'; omega
      have a1 : P' i ≤ P i := by
        rcases Nat.lt_or_ge i k with c | c
        · have := hm' i k c hk; omega
        · have : i = k := by omega
          subst this; omega
      have a2 : P i ≤ P' i := by
        rcases Nat.lt_or_ge i l with c | c
        · have := hm i l c hl; omega
        · have : i = l := by omega
          subst this; omega
      omega
  have e : r = r' := by
    rcases Nat.lt_trichotomy r r' with c | c | c
    · obtain ⟨k, hk, ek⟩ := h' r c
      have := key k hk (by omega)
      have := hm' k r hk c; omega
    · exact c
    · obtain ⟨k, hk, ek⟩ := h r' c
      have := key k (by omega) hk
      have := hm k r' hk c; omega
  exact ⟨e, fun i hi => key i hi (by omega)⟩
theorem Rref.unique (h01 : (1 : Int) ≠ 0) {m m' n r r' : Nat} {P P' : Nat → Nat} {N N' : Nat → Nat → Int} (h : Rref m n r P N) (h' : Rref m' n r' P' N')
    (hs : ∀ i, i < r → Comb m' n N' (N i)) (hs' : ∀ i, i < r' → Comb m n N (N' i)) :
    r = r' ∧ (∀ i, i < r → P i = P' i) ∧ ∀ i j, i < r → j < n → N i j = N' i j := by
  obtain ⟨e1, e2⟩ := mono_eq h.mono h'.mono
    (fun i hi => h'.first (hs i hi) (h.lt i hi) (fun j hj => h.lead i j hi hj) (by rw [h.one i hi]; exact h01))
    (fun i hi => h.first (hs' i hi) (h'.lt i hi) (fun j hj => h'.lead i j hi hj) (by rw [h'.one i hi]; exact h01))
  subst e1
  refine ⟨rfl, e2, fun i j hi hj => ?_⟩
  have hle := h.le
  rw [h.exp (Comb.row (by omega)) hj, h.exp (hs' i hi) hj]
  refine sm_congr fun k hk => ?_
  by_cases e : i = k
  · subst e; rw [h.one i hi, e2 i hi, h'.one i hi]
  · rw [h.col i k (by omega) hk e, e2 k hk, h'.col i k (by have := h'.le; omega) hk e]
end Go.Proofs.Ytejliecmdkmgiaa.laZ
namespace Go.Proofs.Ytejliecmdkmgiaa.laZ
def SpanEq (m n : Nat) (M N : Nat → Nat → Int) : Prop := (∀ i, i < m → Comb m n N (M i)) ∧ (∀ i, i < m → Comb m n M (N i))
section
variable {m n : Nat} {M N Q : Nat → Nat → Int}
theorem SpanEq.symm (h : SpanEq m n M N) : SpanEq m n N M := ⟨h.2, h.1⟩
theorem SpanEq.trans (h : SpanEq m n M N) (g : SpanEq m n N Q) : SpanEq m n M Q :=
  ⟨fun i hi => (h.1 i hi).trans g.1, fun i hi => (g.2 i hi).trans h.2⟩
theorem SpanEq.rows (h : ∀ i j, i < m → j < n → M i j = N i j) : SpanEq m n M N :=
  ⟨fun i hi => (Comb.row hi).congr fun j hj => h i j hi hj, fun i hi => (Comb.row hi).congr fun j hj => (h i j hi hj).symm⟩
theorem SpanEq.refl (m n : Nat) (M : Nat → Nat → Int) : SpanEq m n M M := SpanEq.rows fun _ _ _ _ => rfl
def sx (i j k : Nat) : Nat := if k = i then j else if k = j then i else k
theorem sx_lt {i j k m : Nat} (hi : i < m) (hj : j < m) (hk : k < m) : sx i j k < m := by unfold sx; (repeat' split) <;> omega
theorem sx_sx (i j k : Nat) : sx i j (sx i j k) = k := by unfold sx; (repeat' split) <;> omega
theorem SpanEq.swap {i r : Nat} (hi : i < m) (hr : r < m) : SpanEq m n N (fun l => N (sx i r l)) :=
  ⟨fun l hl => (Comb.row (N := fun l => N (sx i r l)) (sx_lt hi hr hl)).congr fun c _ => by simp only [sx_sx], fun l hl => Comb.row (sx_lt hi hr hl)⟩
theorem SpanEq.scale {r : Nat} {u v : Int} (hr : r < m) (huv : u * v = 1) : SpanEq m n N (fun l c => if l = r then u * N r c else N l c) := by
  refine ⟨fun l hl => ?_, fun l hl => ?_⟩
  · have h := Comb.row (n := n) (N := fun l c => if l = r then u * N r c else N l c) hl
    by_cases e : l = r
    · subst e
      exact (h.scale v).congr fun c _ => by simp only [if_true]; grind
    · exact h.congr fun c _ => by simp only [if_neg e]
  · by_cases e : l = r
    · subst e
      exact ((Comb.row (n := n) (N := N) hr).scale u).congr fun c _ => by simp only [if_true]
    · exact (Comb.row (n := n) (N := N) hl).congr fun c _ => by simp only [if_neg e]
theorem SpanEq.elim {r : Nat} (hr : r < m) (q : Nat → Int) : SpanEq m n N (fun l c => if l = r then N r c else N l c - q l * N r c) := by
  refine ⟨fun l hl => ?_, fun l hl => ?_⟩
  · have h := Comb.row (n := n) (N := fun l c => if l = r then N r c else N l c - q l * N r c) hl
    have h2 := Comb.row (n := n) (N := fun l c => if l = r then N r c else N l c - q l * N r c) hr
    by_cases e : l = r
    · subst e
      exact h.congr fun c _ => by simp only [if_true]
    · exact (h.add (h2.scale (q l))).congr fun c _ => by simp only [if_neg e, if_true]; grind
  · by_cases e : l = r
    · subst e
      exact (Comb.row (n := n) (N := N) hr).congr fun c _ => by simp only [if_true]
    · exact ((Comb.row (n := n) (N := N) hl).add ((Comb.row (n := n) (N := N) hr).scale (- q l))).congr fun c _ => by simp only [if_neg e]; grind
theorem Comb.left {n' : Nat} {v : Nat → Int} (h : Comb m n N v) (hn : n' ≤ n) : Comb m n' N v := by
  obtain ⟨a, ha⟩ := h
  exact ⟨a, fun j hj => ha j (by omega)⟩
theorem SpanEq.left {n' : Nat} (h : SpanEq m n M N) (hn : n' ≤ n) : SpanEq m n' M N := ⟨fun i hi => (h.1 i hi).left hn, fun i hi => (h.2 i hi).left hn⟩
theorem Comb.right {n' k : Nat} {v : Nat → Int} (h : Comb m n N v) (hn : k + n' ≤ n) : Comb m n' (fun i j => N i (k + j)) (fun j => v (k + j)) := by
  obtain ⟨a, ha⟩ := h
  exact ⟨a, fun j hj => ha (k + j) (by omega)⟩
end
section
variable {m j r : Nat} {P : Nat → Nat} {N : Nat → Nat → Int}
theorem Rref.start (m : Nat) (P : Nat → Nat) (N : Nat → Nat → Int) : Rref m 0 0 P N :=
  ⟨by omega, fun i hi => absurd hi (by omega), fun i k _ hk => absurd hk (by omega), fun i _ hi => absurd hi (by omega), fun i hi => absurd hi (by omega), fun i k _ hk => absurd hk (by omega), fun i c _ _ hc => absurd hc (by omega)⟩
theorem Rref.congrP (h : Rref m j r P N) {P' : Nat → Nat} (e : ∀ i, i < r → P i = P' i) : Rref m j r P' N :=
  ⟨h.le, fun i hi => by rw [← e i hi]; exact h.lt i hi, fun i k hik hk => by rw [← e i (by omega), ← e k hk]; exact h.mono i k hik hk, fun i c hi hc => h.lead i c hi (by rw [e i hi]; exact hc),
   fun i hi => by rw [← e i hi]; exact h.one i hi, fun i k hi hk hne => by rw [← e k hk]; exact h.col i k hi hk hne, h.rest⟩
theorem Rref.congr (h : Rref m j r P N) {N' : Nat → Nat → Int} (e : ∀ i c, i < m → c < j → N i c = N' i c) : Rref m j r P N' :=
  ⟨h.le, h.lt, h.mono, fun i c hi hc => by rw [← e i c (by have := h.le; omega) (by have := h.lt i hi; omega)]; exact h.lead i c hi hc,
   fun i hi => by rw [← e i _ (by have := h.le; omega) (h.lt i hi)]; exact h.one i hi, fun i k hi hk hne => by rw [← e i _ hi (h.lt k hk)]; exact h.col i k hi hk hne,
   fun i c hi hm hc => by rw [← e i c hm hc]; exact h.rest i c hi hm hc⟩
theorem Rref.step_zero (h : Rref m j r P N) (hz : ∀ i, r ≤ i → i < m → N i j = 0) : Rref m (j + 1) r P N :=
  ⟨h.le, fun i hi => by have := h.lt i hi; omega, h.mono, h.lead, h.one, h.col, fun i c hi hm hc => by
    by_cases e : c = j
    · rw [e]; exact hz i hi hm
    · exact h.rest i c hi hm (by omega)⟩
theorem Rref.step_pivot (h : Rref m j r P N) (hr : r < m) {N' : Nat → Nat → Int} (h1 : N' r j = 1) (h0 : ∀ i, i < m → i ≠ r → N' i j = 0) (ha : ∀ i c, i < r → c < j → N' i c = N i c) (hb : ∀ i c, r ≤ i → i < m → c < j → N' i c = 0) :
    Rref m (j + 1) (r + 1) (fun i => if i = r then j else P i) N' := by
  have hl := h.lt
  refine ⟨by omega, fun i hi => ?_, fun i k hik hk => ?_, fun i c hi hc => ?_, fun i hi => ?_, fun i k hi hk hne => ?_, fun i c hi hm hc => ?_⟩
  · show (if i = r then j else P i) < j + 1
    split
    · omega
    · have := hl i (by omega); omega
  · show (if i = r then j else P i) < (if k = r then j else P k)
    rw [if_neg (by omega)]
    split
    · exact hl i (by omega)
    · exact h.mono i k hik (by omega)
  · by_cases e : i = r
    · rw [if_pos e] at hc
      exact hb i c (by omega) (by omega) hc
    · rw [if_neg e] at hc
      have := hl i (by omega)
      rw [ha i c (by omega) (by omega)]; exact h.lead i c (by omega) hc
  · by_cases e : i = r
    · rw [if_pos e, e]; exact h1
    · rw [if_neg e, ha i _ (by omega) (hl i (by omega))]; exact h.one i (by omega)
  · by_cases e : k = r
    · rw [if_pos e]; exact h0 i hi (by omega)
    · rw [if_neg e]
      have := hl k (by omega)
      by_cases e2 : i < r
      · rw [ha i _ e2 this]; exact h.col i k hi (by omega) hne
      · exact hb i _ (by omega) hi this
  · by_cases e : c = j
    · rw [e]; exact h0 i hm (by omega)
    · exact hb i c (by omega) hm (by omega)
end
end Go.Proofs.Ytejliecmdkmgiaa.laZ
namespace Go.Proofs.Ytejliecmdkmgiaa.laZ
def sk (i k : Nat) : Nat := if k < i then k else k + 1
def us (i r : Nat) : Nat := if r < i then r else r - 1
theorem sk_ne (i k : Nat) : sk i k ≠ i := by unfold sk; split <;> omega
theorem sk_eq {i r k : Nat} (h : r ≠ i) : sk i k = r ↔ k = us i r := by unfold sk us; (repeat' split) <;> omega
theorem sk_lt {i k n : Nat} (hk : k < n) : sk i k < n + 1 := by unfold sk; split <;> omega
theorem us_lt {i r n : Nat} (hr : r < n + 1) (hi : i < n + 1) (h : r ≠ i) : us i r < n := by unfold us; split <;> omega
def mnr {α : Type} (i : Nat) (M : Nat → Nat → α) : Nat → Nat → α := fun r c => M (sk i r) (c + 1)
def sg (i : Nat) : Int := if i % 2 = 0 then 1 else -1
theorem sg_succ (i : Nat) : (sg (i + 1) : Int) = - sg i := by
  unfold sg
  by_cases h : i % 2 = 0
  · rw [if_pos h, if_neg (by omega)]
  · rw [if_neg h, if_pos (by omega)]; grind
def dt : Nat → (Nat → Nat → Int) → Int
  | 0, _ => 1
  | n + 1, M => sm (n + 1) (fun i => sg i * M i 0 * dt n (mnr i M))
theorem dt_congr : ∀ {n : Nat} {M N : Nat → Nat → Int}, (∀ i j, i < n → j < n → M i j = N i j) → dt n M = dt n N
  | 0, _, _, _ => rfl
  | n + 1, M, N, h => sm_congr fun i hi => by
    rw [h i 0 hi (by omega), dt_congr (n := n) (M := mnr i M) (N := mnr i N) fun r c hr hc => h _ _ (sk_lt hr) (by omega)]
def rwr {α : Type} (r : Nat) (v : Nat → α) (M : Nat → Nat → α) : Nat → Nat → α := fun i j => if i = r then v j else M i j
theorem rwr_at {α : Type} (r : Nat) (v : Nat → α) (M : Nat → Nat → α) (j : Nat) : rwr r v M r j = v j := if_pos rfl
theorem rwr_ne {α : Type} {r i : Nat} (v : Nat → α) (M : Nat → Nat → α) (j : Nat) (h : i ≠ r) : rwr r v M i j = M i j := if_neg h
theorem rwr_self {α : Type} (r : Nat) (M : Nat → Nat → α) : rwr r (M r) M = M := by
  funext i j; unfold rwr; split
  · rename_i e; rw [e]
  · rfl
theorem rwr_comm {α : Type} {r s : Nat} (u v : Nat → α) (M : Nat → Nat → α) (h : r ≠ s) : rwr r u (rwr s v M) = rwr s v (rwr r u M) := by
  funext i j; unfold rwr
  by_cases e : i = r
  · rw [if_pos e, if_neg (by omega), if_pos e]
  · rw [if_neg e, if_neg e]
theorem mnr_rwr_same {α : Type} (r : Nat) (v : Nat → α) (M : Nat → Nat → α) : mnr r (rwr r v M) = mnr r M := by
  funext i j; unfold mnr; exact rwr_ne _ _ _ (sk_ne r i)
theorem mnr_rwr {α : Type} {i r : Nat} (v : Nat → α) (M : Nat → Nat → α) (h : r ≠ i) : mnr i (rwr r v M) = rwr (us i r) (fun j => v (j + 1)) (mnr i M) := by
  funext k j
  show (if sk i k = r then _ else _) = (if k = us i r then _ else _)
  by_cases e : k = us i r
  · rw [if_pos e, if_pos ((sk_eq h).2 e)]
  · rw [if_neg e, if_neg (fun e' => e ((sk_eq h).1 e'))]; rfl
theorem dt_lin : ∀ {n r : Nat} (M : Nat → Nat → Int) (a b : Int) (u v : Nat → Int), r < n → dt n (rwr r (fun j => a * u j + b * v j) M) = a * dt n (rwr r u M) + b * dt n (rwr r v M)
  | 0, _, _, _, _, _, _, h => absurd h (by omega)
  | n + 1, r, M, a, b, u, v, h => by
    show sm (n + 1) _ = a * sm (n + 1) _ + b * sm (n + 1) _
    rw [← sm_mul, ← sm_mul, ← sm_add]
    refine sm_congr fun i hi => ?_
    show sg i * rwr r (fun j => a * u j + b * v j) M i 0 * dt n (mnr i (rwr r (fun j => a * u j + b * v j) M)) = a * (sg i * rwr r u M i 0 * dt n (mnr i (rwr r u M))) + b * (sg i * rwr r v M i 0 * dt n (mnr i (rwr r v M)))
    by_cases e : i = r
    · subst e
      rw [mnr_rwr_same, mnr_rwr_same, mnr_rwr_same, rwr_at, rwr_at, rwr_at]; grind
    · rw [rwr_ne _ _ _ e, rwr_ne _ _ _ e, rwr_ne _ _ _ e, mnr_rwr _ _ (fun e' => e e'.symm), mnr_rwr _ _ (fun e' => e e'.symm), mnr_rwr _ _ (fun e' => e e'.symm)]
      rw [dt_lin (mnr i M) a b (fun j => u (j + 1)) (fun j => v (j + 1)) (us_lt h hi (fun e' => e e'.symm))]; grind
theorem sm_two {n k : Nat} (f : Nat → Int) (hk : k + 1 < n) (h : ∀ i, i < n → i ≠ k → i ≠ k + 1 → f i = 0) : sm n f = f k + f (k + 1) := by
  induction n with
  | zero => omega
  | succ n ih =>
    simp only [sm]
    by_cases e : k + 1 = n
    · subst e
      rw [sm_one f (show k < k + 1 by omega) (fun i hi hne => h i (by omega) hne (by omega))]
    · rw [ih (by omega) (fun i hi => h i (by omega)), h n (by omega) (by omega) (by omega)]; grind
theorem dt_alt1 : ∀ {n k : Nat} (M : Nat → Nat → Int), k + 1 < n → (∀ j, j < n → M k j = M (k + 1) j) → dt n M = 0
  | 0, _, _, h, _ => absurd h (by omega)
  | n + 1, k, M, h, he => by
    show sm (n + 1) _ = 0
    rw [sm_two (k := k) _ h (fun i hi h1 h2 => ?_)]
    · have e1 : dt n (mnr k M) = dt n (mnr (k + 1) M) := dt_congr fun r c hr hc => by
        show M (sk k r) (c + 1) = M (sk (k + 1) r) (c + 1)
        by_cases e : r = k
        · subst e
          rw [show sk r r = r + 1 by unfold sk; rw [if_neg (by omega)], show sk (r + 1) r = r by unfold sk; rw [if_pos (by omega)], he _ (by omega)]
        · rw [show sk k r = sk (k + 1) r by unfold sk; (repeat' split) <;> omega]
      rw [e1, he 0 (by omega), sg_succ]; grind
    · have hlt : us i k + 1 < n := by unfold us; split <;> omega
      rw [dt_alt1 (k := us i k) (mnr i M) hlt (fun j hj => by
        show M (sk i (us i k)) (j + 1) = M (sk i (us i k + 1)) (j + 1)
        rw [(sk_eq (fun e => h1 e.symm)).2 rfl, show sk i (us i k + 1) = k + 1 by unfold sk us; (repeat' split) <;> omega]
        exact he _ (by omega))]
      grind
theorem dt_swap1 {n k : Nat} (M : Nat → Nat → Int) (h : k + 1 < n) : dt n (rwr k (M (k + 1)) (rwr (k + 1) (M k) M)) = - dt n M := by
  have key : ∀ u v : Nat → Int, dt n (rwr k u (rwr (k + 1) v M)) + dt n (rwr k v (rwr (k + 1) u M)) = 0 := fun u v => by
    have h0 := dt_alt1 (k := k) (rwr k (fun j => 1 * u j + 1 * v j) (rwr (k + 1) (fun j => 1 * u j + 1 * v j) M)) h (fun j _ => by rw [rwr_at, rwr_ne _ _ _ (by omega), rwr_at])
    have hu := dt_alt1 (k := k) (rwr k u (rwr (k + 1) u M)) h (fun j _ => by rw [rwr_at, rwr_ne _ _ _ (by omega), rwr_at])
    have hv := dt_alt1 (k := k) (rwr k v (rwr (k + 1) v M)) h (fun j _ => by rw [rwr_at, rwr_ne _ _ _ (by omega), rwr_at])
    rw [dt_lin _ 1 1 u v (by omega), rwr_comm _ _ _ (by omega), rwr_comm (r := k) v _ _ (by omega), dt_lin _ 1 1 u v (by omega), dt_lin _ 1 1 u v (by omega), rwr_comm (s := k) _ _ _ (by omega), rwr_comm (s := k) _ _ _ (by omega), rwr_comm (s := k) _ _ _ (by omega), rwr_comm (s := k) _ _ _ (by omega), hu, hv] at h0
    grind
  have h1 := key (M (k + 1)) (M k)
  rw [rwr_self, rwr_self] at h1
  grind
theorem dt_alt {n : Nat} : ∀ (d : Nat) {i : Nat} (M : Nat → Nat → Int), i + d + 1 < n → (∀ j, j < n → M i j = M (i + d + 1) j) → dt n M = 0
  | 0, _, M, h, he => dt_alt1 M h he
  | d + 1, i, M, h, he => by
    have h1 := dt_swap1 (k := i + d + 1) M (by omega)
    rw [dt_alt d (i := i) _ (by omega) (fun j hj => by
      rw [rwr_ne _ _ _ (by omega), rwr_ne _ _ _ (by omega), rwr_at]
      exact he j hj)] at h1
    grind
theorem dt_alt' {n i k : Nat} (M : Nat → Nat → Int) (hi : i < n) (hk : k < n) (hne : i ≠ k) (he : ∀ j, j < n → M i j = M k j) : dt n M = 0 := by
  rcases Nat.lt_or_ge i k with c | c
  · exact dt_alt (k - i - 1) (i := i) M (by omega) (fun j hj => by rw [show i + (k - i - 1) + 1 = k by omega]; exact he j hj)
  · exact dt_alt (i - k - 1) (i := k) M (by omega) (fun j hj => by rw [show k + (i - k - 1) + 1 = i by omega]; exact (he j hj).symm)
theorem dt_swap {n i k : Nat} (M : Nat → Nat → Int) (hi : i < n) (hk : k < n) (hne : i ≠ k) : dt n (fun l => M (sx i k l)) = - dt n M := by
  have key : ∀ u v : Nat → Int, dt n (rwr i u (rwr k v M)) + dt n (rwr i v (rwr k u M)) = 0 := fun u v => by
    have h0 := dt_alt' (rwr i (fun j => 1 * u j + 1 * v j) (rwr k (fun j => 1 * u j + 1 * v j) M)) hi hk hne (fun j _ => by rw [rwr_at, rwr_ne _ _ _ (fun e => hne e.symm), rwr_at])
    have hu := dt_alt' (rwr i u (rwr k u M)) hi hk hne (fun j _ => by rw [rwr_at, rwr_ne _ _ _ (fun e => hne e.symm), rwr_at])
    have hv := dt_alt' (rwr i v (rwr k v M)) hi hk hne (fun j _ => by rw [rwr_at, rwr_ne _ _ _ (fun e => hne e.symm), rwr_at])
    rw [dt_lin _ 1 1 u v hi, rwr_comm _ _ _ hne, rwr_comm (r := i) v _ _ hne, dt_lin _ 1 1 u v hk, dt_lin _ 1 1 u v hk, rwr_comm (s := i) _ _ _ (fun e => hne e.symm), rwr_comm (s := i) _ _ _ (fun e => hne e.symm), rwr_comm (s := i) _ _ _ (fun e => hne e.symm), rwr_comm (s := i) _ _ _ (fun e => hne e.symm), hu, hv] at h0
    grind
  have h1 := key (M k) (M i)
  rw [rwr_self, rwr_self] at h1
  have e : (fun l => M (sx i k l)) = rwr i (M k) (rwr k (M i) M) := by
    funext l j
    show M (sx i k l) j = (if l = i then M k j else if l = k then M i j else M l j)
    unfold sx
    by_cases c : l = i
    · rw [if_pos c, if_pos c]
    · rw [if_neg c, if_neg c]
      by_cases c' : l = k
      · rw [if_pos c', if_pos c']
      · rw [if_neg c', if_neg c']
  rw [e]; grind
theorem dt_scale {n r : Nat} (M : Nat → Nat → Int) (u : Int) (hr : r < n) : dt n (fun l c => if l = r then u * M r c else M l c) = u * dt n M := by
  have h := dt_lin (n := n) M u 0 (M r) (M r) hr
  rw [rwr_self] at h
  rw [show dt n (fun l c => if l = r then u * M r c else M l c) = dt n (rwr r (fun j => u * M r j + 0 * M r j) M) from dt_congr fun i j _ _ => by
    show _ = (if i = r then _ else _)
    by_cases e : i = r
    · rw [if_pos e, if_pos e]; grind
    · rw [if_neg e, if_neg e], h]
  grind
theorem dt_zero {n r : Nat} (M : Nat → Nat → Int) (hr : r < n) (h : ∀ j, j < n → M r j = 0) : dt n M = 0 := by
  have h1 := dt_scale (n := n) M 0 hr
  rw [show dt n (fun l c => if l = r then 0 * M r c else M l c) = dt n M from dt_congr fun i j _ hj => by
    by_cases e : i = r
    · rw [if_pos e, e, h j hj]; grind
    · rw [if_neg e]] at h1
  rw [h1]; grind
theorem dt_add {n r l : Nat} (M : Nat → Nat → Int) (q : Int) (hr : r < n) (hl : l < n) (hne : l ≠ r) : dt n (rwr l (fun j => M l j - q * M r j) M) = dt n M := by
  have h := dt_lin (n := n) M 1 (-q) (M l) (M r) hl
  rw [rwr_self, dt_alt' (rwr l (M r) M) hl hr hne (fun j _ => by rw [rwr_at, rwr_ne _ _ _ (fun e => hne e.symm)])] at h
  rw [dt_congr (N := rwr l (fun j => 1 * M l j + -q * M r j) M) (fun i j _ _ => by unfold rwr; split <;> grind), h]; grind
theorem dt_elim {n r : Nat} (M : Nat → Nat → Int) (q : Nat → Int) (hr : r < n) : dt n (fun l c => if l = r then M r c else M l c - q l * M r c) = dt n M := by
  have key : ∀ k, k ≤ n → dt n (fun l c => if l = r ∨ k ≤ l then M l c else M l c - q l * M r c) = dt n M := by
    intro k
    induction k with
    | zero => intro _; exact dt_congr fun i j _ _ => if_pos (Or.inr (by omega))
    | succ k ih =>
      intro hk
      by_cases e : k = r
      · rw [← ih (by omega)]
        refine dt_congr fun i j _ _ => ?_
        by_cases c : i = r
        · rw [if_pos (Or.inl c), if_pos (Or.inl c)]
        · by_cases c' : k ≤ i
          · rw [if_pos (Or.inr (by omega)), if_pos (Or.inr c')]
          · rw [if_neg (by omega), if_neg (by omega)]
      · rw [← ih (by omega), ← dt_add (fun l c => if l = r ∨ k ≤ l then M l c else M l c - q l * M r c) (q k) hr (show k < n by omega) e]
        refine dt_congr fun i j _ _ => ?_
        show _ = (if i = k then _ else _)
        simp only []
        by_cases c : i = k
        · subst c
          rw [if_pos rfl, if_neg (by omega), if_pos (Or.inr (Nat.le_refl _)), if_pos (Or.inl trivial)]
        · rw [if_neg c]
          by_cases c' : i = r ∨ k ≤ i
          · rw [if_pos (by omega), if_pos c']
          · rw [if_neg (by omega), if_neg c']
  rw [← key n (Nat.le_refl n)]
  refine dt_congr fun i j hi _ => ?_
  by_cases c : i = r
  · rw [if_pos c, if_pos (Or.inl c), c]
  · rw [if_neg c, if_neg (by omega)]
def idm : Nat → Nat → Int := fun i j => if j = i then 1 else 0
theorem dt_one : ∀ n, dt n (idm : Nat → Nat → Int) = 1
  | 0 => rfl
  | n + 1 => by
    show sm (n + 1) _ = 1
    rw [sm_one _ (show 0 < n + 1 by omega) (fun i _ hne => by show sg i * (if 0 = i then 1 else 0) * _ = 0; rw [if_neg (fun e => hne e.symm)]; grind)]
    show sg 0 * (if 0 = 0 then 1 else 0) * _ = 1
    rw [dt_congr (N := idm) (fun i j _ _ => ?_), dt_one n]
    · unfold sg; rw [if_pos rfl, if_pos rfl]; grind
    · show (if j + 1 = sk 0 i then (1 : Int) else 0) = (if j = i then 1 else 0)
      rw [show sk 0 i = i + 1 by unfold sk; rw [if_neg (by omega)]]
      by_cases c : j = i
      · rw [if_pos c, if_pos (by omega)]
      · rw [if_neg c, if_neg (by omega)]
inductive RE (m n : Nat) (M : Nat → Nat → Int) : (Nat → Nat → Int) → Int → Prop
  | refl {N : Nat → Nat → Int} : (∀ i j, i < m → j < n → M i j = N i j) → RE m n M N 1
  | swap {N : Nat → Nat → Int} {c : Int} {i r : Nat} : i < m → r < m → i ≠ r → RE m n M N c → RE m n M (fun l => N (sx i r l)) (-c)
  | scale {N : Nat → Nat → Int} {c : Int} {r : Nat} (u : Int) : r < m → RE m n M N c → RE m n M (fun l j => if l = r then u * N r j else N l j) (u * c)
  | elim {N : Nat → Nat → Int} {c : Int} {r : Nat} (q : Nat → Int) : r < m → RE m n M N c → RE m n M (fun l j => if l = r then N r j else N l j - q l * N r j) c
  | rows {N N' : Nat → Nat → Int} {c : Int} : RE m n M N c → (∀ i j, i < m → j < n → N i j = N' i j) → RE m n M N' c
theorem RE.det {n : Nat} {M N : Nat → Nat → Int} {c : Int} (h : RE n n M N c) : dt n N = c * dt n M := by
  induction h with
  | refl e => rw [dt_congr e]; grind
  | swap hi hr hne _ ih => rw [dt_swap _ hi hr hne, ih]; grind
  | scale u hr _ ih => rw [dt_scale _ u hr, ih]; grind
  | elim q hr _ ih => rw [dt_elim _ q hr, ih]
  | rows _ e ih => rw [← dt_congr e, ih]
def mm (n : Nat) (A B : Nat → Nat → Int) : Nat → Nat → Int := fun i j => sm n (fun k => A i k * B k j)
theorem mm_scale {n r : Nat} (N B : Nat → Nat → Int) (u : Int) (i j : Nat) : (if i = r then u * mm n N B r j else mm n N B i j) = mm n (fun l c => if l = r then u * N r c else N l c) B i j := by
  unfold mm
  by_cases e : i = r
  · rw [if_pos e, ← sm_mul]
    exact sm_congr fun k _ => by simp only [if_pos e]; grind
  · rw [if_neg e]
    exact sm_congr fun k _ => by simp only [if_neg e]
theorem mm_elim {n r : Nat} (N B : Nat → Nat → Int) (q : Nat → Int) (i j : Nat) : (if i = r then mm n N B r j else mm n N B i j - q i * mm n N B r j) = mm n (fun l c => if l = r then N r c else N l c - q l * N r c) B i j := by
  unfold mm
  by_cases e : i = r
  · rw [if_pos e]
    exact sm_congr fun k _ => by simp only [if_pos e]
  · rw [if_neg e, show sm n (fun k => N i k * B k j) - q i * sm n (fun k => N r k * B k j) = sm n (fun k => N i k * B k j) + sm n (fun k => (-q i) * (N r k * B k j)) by rw [sm_mul]; grind, ← sm_add]
    exact sm_congr fun k _ => by simp only [if_neg e]; grind
theorem RE.mul {m n l : Nat} {M N : Nat → Nat → Int} {c : Int} (h : RE m n M N c) (B : Nat → Nat → Int) : RE m l (mm n M B) (mm n N B) c := by
  induction h with
  | refl e => exact RE.refl fun i j hi _ => sm_congr fun k hk => by rw [e i k hi hk]
  | swap hi hr hne _ ih => exact RE.swap hi hr hne ih
  | scale u hr _ ih => exact (RE.scale u hr ih).rows fun i j _ _ => mm_scale _ _ _ _ _
  | elim q hr _ ih => exact (RE.elim q hr ih).rows fun i j _ _ => mm_elim _ _ _ _ _
  | rows _ e ih => exact ih.rows fun i j hi _ => sm_congr fun k hk => by rw [e i k hi hk]
theorem mm_id {m n : Nat} {B : Nat → Nat → Int} (i j : Nat) (hi : i < m) : mm m idm B i j = B i j := by
  show sm m _ = _
  rw [sm_one _ hi (fun k _ hne => by show (if k = i then (1 : Int) else 0) * _ = 0; rw [if_neg hne]; grind)]
  show (if i = i then (1 : Int) else 0) * _ = _
  rw [if_pos rfl]; grind
theorem dt_mm_of {n : Nat} {A N B : Nat → Nat → Int} {c d : Int} (h : RE n n A N c) (hd : d * c = 1) (hN : (∀ i j, i < n → j < n → N i j = idm i j) ∨ ∃ r, r < n ∧ ∀ j, j < n → N r j = 0) : dt n (mm n A B) = dt n A * dt n B := by
  have h1 := h.det
  have h2 := (h.mul (l := n) B).det
  rcases hN with e | ⟨r, hr, e⟩
  · rw [dt_congr e, dt_one] at h1
    rw [show dt n (mm n N B) = dt n B from dt_congr fun i j hi hj => by
      rw [← mm_id (m := n) (n := n) (B := B) i j hi]; exact sm_congr fun k hk => by rw [e i k hi hk]] at h2
    grind
  · rw [dt_zero _ hr e] at h1
    rw [dt_zero (r := r) _ hr (fun j _ => sm_zero fun k hk => by rw [e k hk]; grind)] at h2
    grind
end Go.Proofs.Ytejliecmdkmgiaa.laZ
namespace Go.Proofs.Ytejliecmdkmgiaa
open laQ
theorem fldQ : laQ.Fld := ⟨fun x hx => ⟨x⁻¹, Rat.mul_inv_cancel x hx⟩, by decide⟩
def prQ : Nat → (Nat → Rat) → Rat
  | 0, _ => 1
  | n + 1, f => prQ n f * f n
theorem prQ_front : ∀ (n : Nat) (f : Nat → Rat), prQ (n + 1) f = f 0 * prQ n (fun i => f (i + 1))
  | 0, f => by simp only [prQ]; grind
  | n + 1, f => by
    rw [show prQ (n + 1 + 1) f = prQ (n + 1) f * f (n + 1) from rfl, prQ_front n f]
    simp only [prQ]; grind
theorem prQ_congr {n : Nat} {f g : Nat → Rat} (h : ∀ i, i < n → f i = g i) : prQ n f = prQ n g := by
  induction n with
  | zero => rfl
  | succ n ih => simp only [prQ]; rw [ih (fun i hi => h i (by omega)), h n (by omega)]
theorem prQ_one {n : Nat} {f : Nat → Rat} (h : ∀ i, i < n → f i = 1) : prQ n f = 1 := by
  induction n with
  | zero => rfl
  | succ n ih => simp only [prQ]; rw [ih (fun i hi => h i (by omega)), h n (by omega)]; grind
theorem prQ_ne {n : Nat} {f : Nat → Rat} (h : ∀ i, i < n → f i ≠ 0) : prQ n f ≠ 0 := by
  induction n with
  | zero => show (1 : Rat) ≠ 0; decide
  | succ n ih =>
    show prQ n f * f n ≠ 0
    intro e
    rcases Rat.mul_eq_zero.1 e with e | e
    · exact ih (fun i hi => h i (by omega)) e
    · exact h n (by omega) e
theorem dtQ_tri : ∀ {n : Nat} {M : Nat → Nat → Rat}, (∀ i j, i < n → j < i → M i j = 0) → dt n M = prQ n (fun i => M i i)
  | 0, _, _ => rfl
  | n + 1, M, h => by
    rw [prQ_front]
    show sm (n + 1) (fun i => sg i * M i 0 * dt n (mnr i M)) = M 0 0 * prQ n (fun i => M (i + 1) (i + 1))
    rw [sm_one (k := 0) _ (by omega) (fun i hi hne => by
      show sg i * M i 0 * dt n (mnr i M) = 0
      rw [h i 0 hi (by omega)]; grind)]
    have e : dt n (mnr 0 M) = prQ n (fun i => M (i + 1) (i + 1)) := by
      rw [dtQ_tri (n := n) (M := mnr 0 M) (fun i j hi hj => by
        show M (sk 0 i) (j + 1) = 0
        rw [show sk 0 i = i + 1 from if_neg (by omega)]
        exact h (i + 1) (j + 1) (by omega) (by omega))]
      rfl
    show sg 0 * M 0 0 * dt n (mnr 0 M) = _
    rw [e, show (sg 0 : Rat) = 1 from rfl]; grind
theorem sm_low {n a : Nat} (f g : Nat → Rat) (ha : a < n) : sm n (fun t => (if t = a then 1 else if t < a then f t else 0) * g t) = g a + sm a (fun t => f t * g t) := by
  obtain ⟨d, rfl⟩ : ∃ d, n = a + (1 + d) := ⟨n - a - 1, by omega⟩
  rw [sm_split, sm_split]
  rw [sm_congr (n := a) (g := fun t => f t * g t) (fun t ht => by rw [if_neg (by omega), if_pos ht]),
    sm_zero (n := d) (fun t ht => by rw [if_neg (by omega), if_neg (by omega)]; grind)]
  simp only [sm, Nat.add_zero, if_true]
  grind
theorem dt_lu {s : Nat} {B U L : Nat → Nat → Rat} (h : ∀ a b, a < s → b < s → B a b = U a b + sm a (fun t => L a t * U t b)) (hu : ∀ a b, a < s → b < a → U a b = 0) : dt s B = prQ s (fun a => U a a) := by
  have e : dt s B = dt s (mm s (fun a t => if t = a then 1 else if t < a then L a t else 0) U) := dt_congr fun a b ha hb => by
    rw [h a b ha hb]; exact (sm_low (L a) (fun t => U t b) ha).symm
  rw [e, dt_mul fldQ, ← dt_turn fldQ, dtQ_tri (fun i j hi hj => by show (if i = j then _ else if i < j then _ else _) = (0 : Rat); rw [if_neg (by omega), if_neg (by omega)]), dtQ_tri hu, prQ_one (fun i _ => if_pos rfl)]
  grind
structure Brs (m n k c : Nat) (P : Nat → Nat) (A N : Nat → Nat → Rat) : Prop where
  le : k ≤ m
  cn : c ≤ n
  lt : ∀ t, t < k → P t < c
  mono : ∀ i j, i < j → j < k → P i < P j
  lead : ∀ t j, t < k → j < P t → N t j = 0
  nz : ∀ t, t < k → N t (P t) ≠ 0
  col : ∀ i t, t < k → t < i → i < m → N i (P t) = 0
  rest : ∀ i j, k ≤ i → i < m → j < c → N i j = 0
  comb : ∃ L : Nat → Nat → Rat, ∀ i j, i < m → j < n → A i j = N i j + sm (min i k) (fun t => L i t * N t j)
section
variable {m n k c : Nat} {P : Nat → Nat} {A N : Nat → Nat → Rat}
theorem Brs.start (m n : Nat) (P : Nat → Nat) (A : Nat → Nat → Rat) : Brs m n 0 0 P A A :=
  ⟨Nat.zero_le _, Nat.zero_le _, fun t h => absurd h (by omega), fun i j _ h => absurd h (by omega), fun t j h => absurd h (by omega), fun t h => absurd h (by omega), fun i t h => absurd h (by omega),
    fun i j _ _ h => absurd h (by omega), fun _ _ => 0, fun i j _ _ => by rw [Nat.min_zero]; show _ = _ + (0 : Rat); grind⟩
theorem Brs.skip (h : Brs m n k c P A N) (hc : c < n) (hz : ∀ i, k ≤ i → i < m → N i c = 0) : Brs m n k (c + 1) P A N :=
  { h with
    cn := hc
    lt := fun t ht => by have := h.lt t ht; omega
    rest := fun i j h1 h2 h3 => by
      by_cases e : j = c
      · rw [e]; exact hz i h1 h2
      · exact h.rest i j h1 h2 (by omega) }
theorem Brs.swap (h : Brs m n k c P A N) {p : Nat} (hp : k ≤ p) (hpm : p < m) (hne : p ≠ k) : Brs m n k c P (fun i => A (sx p k i)) (fun i => N (sx p k i)) := by
  have hkm : k < m := by omega
  have lo : ∀ i, i < k → sx p k i = i := fun i hi => by unfold sx; rw [if_neg (by omega), if_neg (by omega)]
  have hi' : ∀ i, k ≤ i → k ≤ sx p k i := fun i hi => by unfold sx; (repeat' split) <;> omega
  obtain ⟨L, hL⟩ := h.comb
  refine { h with lead := fun t j ht hj => ?_, nz := fun t ht => ?_, col := fun i t ht hti him => ?_, rest := fun i j h1 h2 h3 => h.rest _ j (hi' i h1) (sx_lt hpm hkm h2) h3, comb := ⟨fun i => L (sx p k i), fun i j hi hj => ?_⟩ }
  · show N (sx p k t) j = 0
    rw [lo t ht]; exact h.lead t j ht hj
  · show N (sx p k t) (P t) ≠ 0
    rw [lo t ht]; exact h.nz t ht
  · show N (sx p k i) (P t) = 0
    refine h.col _ t ht ?_ (sx_lt hpm hkm him)
    rcases Nat.lt_or_ge i k with e | e
    · rw [lo i e]; exact hti
    · have := hi' i e; omega
  · show A (sx p k i) j = N (sx p k i) j + sm (min i k) (fun t => L (sx p k i) t * N (sx p k t) j)
    rw [hL _ j (sx_lt hpm hkm hi) hj, show min (sx p k i) k = min i k by
      rcases Nat.lt_or_ge i k with e | e
      · rw [lo i e]
      · have := hi' i e; omega]
    congr 1
    exact sm_congr fun t ht => by rw [lo t (by omega)]
def clr (k c : Nat) (N : Nat → Nat → Rat) (i j : Nat) : Rat := if k < i then N i j - N i c / N k c * N k j else N i j
theorem Brs.pivot (h : Brs m n k c P A N) (hc : c < n) (hk : k < m) (hz : N k c ≠ 0) : Brs m n (k + 1) (c + 1) (fun t => if t = k then c else P t) A (clr k c N) := by
  have lo : ∀ i j, i ≤ k → clr k c N i j = N i j := fun i j hi => if_neg (by omega)
  have hi' : ∀ i j, k < i → clr k c N i j = N i j - N i c / N k c * N k j := fun i j hi => if_pos hi
  have hdiv : ∀ x : Rat, x - x / N k c * N k c = 0 := fun x => by
    rw [Rat.div_def, Rat.mul_assoc, Rat.inv_mul_cancel _ hz]; grind
  obtain ⟨L, hL⟩ := h.comb
  refine ⟨hk, hc, fun t ht => ?_, fun i j hij hj => ?_, fun t j ht hj => ?_, fun t ht => ?_, fun i t ht hti him => ?_, fun i j h1 h2 h3 => ?_, fun i t => if t = k then N i c / N k c else L i t, fun i j hi hj => ?_⟩
  · show (if t = k then c else P t) < c + 1
    split
    · omega
    · have := h.lt t (by omega); omega
  · show (if i = k then c else P i) < (if j = k then c else P j)
    rw [if_neg (by omega)]
    split
    · exact h.lt i (by omega)
    · exact h.mono i j hij (by omega)
  · rw [lo t j (by omega)]
    by_cases e : t = k
    · subst e
      rw [if_pos rfl] at hj
      exact h.rest t j (Nat.le_refl _) hk hj
    · rw [if_neg e] at hj
      exact h.lead t j (by omega) hj
  · rw [lo t _ (by omega)]
    by_cases e : t = k
    · subst e; rw [if_pos rfl]; exact hz
    · rw [if_neg e]; exact h.nz t (by omega)
  · by_cases e : t = k
    · subst e
      rw [if_pos rfl, hi' i _ hti]
      exact hdiv _
    · rw [if_neg e]
      rcases Nat.lt_or_ge k i with e2 | e2
      · rw [hi' i _ e2, h.col i t (by omega) hti him, h.col k t (by omega) (by omega) hk]; grind
      · rw [lo i _ e2]; exact h.col i t (by omega) hti him
  · rw [hi' i j (by omega)]
    by_cases e : j = c
    · subst e; exact hdiv _
    · rw [h.rest i j (by omega) h2 (by omega), h.rest k j (Nat.le_refl _) hk (by omega)]; grind
  · rw [hL i j hi hj]
    rcases Nat.lt_or_ge k i with e | e
    · rw [hi' i j e, show min i (k + 1) = k + 1 by omega, show min i k = k by omega]
      show _ = _ + (sm k (fun t => (if t = k then N i c / N k c else L i t) * clr k c N t j) + (if k = k then N i c / N k c else L i k) * clr k c N k j)
      rw [if_pos rfl, lo k j (Nat.le_refl _), sm_congr (n := k) (f := fun t => (if t = k then N i c / N k c else L i t) * clr k c N t j) (g := fun t => L i t * N t j) (fun t ht => by show (if t = k then N i c / N k c else L i t) * _ = _; rw [if_neg (by omega), lo t j (by omega)])]
      grind
    · rw [lo i j e, show min i (k + 1) = i by omega, show min i k = i by omega]
      congr 1
      exact sm_congr fun t ht => by show _ = (if t = k then N i c / N k c else L i t) * _; rw [if_neg (by omega), lo t j (by omega)]
theorem Brs.minor (h : Brs m n k c P A N) {i j : Nat} (hi : k ≤ i) (him : i < m) (hj : j < n) :
    dt (k + 1) (fun a b => A (if a < k then a else i) (if b < k then P b else j)) = prQ k (fun t => N t (P t)) * N i j := by
  obtain ⟨L, hL⟩ := h.comb
  have hP : ∀ b, b < k → P b < n := fun b hb => by have := h.lt b hb; have := h.cn; omega
  have hQ : ∀ a, (if a < k then a else i) < m := fun a => by have := h.le; split <;> omega
  have hC : ∀ b, (if b < k then P b else j) < n := fun b => by
    split
    · exact hP b (by assumption)
    · exact hj
  rw [dt_lu (U := fun a b => N (if a < k then a else i) (if b < k then P b else j)) (L := fun a t => L (if a < k then a else i) t) (fun a b ha hb => ?_) (fun a b ha hb => ?_)]
  · show prQ k (fun a => N (if a < k then a else i) (if a < k then P a else j)) * N (if k < k then k else i) (if k < k then P k else j) = _
    rw [if_neg (by omega), if_neg (by omega), prQ_congr (g := fun t => N t (P t)) (fun t ht => by simp only [if_pos ht])]
  · rw [hL _ _ (hQ a) (hC b), show min (if a < k then a else i) k = a by split <;> omega]
    congr 1
    exact sm_congr fun t ht => by simp only [if_pos (show t < k by omega)]
  · simp only [if_pos (show b < k by omega)]
    refine h.col _ b (by omega) ?_ (hQ a)
    split <;> omega
theorem Brs.full (h : Brs m n k c P A N) : dt k (fun a b => A a (P b)) = prQ k (fun t => N t (P t)) := by
  obtain ⟨L, hL⟩ := h.comb
  have hP : ∀ b, b < k → P b < n := fun b hb => by have := h.lt b hb; have := h.cn; omega
  have hle := h.le
  refine dt_lu (U := fun a b => N a (P b)) (L := L) (fun a b ha hb => ?_) (fun a b ha hb => h.col a b (by omega) hb (by omega))
  rw [hL a _ (by omega) (hP b hb), show min a k = a by omega]
theorem Brs.rref (h : Brs m n k n P A N) : ∃ M, Rref m n k P M ∧ SpanEq m n A M := by
  obtain ⟨L, hL⟩ := h.comb
  have hle := h.le
  have hs : ∀ q i, i < q → i < m → Comb m n A (N i) := by
    intro q
    induction q with
    | zero => intro i hi; omega
    | succ q ih =>
      intro i hi him
      have h1 : Comb m n A (fun j => sm (min i k) (fun t => L i t * N t j)) := Comb.sum (l := min i k) (M := N) (fun t ht => ih t (by omega) (by omega)) (L i)
      refine ((Comb.row (N := A) him).add (h1.scale (-1))).congr fun j hj => ?_
      rw [hL i j him hj]; grind
  have hA : ∀ i, i < m → Comb k n N (A i) := by
    intro i hi
    have h1 : Comb k n N (fun j => sm (min i k) (fun t => L i t * N t j)) := Comb.sum (l := min i k) (M := N) (fun t ht => Comb.row (by omega)) (L i)
    have h2 : Comb k n N (N i) := by
      rcases Nat.lt_or_ge i k with e | e
      · exact Comb.row e
      · exact Comb.zero fun j hj => h.rest i j e hi hj
    exact (h2.add h1).congr fun j hj => hL i j hi hj
  exact Ech.rref fldQ ⟨fun i hi => h.lt i hi, h.mono, h.lead, h.nz⟩ (fun i hi => hs (i + 1) i (by omega) (by omega)) hA
end
theorem smQ_cast : ∀ (n : Nat) (f : Nat → Int), sm n (fun i => (f i : Rat)) = ((laZ.sm n f : Int) : Rat)
  | 0, _ => rfl
  | n + 1, f => by
    show sm n (fun i => (f i : Rat)) + (f n : Rat) = ((laZ.sm n f + f n : Int) : Rat)
    rw [smQ_cast n f, Rat.intCast_add]
theorem sgQ_cast (i : Nat) : (sg i : Rat) = ((laZ.sg i : Int) : Rat) := by
  unfold sg laZ.sg; split <;> rfl
theorem dtQ_cast : ∀ (n : Nat) (M : Nat → Nat → Int), dt n (fun i j => (M i j : Rat)) = ((laZ.dt n M : Int) : Rat)
  | 0, _ => rfl
  | n + 1, M => by
    show sm (n + 1) _ = ((laZ.sm (n + 1) _ : Int) : Rat)
    rw [← smQ_cast]
    refine sm_congr fun i _ => ?_
    rw [Rat.intCast_mul, Rat.intCast_mul, ← sgQ_cast, ← dtQ_cast n]
    rfl
theorem smZ_abs {B : Int} : ∀ (n : Nat) (f : Nat → Int), (∀ i, i < n → ((f i).natAbs : Int) ≤ B) → ((laZ.sm n f).natAbs : Int) ≤ n * B
  | 0, _, _ => by show ((0 : Int).natAbs : Int) ≤ _; simp
  | n + 1, f, h => by
    have h1 := smZ_abs n f (fun i hi => h i (by omega))
    have h2 := h n (by omega)
    show (((laZ.sm n f + f n : Int)).natAbs : Int) ≤ _
    have h3 : ((n + 1 : Nat) : Int) * B = n * B + B := by push_cast; rw [Int.add_mul, Int.one_mul]
    rw [h3]; omega
theorem dtZ_zb {S : Nat} : ∀ (n : Nat) (M : Nat → Nat → Int), n ≤ 18446744073709551616 → (∀ i j, i < n → j < n → ZB S (M i j)) → ZB (n * (S + 1) + 1) (laZ.dt n M)
  | 0, _, _, _ => by show ((1 : Int).natAbs : Int) < _; rw [Nat.zero_mul]; decide
  | n + 1, M, hn, h => by
    have hp := pow_pos' (show (0 : Int) < 18446744073709551616 by omega) (S + (n * (S + 1) + 1))
    have key := smZ_abs (B := 18446744073709551616 ^ (S + (n * (S + 1) + 1)) - 1) (n + 1) (fun i => laZ.sg i * M i 0 * laZ.dt n (laZ.mnr i M)) (fun i hi => by
      have h1 : ZB S (M i 0) := h i 0 hi (by omega)
      have h2 : ZB (n * (S + 1) + 1) (laZ.dt n (laZ.mnr i M)) := dtZ_zb n _ (by omega) fun r c hr hc => h _ _ (laZ.sk_lt hr) (by omega)
      have h3 := h1.mul h2
      unfold ZB at h3
      have h4 : (laZ.sg i * M i 0 * laZ.dt n (laZ.mnr i M)).natAbs = (M i 0 * laZ.dt n (laZ.mnr i M)).natAbs := by
        unfold laZ.sg; split
        · rw [Int.one_mul]
        · rw [Int.neg_mul, Int.neg_mul, Int.natAbs_neg, Int.one_mul]
      rw [h4]; omega)
    unfold ZB
    show ((laZ.sm (n + 1) (fun i => laZ.sg i * M i 0 * laZ.dt n (laZ.mnr i M))).natAbs : Int) < _
    have e : (n + 1) * (S + 1) + 1 = (S + (n * (S + 1) + 1)) + 1 := by rw [Nat.add_mul]; omega
    rw [e, Int.pow_succ]
    generalize (18446744073709551616 : Int) ^ (S + (n * (S + 1) + 1)) = T at *
    have h5 : ((n + 1 : Nat) : Int) * (T - 1) ≤ 18446744073709551616 * (T - 1) := Int.mul_le_mul_of_nonneg_right (by omega) (by omega)
    omega
structure BrZ (m n k c : Nat) (P σ : Nat → Nat) (A G : Nat → Nat → Int) (last : Int) (tn : Bool) : Prop where
  ex : ∃ N : Nat → Nat → Rat, Brs m n k c P (fun i j => ((A (σ i) j : Int) : Rat)) N ∧ (last : Rat) = prQ k (fun t => N t (P t)) ∧ ∀ i j, k ≤ i → i < m → j < n → ((G i j : Int) : Rat) = (last : Rat) * N i j
  pl : ∀ i, i < m → σ i < m
  pr : ∀ i, i < m → ∃ i', i' < m ∧ σ i' = i
  sn : m = n → laZ.dt n (fun i => A (σ i)) = (if tn then -1 else 1) * laZ.dt n A
section
variable {m n k c : Nat} {P σ : Nat → Nat} {A G : Nat → Nat → Int} {last : Int} {tn : Bool}
theorem BrZ.start (m n : Nat) (P : Nat → Nat) (A : Nat → Nat → Int) : BrZ m n 0 0 P (fun i => i) A A 1 false :=
  ⟨⟨fun i j => ((A i j : Int) : Rat), Brs.start m n P _, rfl, fun i j _ _ _ => by show _ = (1 : Rat) * _; grind⟩, fun _ h => h, fun i h => ⟨i, h, rfl⟩, fun _ => by simp⟩
theorem BrZ.last_ne (h : BrZ m n k c P σ A G last tn) : last ≠ 0 := by
  obtain ⟨N, h1, h2, -⟩ := h.ex
  intro e
  refine prQ_ne (n := k) (f := fun t => N t (P t)) (fun t ht => h1.nz t ht) ?_
  rw [← h2, e]; rfl
theorem ratI_inj {a b : Int} (h : (a : Rat) = (b : Rat)) : a = b := Rat.intCast_inj.1 h
theorem BrZ.minor (h : BrZ m n k c P σ A G last tn) {i j : Nat} (hi : k ≤ i) (him : i < m) (hj : j < n) :
    G i j = laZ.dt (k + 1) (fun a b => A (σ (if a < k then a else i)) (if b < k then P b else j)) := by
  obtain ⟨N, h1, h2, h3⟩ := h.ex
  refine ratI_inj ?_
  rw [h3 i j hi him hj, h2, ← h1.minor hi him hj, ← dtQ_cast]
theorem BrZ.zb (h : BrZ m n k c P σ A G last tn) {S : Nat} (hk : k < 18446744073709551615) (hA : ∀ i j, i < m → j < n → ZB S (A i j)) {i j : Nat} (hi : k ≤ i) (him : i < m) (hj : j < n) : ZB ((k + 1) * (S + 1) + 1) (G i j) := by
  obtain ⟨N, h1, -, -⟩ := h.ex
  have hc := h1.cn
  rw [h.minor hi him hj]
  refine dtZ_zb (k + 1) _ (by omega) fun a b ha hb => hA _ _ (h.pl _ (by split <;> omega)) ?_
  split
  · have := h1.lt b (by assumption); omega
  · exact hj
theorem BrZ.skip (h : BrZ m n k c P σ A G last tn) (hc : c < n) (hz : ∀ i, k ≤ i → i < m → G i c = 0) : BrZ m n k (c + 1) P σ A G last tn := by
  have hl := h.last_ne
  obtain ⟨N, h1, h2, h3⟩ := h.ex
  refine { h with ex := ⟨N, h1.skip hc fun i hi him => ?_, h2, h3⟩ }
  have := h3 i c hi him hc
  rw [hz i hi him] at this
  rcases Rat.mul_eq_zero.1 this.symm with e | e
  · exact absurd (ratI_inj (b := 0) e) hl
  · exact e
theorem BrZ.swap (h : BrZ m n k c P σ A G last tn) {p : Nat} (hp : k ≤ p) (hpm : p < m) (hne : p ≠ k) : BrZ m n k c P (fun i => σ (sx p k i)) A (fun i => G (sx p k i)) last (!tn) := by
  have hkm : k < m := by omega
  obtain ⟨N, h1, h2, h3⟩ := h.ex
  have lo : ∀ i, i < k → sx p k i = i := fun i hi => by unfold sx; rw [if_neg (by omega), if_neg (by omega)]
  refine ⟨⟨fun i => N (sx p k i), h1.swap hp hpm hne, ?_, fun i j hi him hj => h3 _ j (by unfold sx; (repeat' split) <;> omega) (sx_lt hpm hkm him) hj⟩, fun i hi => h.pl _ (sx_lt hpm hkm hi), fun i hi => ?_, fun e => ?_⟩
  · rw [h2]; exact prQ_congr fun t ht => by show _ = N (sx p k t) (P t); rw [lo t ht]
  · obtain ⟨i', h4, h5⟩ := h.pr i hi
    exact ⟨sx p k i', sx_lt hpm hkm h4, by rw [sx_sx]; exact h5⟩
  · have e1 := laZ.dt_swap (n := n) (fun i => A (σ i)) (i := p) (k := k) (by omega) (by omega) hne
    have e2 : laZ.dt n (fun l => A (σ (sx p k l))) = laZ.dt n (fun l => (fun i => A (σ i)) (laZ.sx p k l)) := rfl
    rw [e2, e1, h.sn e]
    cases tn <;> simp
def stG (k c : Nat) (last : Int) (G : Nat → Nat → Int) (i j : Nat) : Int :=
  if k < i then (if j < c then G i j else if j = c then 0 else (G k c * G i j - G i c * G k j) / last) else G i j
theorem BrZ.pivot (h : BrZ m n k c P σ A G last tn) (hc : c < n) (hk : k < m) (hz : G k c ≠ 0) :
    BrZ m n (k + 1) (c + 1) (fun t => if t = k then c else P t) σ A (stG k c last G) (G k c) tn ∧ ∀ i j, k < i → i < m → j < n → last ∣ G k c * G i j - G i c * G k j := by
  have hl := h.last_ne
  obtain ⟨N, h1, h2, h3⟩ := h.ex
  have hkc := h3 k c (Nat.le_refl _) hk hc
  have hNz : N k c ≠ 0 := fun e => by
    rw [e] at hkc
    refine hz (ratI_inj (b := 0) ?_)
    rw [hkc]; show _ = (0 : Rat); grind
  have h4 := h1.pivot hc hk hNz
  have hlQ : (last : Rat) ≠ 0 := fun e => hl (ratI_inj (b := 0) e)
  have hpr : ((G k c : Int) : Rat) = prQ (k + 1) (fun t => clr k c N t ((fun t => if t = k then c else P t) t)) := by
    show _ = prQ k _ * clr k c N k (if k = k then c else P k)
    rw [if_pos rfl, prQ_congr (g := fun t => N t (P t)) (fun t ht => by show clr k c N t (if t = k then c else P t) = _; rw [if_neg (by omega)]; exact if_neg (by omega)), ← h2, hkc]
    congr 1
    exact (if_neg (by omega)).symm
  -- each quotient is a minor
  have hdvd : ∀ i j, k < i → i < m → j < n → ∃ D : Int, G k c * G i j - G i c * G k j = last * D ∧ (D : Rat) = ((G k c : Int) : Rat) * clr k c N i j := fun i j hi him hj => by
    refine ⟨laZ.dt (k + 1 + 1) (fun a b => A (σ (if a < k + 1 then a else i)) (if b < k + 1 then (if b = k then c else P b) else j)), ?_, ?_⟩
    · refine ratI_inj ?_
      rw [Rat.intCast_sub, Rat.intCast_mul, Rat.intCast_mul, Rat.intCast_mul, ← dtQ_cast, h4.minor hi him hj, ← hpr, h3 i j (by omega) him hj, h3 i c (by omega) him hc, h3 k j (Nat.le_refl _) hk hj, hkc]
      show _ = (last : Rat) * (_ * (if k < i then N i j - N i c / N k c * N k j else N i j))
      rw [if_pos hi]
      have : N k c * (N i c / N k c) = N i c := by rw [Rat.div_def, Rat.mul_comm, Rat.mul_assoc, Rat.inv_mul_cancel _ hNz]; grind
      generalize N i c / N k c = f at *
      rw [← this]; grind
    · rw [← dtQ_cast, h4.minor hi him hj, ← hpr]
  refine ⟨⟨⟨clr k c N, h4, hpr, fun i j hi him hj => ?_⟩, h.pl, h.pr, h.sn⟩, fun i j hi him hj => by obtain ⟨D, e, -⟩ := hdvd i j hi him hj; exact ⟨D, e⟩⟩
  unfold stG
  rw [if_pos (show k < i by omega)]
  by_cases e : j < c
  · rw [if_pos e, h3 i j (by omega) him hj, h1.rest i j (by omega) him e]
    show _ = _ * (if k < i then _ else _)
    rw [if_pos (by omega), h1.rest i j (by omega) him e, h1.rest k j (Nat.le_refl _) hk e]; grind
  · rw [if_neg e]
    by_cases e2 : j = c
    · rw [if_pos e2, e2, h4.rest i c hi him (by omega)]
      show (0 : Rat) = _; grind
    · rw [if_neg e2]
      obtain ⟨D, e3, e4⟩ := hdvd i j (by omega) him hj
      rw [e3, Int.mul_ediv_cancel_left _ hl, e4]
def PivQ (m n r : Nat) (P : Nat → Nat) (A : Nat → Nat → Int) : Prop := ∃ M, Rref m n r P M ∧ SpanEq m n (fun i j => ((A i j : Int) : Rat)) M
theorem BrZ.piv (h : BrZ m n k n P σ A G last tn) : PivQ m n k P A := by
  obtain ⟨N, h1, -, -⟩ := h.ex
  obtain ⟨M, h2, h3⟩ := h1.rref
  refine ⟨M, h2, SpanEq.trans ⟨fun i hi => ?_, fun i hi => ?_⟩ h3⟩
  · obtain ⟨i', h4, h5⟩ := h.pr i hi
    exact ⟨fun t => if t = i' then 1 else 0, fun j hj => by
      rw [sm_one _ h4 (fun t _ hne => by simp only [if_neg hne]; grind)]; simp only [if_true, h5]; grind⟩
  · exact Comb.row (N := fun i j => ((A i j : Int) : Rat)) (h.pl i hi)
theorem BrZ.det (h : BrZ n n n c P σ A G last tn) : laZ.dt n A = if tn then -last else last := by
  obtain ⟨N, h1, h2, -⟩ := h.ex
  have hP : ∀ d i, i + d + 1 = n → P i ≤ i := by
    intro d
    induction d with
    | zero => intro i hi; have := h1.lt i (by omega); have := h1.cn; omega
    | succ d ih => intro i hi; have := ih (i + 1) (by omega); have := h1.mono i (i + 1) (by omega) (by omega); omega
  have hP2 : ∀ i, i < n → i ≤ P i := by
    intro i
    induction i with
    | zero => intro _; omega
    | succ i ih => intro hi; have := ih (by omega); have := h1.mono i (i + 1) (by omega) hi; omega
  have e1 : laZ.dt n (fun i => A (σ i)) = last := by
    refine ratI_inj ?_
    rw [h2, ← h1.full, ← dtQ_cast]
    exact dt_congr fun i j hi hj => by rw [show P j = j by have := hP (n - j - 1) j (by omega); have := hP2 j hj; omega]
  have e2 := h.sn rfl
  rw [e1] at e2
  cases tn <;> simp_all
theorem BrZ.det0 (h : BrZ n n c c P σ A G last tn) (hc : c < n) (hz : ∀ i, c ≤ i → i < n → G i c = 0) : laZ.dt n A = 0 := by
  have h0 : ∀ q, q ≤ n → ∀ c, c + q = n → ∀ k P σ G last tn, BrZ n n k c P σ A G last tn → ∃ k' P' σ' G' last' tn', BrZ n n k' n P' σ' A G' last' tn' ∧ k' ≤ k + q := by
    intro q
    induction q with
    | zero =>
      intro _ c hc k P σ G last tn h
      have e : c = n := by omega
      rw [e] at h
      exact ⟨k, P, σ, G, last, tn, h, by omega⟩
    | succ q ih =>
      intro hq c hc k P σ G last tn h
      by_cases hz : ∀ i, k ≤ i → i < n → G i c = 0
      · obtain ⟨k', P', σ', G', l', t', a, b⟩ := ih (by omega) (c + 1) (by omega) k P σ G last tn (h.skip (by omega) hz)
        exact ⟨k', P', σ', G', l', t', a, by omega⟩
      · obtain ⟨p, hp⟩ := Classical.not_forall.1 hz
        obtain ⟨hkp, hp⟩ := Classical.not_forall.1 hp
        obtain ⟨hpn, hne⟩ := Classical.not_forall.1 hp
        by_cases e : p = k
        · subst e
          obtain ⟨k', P', σ', G', l', t', a, b⟩ := ih (by omega) (c + 1) (by omega) _ _ _ _ _ _ (h.pivot (by omega) hpn hne).1
          exact ⟨k', P', σ', G', l', t', a, by omega⟩
        · have h2 := h.swap hkp hpn e
          obtain ⟨k', P', σ', G', l', t', a, b⟩ := ih (by omega) (c + 1) (by omega) _ _ _ _ _ _ (h2.pivot (by omega) (by omega) (by show G (sx p k k) c ≠ 0; rw [show sx p k k = p by unfold sx; rw [if_neg (by omega), if_pos rfl]]; exact hne)).1
          exact ⟨k', P', σ', G', l', t', a, by omega⟩
  obtain ⟨k', P', σ', G', l', t', a, b⟩ := h0 (n - (c + 1)) (by omega) (c + 1) (by omega) _ _ _ _ _ _ (h.skip hc hz)
  obtain ⟨M, h1, h2⟩ := a.piv
  refine ratI_inj ?_
  rw [← dtQ_cast]
  exact (h1.rk fldQ h2).det_zero fldQ (by omega)
end
end Go.Proofs.Ytejliecmdkmgiaa
namespace Go.Proofs.Ytejliecmdkmgiaa
open laQ
theorem sgQ_sq (k : Nat) : (sg k : Rat) * sg k = 1 := by unfold sg; split <;> grind
def rot {α : Type} (k : Nat) (M : Nat → Nat → α) (i : Nat) : Nat → α := if i = 0 then M k else M (sk k (i - 1))
theorem dt_rot {n : Nat} : ∀ (k : Nat) (M : Nat → Nat → Rat), k < n → dt n (rot k M) = sg k * dt n M
  | 0, M, _ => by
    rw [dt_congr (N := M) (fun i j _ _ => ?_)]
    · rw [show (sg 0 : Rat) = 1 from rfl]; grind
    · unfold rot
      split
      · subst_vars; rfl
      · rw [show sk 0 (i - 1) = i by unfold sk; rw [if_neg (by omega)]; omega]
  | k + 1, M, hk => by
    have ih := dt_rot (n := n) k (fun l => M (sx k (k + 1) l)) (by omega)
    rw [dt_swap (i := k) (k := k + 1) M (by omega) hk (by omega)] at ih
    rw [sg_succ, dt_congr (N := rot k (fun l => M (sx k (k + 1) l))) (fun i j _ _ => ?_), ih]
    · grind
    · unfold rot
      split
      · show M (k + 1) j = M (sx k (k + 1) k) j
        rw [show sx k (k + 1) k = k + 1 by unfold sx; rw [if_pos rfl]]
      · show M (sk (k + 1) (i - 1)) j = M (sx k (k + 1) (sk k (i - 1))) j
        congr 1
        unfold sk sx
        (repeat' split) <;> omega
theorem dt_row {n : Nat} (M : Nat → Nat → Rat) {k : Nat} (hk : k < n + 1) : dt (n + 1) M = sm (n + 1) (fun j => sg k * sg j * M k j * dt n (fun r c => M (sk k r) (sk j c))) := by
  have h1 := dt_rot k M hk
  have h2 : dt (n + 1) (rot k M) = sm (n + 1) (fun j => sg j * M k j * dt n (fun r c => M (sk k r) (sk j c))) := by
    rw [← dt_turn fldQ]
    refine sm_congr fun j _ => ?_
    show sg j * M k j * dt n (mnr j (fun i j => rot k M j i)) = _
    rw [← dt_turn fldQ]
    rfl
  have h3 : dt (n + 1) M = sg k * dt (n + 1) (rot k M) := by rw [h1]; have := sgQ_sq k; grind
  rw [h3, h2, ← sm_mul]
  exact sm_congr fun j _ => by grind
theorem dtZ_row {n : Nat} (M : Nat → Nat → Int) {k : Nat} (hk : k < n + 1) : laZ.dt (n + 1) M = laZ.sm (n + 1) (fun j => (if (k + j) % 2 = 1 then -1 else 1) * M k j * laZ.dt n (fun r c => M (sk k r) (sk j c))) := by
  refine ratI_inj ?_
  rw [← dtQ_cast, dt_row _ hk, ← smQ_cast]
  refine sm_congr fun j _ => ?_
  rw [Rat.intCast_mul, Rat.intCast_mul, ← dtQ_cast n]
  congr 2
  unfold sg
  (repeat' split) <;> first | omega | grind | rfl
end Go.Proofs.Ytejliecmdkmgiaa
namespace Go.Proofs.Ytejliecmdkmgiaa
open laQ
def cntB (P : Nat → Nat) (k : Nat) : Nat → Nat
  | 0 => 0
  | r + 1 => cntB P k r + (if P r < k then 1 else 0)
theorem cntB_split {P : Nat → Nat} (k : Nat) : ∀ {r : Nat}, (∀ i j, i < j → j < r → P i < P j) → cntB P k r ≤ r ∧ (∀ i, i < cntB P k r → P i < k) ∧ ∀ i, cntB P k r ≤ i → i < r → k ≤ P i
  | 0, _ => ⟨Nat.le_refl _, fun i h => absurd h (by simp [cntB]), fun i _ h => absurd h (by omega)⟩
  | r + 1, hm => by
    obtain ⟨h1, h2, h3⟩ := cntB_split k (r := r) fun i j hi hj => hm i j hi (by omega)
    simp only [cntB]
    by_cases hk : P r < k
    · rw [if_pos hk]
      have e : cntB P k r = r := by
        by_cases e : cntB P k r = r
        · exact e
        · have a := h3 _ (Nat.le_refl _) (show cntB P k r < r by omega)
          have b := hm (cntB P k r) r (by omega) (by omega)
          omega
      rw [e]
      refine ⟨Nat.le_refl _, fun i hi => ?_, fun i h1 h2 => absurd h2 (by omega)⟩
      by_cases e : i = r
      · rw [e]; exact hk
      · have := hm i r (by omega) (by omega); omega
    · rw [if_neg hk]
      refine ⟨by omega, fun i hi => h2 i hi, fun i hi hr => ?_⟩
      by_cases e : i = r
      · rw [e]; omega
      · exact h3 i hi (by omega)
section
variable {m n r r' : Nat} {P P' : Nat → Nat} {A : Nat → Nat → Int}
theorem PivQ.congr {B : Nat → Nat → Int} (h : PivQ m n r P A) (e : ∀ i j, i < m → j < n → A i j = B i j) : PivQ m n r P B := by
  obtain ⟨M, h1, h2⟩ := h
  exact ⟨M, h1, (SpanEq.rows fun i j hi hj => by rw [e i j hi hj]).trans h2⟩
theorem PivQ.mono (h : PivQ m n r P A) : ∀ i j, i < j → j < r → P i < P j := by
  obtain ⟨M, h1, h2⟩ := h; exact h1.mono
theorem PivQ.lt (h : PivQ m n r P A) : ∀ i, i < r → P i < n := by
  obtain ⟨M, h1, h2⟩ := h; exact h1.lt
theorem PivQ.le (h : PivQ m n r P A) : r ≤ m := by
  obtain ⟨M, h1, h2⟩ := h; exact h1.le
theorem PivQ.rk (h : PivQ m n r P A) : Rk m n (fun i j => ((A i j : Int) : Rat)) r := by
  obtain ⟨M, h1, h2⟩ := h; exact h1.rk fldQ h2
theorem PivQ.unique (h : PivQ m n r P A) (h' : PivQ m n r' P' A) : r = r' ∧ ∀ i, i < r → P i = P' i := by
  obtain ⟨M, h1, h2⟩ := h
  obtain ⟨M', h3, h4⟩ := h'
  have hs := h2.symm.trans h4
  obtain ⟨a, b, -⟩ := Rref.unique (by decide) h1 h3 (fun i hi => hs.1 i (by have := h1.le; omega)) (fun i hi => hs.2 i (by have := h3.le; omega))
  exact ⟨a, b⟩
theorem PivQ.cut {k : Nat} (h : PivQ m n r P A) (hk : k ≤ n) : PivQ m k (cntB P k r) P A := by
  obtain ⟨M, h1, h2⟩ := h
  obtain ⟨c1, c2, c3⟩ := cntB_split k h1.mono
  refine ⟨M, ⟨Nat.le_trans c1 h1.le, c2, fun i j hi hj => h1.mono i j hi (by omega), fun i j hi hj => h1.lead i j (by omega) hj, fun i hi => h1.one i (by omega), fun i l hi hl hne => h1.col i l hi (by omega) hne, fun i j hi him hj => ?_⟩, h2.left hk⟩
  by_cases e : i < r
  · exact h1.lead i j e (Nat.lt_of_lt_of_le hj (c3 i hi e))
  · exact h1.rest i j (by omega) him (by omega)
theorem PivQ.rows {k : Nat} {Q : Nat → Nat} (h : PivQ n m r Q (fun i j => A j i)) (hk : k ≤ m) (h' : PivQ k n r' P' A) : r' = cntB Q k r :=
  ((h'.rk).turn ((h.cut hk).rk)).symm
theorem PivQ.turn {Q : Nat → Nat} (h : PivQ n m r Q (fun i j => A j i)) (h' : PivQ m n r' P' A) : r = r' := h'.rk.turn h.rk
end
end Go.Proofs.Ytejliecmdkmgiaa
namespace Go.Proofs.Ytejliecmdkmgiaa
open laQ
section
variable {m n k c : Nat} {P σ : Nat → Nat} {A G : Nat → Nat → Int} {last : Int} {tn : Bool}
theorem BrZ.any_pivot (h : BrZ m n k c P σ A G last tn) (hc : c < n) {p : Nat} (hp : k ≤ p) (hpm : p < m) (hz : G p c ≠ 0) :
    (∃ σ', BrZ m n (k + 1) (c + 1) (fun t => if t = k then c else P t) σ' A (stG k c last (fun i => G (sx p k i))) (G p c) (if p = k then tn else !tn)) ∧ ∀ i j, k < i → i < m → j < n → last ∣ G p c * G (sx p k i) j - G (sx p k i) c * G p j := by
  have e0 : sx p k k = p := by unfold sx; split <;> simp_all
  by_cases e : p = k
  · have e1 : (fun i => G (sx p k i)) = G := by funext i; congr 1; unfold sx; split <;> simp_all
    rw [if_pos e]
    have e2 : ∀ i, G (sx p k i) = G i := fun i => congrFun e1 i
    obtain ⟨a, b⟩ := h.pivot hc (by omega) (by rw [← e]; exact hz)
    refine ⟨⟨σ, ?_⟩, fun i j hi him hj => ?_⟩
    · rw [e1, e]; exact a
    · rw [e2, e]; exact b i j hi him hj
  · rw [if_neg e]
    have h2 := h.swap hp hpm e
    obtain ⟨a, b⟩ := h2.pivot hc (by omega) (by show G (sx p k k) c ≠ 0; rw [e0]; exact hz)
    refine ⟨⟨fun i => σ (sx p k i), ?_⟩, fun i j hi him hj => ?_⟩
    · have a : BrZ m n (k + 1) (c + 1) _ _ A _ (G (sx p k k) c) (!tn) := a
      rw [e0] at a; exact a
    · have b := b i j hi him hj
      have b : last ∣ G (sx p k k) c * G (sx p k i) j - G (sx p k i) c * G (sx p k k) j := b
      rw [e0] at b; exact b
theorem BrZ.kle (h : BrZ m n k c P σ A G last tn) : k ≤ m := by
  obtain ⟨N, h1, -⟩ := h.ex; exact h1.le
end
end Go.Proofs.Ytejliecmdkmgiaa
