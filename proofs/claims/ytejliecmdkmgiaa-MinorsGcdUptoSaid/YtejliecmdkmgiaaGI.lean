import Derived.Test.YtejliecmdkmgiaaGH
import Derived.Deep.AppendLies
import Derived.OwnWalk
set_option linter.unusedVariables false
set_option linter.unusedSimpArgs false
namespace Go.Proofs.Ytejliecmdkmgiaa
open Go.RowKit
def flatI (b m : Nat → Value) : Nat → List Value
  | 0 => []
  | n + 1 => flatI b m n ++ [b n, m n]
theorem flatI_len (b m : Nat → Value) : ∀ n, (flatI b m n).length = n * 2
  | 0 => rfl
  | n + 1 => by show (flatI b m n ++ [b n, m n]).length = _; rw [List.length_append, flatI_len b m n]; simp; omega
theorem flatI_at (b m : Nat → Value) : ∀ n i, i < n → (flatI b m n)[i * 2]? = some (b i) ∧ (flatI b m n)[i * 2 + 1]? = some (m i)
  | 0, _, h => absurd h (by omega)
  | n + 1, i, h => by
    have hl := flatI_len b m n
    show (flatI b m n ++ [b n, m n])[i * 2]? = _ ∧ (flatI b m n ++ [b n, m n])[i * 2 + 1]? = _
    by_cases e : i = n
    · subst e
      rw [List.getElem?_append_right (by omega), List.getElem?_append_right (by omega), hl]
      simp
    · rw [List.getElem?_append_left (by omega), List.getElem?_append_left (by omega)]
      exact flatI_at b m n i (by omega)
theorem flatI_congr {b m b' m' : Nat → Value} : ∀ {n}, (∀ i, i < n → b i = b' i ∧ m i = m' i) → flatI b m n = flatI b' m' n
  | 0, _ => rfl
  | n + 1, h => by
    show flatI b m n ++ [b n, m n] = flatI b' m' n ++ [b' n, m' n]
    rw [flatI_congr (n := n) (fun i hi => h i (by omega)), (h n (by omega)).1, (h n (by omega)).2]
theorem own_below {w w' : World} {base : Nat} {e : TypeId} {size : Nat} {v : Value} {n : Nat} {xs : List Value} (h : w.ownsRow base e size v n xs) (hb : Below w.heap.size w w') : w'.ownsRow base e size v n xs := by
  refine h.kept (gb_below hb none) ?_
  cases hv : v.ownBlock with
  | none => exact Or.inl rfl
  | some k => exact Or.inr (by simp)
theorem own_tag {w : World} {B : Nat} {e T : TypeId} {size : Nat} {v : Value} {n : Nat} {xs : List Value} {b : Nat} {cs : Array Value} {fr : Nat × Nat} (hown : w.ownsRow B e size v n xs) (hb : w.heap[b]? = some (.cells cs T fr)) (hTe : T ≠ e) : v.ownBlock ≠ some b := by
  rcases hown.2 with ⟨rfl, _⟩ | ⟨g, cap, cur, rfl, _, hg, _⟩
  · simp [Value.ownBlock]
  · intro h
    have : g = b := by simpa [Value.ownBlock] using h
    subst this
    rw [hg] at hb
    injection hb with hb
    injection hb with _ hb _
    exact hTe hb.symm
theorem FrA.tag {w : World} {B base : Nat} {k : IntKind} {E e : TypeId} {m : Value} {n : Nat} {f : Nat → Int} {size : Nat} {v : Value} {nn : Nat} {xs : List Value} (h : FrA k E w base m n f) (hown : w.ownsRow B e size v nn xs) (hE : E ≠ e) : m.ownBlock = none ∨ m.ownBlock ≠ v.ownBlock := by
  rcases h with ⟨rfl, _⟩ | ⟨b, cap, rfl, _, _, _, h4, _⟩
  · exact Or.inl rfl
  · right
    obtain ⟨cur, hc, -⟩ := h4
    have := own_tag hown hc hE
    intro e'
    exact this e'.symm
theorem tagUI : 62 ≠ 49 := by decide
def OwnZ (w : World) (base : Nat) (v : Value) (n : Nat) (E : Nat → Int) : Prop :=
  ∃ M : Nat → Value, w.ownsRow base 49 2 v n (flatI (fun i => .bool (decide (E i < 0))) M n) ∧ ∀ i, i < n → FrZ w base (.agg #[.bool (decide (E i < 0)), M i]) (E i)
theorem OwnZ.start (w : World) (base : Nat) (E : Nat → Int) : OwnZ w base (.slice none 0 0) 0 E := ⟨fun _ => .slice none 0 0, ⟨rfl, Or.inl ⟨rfl, rfl⟩⟩, fun i hi => absurd hi (by omega)⟩
theorem OwnZ.slice {w : World} {base : Nat} {v : Value} {n : Nat} {E : Nat → Int} (h : OwnZ w base v n E) : ∃ a c, v = .slice a n c := by
  obtain ⟨M, h, -⟩ := h
  exact own_slice h
theorem OwnZ.below {w w' : World} {base : Nat} {v : Value} {n : Nat} {E : Nat → Int} (h : OwnZ w base v n E) (hb : Below w.heap.size w w') : OwnZ w' base v n E := by
  obtain ⟨M, h1, h2⟩ := h
  exact ⟨M, own_below h1 hb, fun i hi => (h2 i hi).below hb⟩
theorem OwnZ.congr {w : World} {base : Nat} {v : Value} {n : Nat} {E F : Nat → Int} (h : OwnZ w base v n E) (e : ∀ i, i < n → E i = F i) : OwnZ w base v n F := by
  obtain ⟨M, h1, h2⟩ := h
  refine ⟨M, ?_, fun i hi => by rw [← e i hi]; exact h2 i hi⟩
  rw [flatI_congr (b' := fun i => .bool (decide (F i < 0))) (m' := M) (fun i hi => ⟨by rw [e i hi], rfl⟩)] at h1
  exact h1
theorem OwnZ.mono {w : World} {base base' : Nat} {v : Value} {n : Nat} {E : Nat → Int} (h : OwnZ w base v n E) (hb : base' ≤ base) : OwnZ w base' v n E := by
  obtain ⟨M, ⟨h0, h1⟩, h2⟩ := h
  refine ⟨M, ⟨h0, ?_⟩, fun i hi => (h2 i hi).mono hb⟩
  rcases h1 with h | ⟨g, cap, cur, a, b, c⟩
  · exact Or.inl h
  · exact Or.inr ⟨g, cap, cur, a, Nat.le_trans hb b, c⟩
theorem OwnZ.read {w : World} {base : Nat} {v : Value} {n : Nat} {E : Nat → Int} (h : OwnZ w base v n E) (hn : n ≤ 1048576) {S : Nat} (hS : S ≤ 274877906944) (hz : ∀ i, i < n → ZB S (E i)) : RdE w v n E := by
  obtain ⟨M, ⟨h0, h1⟩, h2⟩ := h
  rcases h1 with ⟨rfl, rfl⟩ | ⟨g, cap, cur, rfl, -, h3, h4, -, -, h5⟩
  · exact ⟨none, 0, rfl, Nat.le_refl _, hn, fun h => absurd h (by omega)⟩
  · refine ⟨some ⟨g, 0, none⟩, cap, rfl, h4, hn, fun _ => ⟨g, 0, rfl, fun i hi => ⟨decide (E i < 0), M i, ?_, ?_, (h2 i hi).rd (hz i hi) hS⟩⟩⟩
    · have := (flatI_at (fun i => Value.bool (decide (E i < 0))) M n i hi).1
      rw [← h5, List.getElem?_take, if_pos (by omega)] at this
      rw [Nat.zero_add, cell_of_row _ _ _ _ _ _ h3]; simpa using this
    · have := (flatI_at (fun i => Value.bool (decide (E i < 0))) M n i hi).2
      rw [← h5, List.getElem?_take, if_pos (by omega)] at this
      rw [Nat.zero_add, cell_of_row _ _ _ _ _ _ h3]; simpa using this
theorem FrZ.grow_tag {w w' : World} {base B : Nat} {x : Value} {z : Int} (h : FrZ w base x z) {v : Value} {nn : Nat} {xs : List Value} (hown : w.ownsRow B 49 2 v nn xs) (hg : w.grownBy w' v.ownBlock) : FrZ w' base x z := by
  obtain ⟨m, n, f, e, h1, h2⟩ := h
  exact ⟨m, n, f, e, h1.grown hg (h1.tag hown tagUI), h2⟩
theorem OwnZ.push {w w' : World} {base : Nat} {v v' : Value} {n : Nat} {E : Nat → Int} {M : Nat → Value} {mv : Value} {z : Int}
    (h1 : w.ownsRow base 49 2 v n (flatI (fun i => .bool (decide (E i < 0))) M n)) (h2 : ∀ i, i < n → FrZ w base (.agg #[.bool (decide (E i < 0)), M i]) (E i))
    (hr : FrZ w base (.agg #[.bool (decide (z < 0)), mv]) z)
    (g1 : w'.ownsRow base 49 2 v' (n + 1) (flatI (fun i => .bool (decide (E i < 0))) M n ++ [.bool (decide (z < 0)), mv])) (g2 : w.grownBy w' v.ownBlock) :
    OwnZ w' base v' (n + 1) (fun i => if i = n then z else E i) := by
  refine ⟨fun i => if i = n then mv else M i, ?_, fun i hi => ?_⟩
  · show w'.ownsRow base _ 2 v' (n + 1) (flatI _ _ n ++ [_, _])
    rw [flatI_congr (b' := fun i => .bool (decide (E i < 0))) (m' := M) (fun i hi => ⟨by simp only [if_neg (Nat.ne_of_lt hi)], by simp only [if_neg (Nat.ne_of_lt hi)]⟩)]
    simp only [if_true]
    exact g1
  · show FrZ w' base (.agg #[.bool (decide ((if i = n then z else E i) < 0)), if i = n then mv else M i]) (if i = n then z else E i)
    by_cases e : i = n
    · simp only [if_pos e]
      exact hr.grow_tag h1 g2
    · simp only [if_neg e]
      exact (h2 i (by omega)).grow_tag h1 g2
theorem own_sep {w : World} {B B' : Nat} {e e' : TypeId} {size size' : Nat} {v v' : Value} {n n' : Nat} {xs xs' : List Value} (h : w.ownsRow B e size v n xs) (h' : w.ownsRow B' e' size' v' n' xs') (hne : e' ≠ e) : v'.ownBlock = none ∨ v'.ownBlock ≠ v.ownBlock := by
  rcases h'.2 with ⟨rfl, _⟩ | ⟨g, cap, cur, rfl, _, hg, _⟩
  · exact Or.inl rfl
  · right
    intro e1
    exact own_tag h hg hne e1.symm
theorem tagNI : 3 ≠ 49 := by decide
theorem OwnL.ints {w w' : World} {base B : Nat} {v p : Value} {n k : Nat} {E : Nat → Int} {F : Nat → Value} (hp : OwnL w B 3 p k F) (h : OwnZ w base v n E) (hg : w.grownBy w' v.ownBlock) : OwnL w' B 3 p k F := by
  obtain ⟨M, h1, h2⟩ := h
  have hp' : w.ownsRow B 3 1 p k ((List.range k).map F) := hp
  exact hp'.kept hg (own_sep h1 hp' tagNI)
end Go.Proofs.Ytejliecmdkmgiaa
namespace Go.Proofs.Ytejliecmdkmgiaa
open Go.RowKit
end Go.Proofs.Ytejliecmdkmgiaa
namespace Go.Proofs.Ytejliecmdkmgiaa
open Go.RowKit
theorem FrZ.far {w w' : World} {base b : Nat} {v : Value} {z : Int} (h : FrZ w base v z) (hg : w.grownBy w' (some b)) (hb : b < base) : FrZ w' base v z := by
  obtain ⟨m, n, f, e, h1, h2⟩ := h
  refine ⟨m, n, f, e, h1.grown hg ?_, h2⟩
  cases hm : m.ownBlock with
  | none => exact Or.inl rfl
  | some k => right; have := (h1.lt hm).1; intro e; injection e with e; omega
theorem FrA.far {k : IntKind} {e : TypeId} {w w' : World} {base b : Nat} {v : Value} {n : Nat} {f : Nat → Int} (h : FrA k e w base v n f) (hg : w.grownBy w' (some b)) (hb : b < base) : FrA k e w' base v n f := by
  refine h.grown hg ?_
  cases hm : v.ownBlock with
  | none => exact Or.inl rfl
  | some k => right; have := (h.lt hm).1; intro e; injection e with e; omega
def Apart (v1 v2 : Value) : Prop := ∀ b, v1.ownBlock = some b → v2.ownBlock ≠ some b
theorem Apart.symm {v1 v2 : Value} (h : Apart v1 v2) : Apart v2 v1 := fun b h2 h1 => h b h1 h2
theorem FrA.apart {k k' : IntKind} {e e' : TypeId} {w w' : World} {base : Nat} {v v' : Value} {n n' : Nat} {f f' : Nat → Int} (h : FrA k e w base v n f) (h' : FrA k' e' w' w.heap.size v' n' f') : Apart v v' := by
  intro b hb hb'
  rcases h with ⟨rfl, -⟩ | ⟨g, cap, rfl, -, -, -, hB, -⟩
  · simp [Value.ownBlock] at hb
  · simp [Value.ownBlock] at hb
    subst hb
    rcases h' with ⟨rfl, -⟩ | ⟨g', cap', rfl, -, -, hg, -, -⟩
    · simp [Value.ownBlock] at hb'
    · simp [Value.ownBlock] at hb'
      have := hB.lt
      omega
end Go.Proofs.Ytejliecmdkmgiaa
namespace Go.Proofs.Ytejliecmdkmgiaa
open Go.RowKit
theorem idx_dm {c i j : Nat} (hj : j < c) : (i * c + j) / c = i ∧ (i * c + j) % c = j := by
  have h1 : (i * c + j) % c = j := by rw [Nat.add_comm, Nat.add_mul_mod_self_right, Nat.mod_eq_of_lt hj]
  have h2 : (i * c + j) / c = i := by rw [Nat.add_comm, Nat.add_mul_div_right _ _ (by omega), Nat.div_eq_of_lt hj, Nat.zero_add]
  exact ⟨h2, h1⟩
theorem idx_at {r c q : Nat} (hq : q < r * c) : q / c < r ∧ q % c < c := by
  have hC : 0 < c := Nat.pos_of_ne_zero fun e => by rw [e, Nat.mul_zero] at hq; omega
  exact ⟨(Nat.div_lt_iff_lt_mul hC).2 hq, Nat.mod_lt _ hC⟩
theorem OwnZ.one (w : World) (base : Nat) (hb : base ≤ w.heap.size) {z : Int} {mv : Value} (hz : FrZ w base (.agg #[.bool (decide (z < 0)), mv]) z) :
    OwnZ (w.alloc (.cells #[.bool (decide (z < 0)), mv] 49)) base (.slice (some ⟨w.heap.size, 0, none⟩) 1 1) 1 (fun _ => z) := by
  refine ⟨fun _ => mv, ⟨by rw [flatI_len], Or.inr ⟨w.heap.size, 1, _, rfl, hb, heap_alloc_new w _, Nat.le_refl _, by unfold maxLen; omega, rfl, ?_⟩⟩, fun i hi => hz.below (bl_alloc _ _)⟩
  simp [flatI]
end Go.Proofs.Ytejliecmdkmgiaa
namespace Go.Proofs.Ytejliecmdkmgiaa
open Go.RowKit
end Go.Proofs.Ytejliecmdkmgiaa
