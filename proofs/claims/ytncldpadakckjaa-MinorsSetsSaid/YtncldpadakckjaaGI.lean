/- A list of integers of the call's own, filled by append with integers made on the way; slices.Clone of a list of numbers. The walks of slices.Clone of a list of numbers, bareiss.Core, bareiss.Leading. The walk of bareiss.Core. The walk of bareiss.Leading. The walks of the law's det, refused, without. -/
import Derived.Test.YtncldpadakckjaaGH
import Derived.Deep.AppendLies
import Derived.OwnWalk
set_option linter.unusedVariables false
set_option linter.unusedSimpArgs false
namespace Go.Proofs.Ytncldpadakckjaa
open Go.RowKit

/-- the cells of n integers -/
def flatI (b m : Nat → Value) : Nat → List Value
  | 0 => []
  | n + 1 => flatI b m n ++ [b n, m n]
theorem flatI_len (b m : Nat → Value) : ∀ n, (flatI b m n).length = n * 2
  | 0 => rfl
  | n + 1 => by show (flatI b m n ++ [b n, m n]).length = _; rw [List.length_append, flatI_len b m n]; simp; omega
theorem flatI_at (b m : Nat → Value) : ∀ n i, i < n → (flatI b m n)[i * 2]? = some (b i) ∧ (flatI b m n)[i * 2 + 1]? = some (m i)
  | 0, _, h => absurd h (by omega)
  | n + 1, i, h => by
    have hl := flatI_len b m n
    show (flatI b m n ++ [b n, m n])[i * 2]? = _ ∧ (flatI b m n ++ [b n, m n])[i * 2 + 1]? = _
    by_cases e : i = n
    · subst e
      rw [List.getElem?_append_right (by omega), List.getElem?_append_right (by omega), hl]
      simp
    · rw [List.getElem?_append_left (by omega), List.getElem?_append_left (by omega)]
      exact flatI_at b m n i (by omega)
theorem flatI_congr {b m b' m' : Nat → Value} : ∀ {n}, (∀ i, i < n → b i = b' i ∧ m i = m' i) → flatI b m n = flatI b' m' n
  | 0, _ => rfl
  | n + 1, h => by
    show flatI b m n ++ [b n, m n] = flatI b' m' n ++ [b' n, m' n]
    rw [flatI_congr (n := n) (fun i hi => h i (by omega)), (h n (by omega)).1, (h n (by omega)).2]

theorem own_below {w w' : World} {base : Nat} {e : TypeId} {size : Nat} {v : Value} {n : Nat} {xs : List Value} (h : w.ownsRow base e size v n xs) (hb : Below w.heap.size w w') : w'.ownsRow base e size v n xs := by
  refine h.kept (gb_below hb none) ?_
  cases hv : v.ownBlock with
  | none => exact Or.inl rfl
  | some k => exact Or.inr (by simp)
theorem own_tag {w : World} {B : Nat} {e T : TypeId} {size : Nat} {v : Value} {n : Nat} {xs : List Value} {b : Nat} {cs : Array Value} {fr : Nat × Nat} (hown : w.ownsRow B e size v n xs) (hb : w.heap[b]? = some (.cells cs T fr)) (hTe : T ≠ e) : v.ownBlock ≠ some b := by
  rcases hown.2 with ⟨rfl, _⟩ | ⟨g, cap, cur, rfl, _, hg, _⟩
  · simp [Value.ownBlock]
  · intro h
    have : g = b := by simpa [Value.ownBlock] using h
    subst this
    rw [hg] at hb
    injection hb with hb
    injection hb with _ hb _
    exact hTe hb.symm
theorem FrA.tag {w : World} {B base : Nat} {k : IntKind} {E e : TypeId} {m : Value} {n : Nat} {f : Nat → Int} {size : Nat} {v : Value} {nn : Nat} {xs : List Value} (h : FrA k E w base m n f) (hown : w.ownsRow B e size v nn xs) (hE : E ≠ e) : m.ownBlock = none ∨ m.ownBlock ≠ v.ownBlock := by
  rcases h with ⟨rfl, _⟩ | ⟨b, cap, rfl, _, _, _, h4, _⟩
  · exact Or.inl rfl
  · right
    obtain ⟨cur, hc, -⟩ := h4
    have := own_tag hown hc hE
    intro e'
    exact this e'.symm


theorem tagUI : 87 ≠ 42 := by decide
/-- the value v is a list of n integers in cells of the call's own, each in least form, its words in memory of its own -/
def OwnZ (w : World) (base : Nat) (v : Value) (n : Nat) (E : Nat → Int) : Prop :=
  ∃ M : Nat → Value, w.ownsRow base 42 2 v n (flatI (fun i => .bool (decide (E i < 0))) M n) ∧ ∀ i, i < n → FrZ w base (.agg #[.bool (decide (E i < 0)), M i]) (E i)
theorem OwnZ.start (w : World) (base : Nat) (E : Nat → Int) : OwnZ w base (.slice none 0 0) 0 E := ⟨fun _ => .slice none 0 0, ⟨rfl, Or.inl ⟨rfl, rfl⟩⟩, fun i hi => absurd hi (by omega)⟩
theorem OwnZ.slice {w : World} {base : Nat} {v : Value} {n : Nat} {E : Nat → Int} (h : OwnZ w base v n E) : ∃ a c, v = .slice a n c := by
  obtain ⟨M, h, -⟩ := h
  exact own_slice h
theorem OwnZ.below {w w' : World} {base : Nat} {v : Value} {n : Nat} {E : Nat → Int} (h : OwnZ w base v n E) (hb : Below w.heap.size w w') : OwnZ w' base v n E := by
  obtain ⟨M, h1, h2⟩ := h
  exact ⟨M, own_below h1 hb, fun i hi => (h2 i hi).below hb⟩
theorem OwnZ.congr {w : World} {base : Nat} {v : Value} {n : Nat} {E F : Nat → Int} (h : OwnZ w base v n E) (e : ∀ i, i < n → E i = F i) : OwnZ w base v n F := by
  obtain ⟨M, h1, h2⟩ := h
  refine ⟨M, ?_, fun i hi => by rw [← e i hi]; exact h2 i hi⟩
  rw [flatI_congr (b' := fun i => .bool (decide (F i < 0))) (m' := M) (fun i hi => ⟨by rw [e i hi], rfl⟩)] at h1
  exact h1
theorem OwnZ.mono {w : World} {base base' : Nat} {v : Value} {n : Nat} {E : Nat → Int} (h : OwnZ w base v n E) (hb : base' ≤ base) : OwnZ w base' v n E := by
  obtain ⟨M, ⟨h0, h1⟩, h2⟩ := h
  refine ⟨M, ⟨h0, ?_⟩, fun i hi => (h2 i hi).mono hb⟩
  rcases h1 with h | ⟨g, cap, cur, a, b, c⟩
  · exact Or.inl h
  · exact Or.inr ⟨g, cap, cur, a, Nat.le_trans hb b, c⟩
theorem OwnZ.read {w : World} {base : Nat} {v : Value} {n : Nat} {E : Nat → Int} (h : OwnZ w base v n E) (hn : n ≤ 1048576) {S : Nat} (hS : S ≤ 274877906944) (hz : ∀ i, i < n → ZB S (E i)) : RdE w v n E := by
  obtain ⟨M, ⟨h0, h1⟩, h2⟩ := h
  rcases h1 with ⟨rfl, rfl⟩ | ⟨g, cap, cur, rfl, -, h3, h4, -, -, h5⟩
  · exact ⟨none, 0, rfl, Nat.le_refl _, hn, fun h => absurd h (by omega)⟩
  · refine ⟨some ⟨g, 0, none⟩, cap, rfl, h4, hn, fun _ => ⟨g, 0, rfl, fun i hi => ⟨decide (E i < 0), M i, ?_, ?_, (h2 i hi).rd (hz i hi) hS⟩⟩⟩
    · have := (flatI_at (fun i => Value.bool (decide (E i < 0))) M n i hi).1
      rw [← h5, List.getElem?_take, if_pos (by omega)] at this
      rw [Nat.zero_add, cell_of_row _ _ _ _ _ _ h3]; simpa using this
    · have := (flatI_at (fun i => Value.bool (decide (E i < 0))) M n i hi).2
      rw [← h5, List.getElem?_take, if_pos (by omega)] at this
      rw [Nat.zero_add, cell_of_row _ _ _ _ _ _ h3]; simpa using this

theorem FrZ.grow_tag {w w' : World} {base B : Nat} {x : Value} {z : Int} (h : FrZ w base x z) {v : Value} {nn : Nat} {xs : List Value} (hown : w.ownsRow B 42 2 v nn xs) (hg : w.grownBy w' v.ownBlock) : FrZ w' base x z := by
  obtain ⟨m, n, f, e, h1, h2⟩ := h
  exact ⟨m, n, f, e, h1.grown hg (h1.tag hown tagUI), h2⟩
/-- one integer more: what the append leaves -/
theorem OwnZ.push {w w' : World} {base : Nat} {v v' : Value} {n : Nat} {E : Nat → Int} {M : Nat → Value} {mv : Value} {z : Int}
    (h1 : w.ownsRow base 42 2 v n (flatI (fun i => .bool (decide (E i < 0))) M n)) (h2 : ∀ i, i < n → FrZ w base (.agg #[.bool (decide (E i < 0)), M i]) (E i))
    (hr : FrZ w base (.agg #[.bool (decide (z < 0)), mv]) z)
    (g1 : w'.ownsRow base 42 2 v' (n + 1) (flatI (fun i => .bool (decide (E i < 0))) M n ++ [.bool (decide (z < 0)), mv])) (g2 : w.grownBy w' v.ownBlock) :
    OwnZ w' base v' (n + 1) (fun i => if i = n then z else E i) := by
  refine ⟨fun i => if i = n then mv else M i, ?_, fun i hi => ?_⟩
  · show w'.ownsRow base _ 2 v' (n + 1) (flatI _ _ n ++ [_, _])
    rw [flatI_congr (b' := fun i => .bool (decide (E i < 0))) (m' := M) (fun i hi => ⟨by simp only [if_neg (Nat.ne_of_lt hi)], by simp only [if_neg (Nat.ne_of_lt hi)]⟩)]
    simp only [if_true]
    exact g1
  · show FrZ w' base (.agg #[.bool (decide ((if i = n then z else E i) < 0)), if i = n then mv else M i]) (if i = n then z else E i)
    by_cases e : i = n
    · simp only [if_pos e]
      exact hr.grow_tag h1 g2
    · simp only [if_neg e]
      exact (h2 i (by omega)).grow_tag h1 g2

/-- two rows of the call's own, of different types, lie apart -/
theorem own_sep {w : World} {B B' : Nat} {e e' : TypeId} {size size' : Nat} {v v' : Value} {n n' : Nat} {xs xs' : List Value} (h : w.ownsRow B e size v n xs) (h' : w.ownsRow B' e' size' v' n' xs') (hne : e' ≠ e) : v'.ownBlock = none ∨ v'.ownBlock ≠ v.ownBlock := by
  rcases h'.2 with ⟨rfl, _⟩ | ⟨g, cap, cur, rfl, _, hg, _⟩
  · exact Or.inl rfl
  · right
    intro e1
    exact own_tag h hg hne e1.symm
theorem tagNI : 3 ≠ 42 := by decide
theorem tagNU : 87 ≠ 3 := by decide
/-- a list of numbers turns: the list of integers stays -/
theorem OwnZ.nums {w w' : World} {base B : Nat} {v p : Value} {n k : Nat} {E : Nat → Int} {F : Nat → Value} (h : OwnZ w base v n E) (hp : OwnL w B 3 p k F) (hg : w.grownBy w' p.ownBlock) : OwnZ w' base v n E := by
  obtain ⟨M, h1, h2⟩ := h
  have hp' : w.ownsRow B 3 1 p k ((List.range k).map F) := hp
  refine ⟨M, h1.kept hg (own_sep hp' h1 (fun e => tagNI e.symm)), fun i hi => ?_⟩
  obtain ⟨m, nn, f, e, g1, g2⟩ := h2 i hi
  exact ⟨m, nn, f, e, g1.grown hg (g1.tag hp' tagNU), g2⟩
/-- a list of integers turns: the list of numbers stays -/
theorem OwnL.ints {w w' : World} {base B : Nat} {v p : Value} {n k : Nat} {E : Nat → Int} {F : Nat → Value} (hp : OwnL w B 3 p k F) (h : OwnZ w base v n E) (hg : w.grownBy w' v.ownBlock) : OwnL w' B 3 p k F := by
  obtain ⟨M, h1, h2⟩ := h
  have hp' : w.ownsRow B 3 1 p k ((List.range k).map F) := hp
  exact hp'.kept hg (own_sep h1 hp' tagNI)

/-- an integer more behind a list of the call's own -/
theorem wp_pushZ {wr : World} {ops : Array Oper} {rest : List Oper} {o : Oper} {a : Act} {Q : Exit → Act → World → Prop} (hgd : o.guard = none) (s x : Operand) (t : TypeId)
    (ho : o.op = .call { callee := .builtin .append, args := #[s, x], argTypes := #[t, t] }) (ht : Try.prog.underlying t = some (.slice 42))
    {base : Nat} {v : Value} {n : Nat} {E : Nat → Int} (hown : OwnZ wr base v n E) (hs : a.eval s = v) {z : Int} {mv : Value} {nb : Nat} (hx : a.eval x = .slice (some ⟨nb, 0, none⟩) 1 1) (hnb : nb = wr.heap.size) (hm : mv.oneCell' = true) (hz : FrZ wr base (.agg #[.bool (decide (z < 0)), mv]) z) (hb : base ≤ wr.heap.size) (hn : n ≤ 1048576)
    (h : ∀ v' w', OwnZ w' base v' (n + 1) (fun i => if i = n then z else E i) → Below base wr w' → wr.grownBy w' v.ownBlock → wpList Try.prog ops Q rest (a.put o.dst v') w') : wpList Try.prog ops Q (o :: rest) a (wr.alloc (.cells #[.bool (decide (z < 0)), mv] 42)) := by
  subst hnb
  obtain ⟨i0, hi, hz0, hz1, hz2⟩ := info_parts infoI
  obtain ⟨M, o1, o2⟩ := hown
  have hba := (Below.refl wr.heap.size wr).alloc (Nat.le_refl _) (.cells #[.bool (decide (z < 0)), mv] 42)
  have o3 := own_below o1 hba
  refine wpList_append_own _ hgd s x t ho base 42 i0 (.agg #[.bool false, .slice none 0 0]) 2 32 ht hi hz0 hz1 hz2 rfl (by decide) v n _ hs o3 ⟨wr.heap.size, 0, none⟩ 1 1 [.bool (decide (z < 0)), mv] hx rfl ?_ ?_ (by unfold maxLen; omega) (by omega) (Nat.le_trans hb hba.size) fun v' w' h1 h2 _ => h v' w' (OwnZ.push o3 (fun i hi => (o2 i hi).below hba) (hz.below hba) h1 h2) ?_ (gb_trans (gb_below hba _) h2)
  · intro j y hj
    match j, hj with
    | 0, hj => simp at hj; subst hj; simp [Addr.add]
    | 1, hj => simp at hj; subst hj; simp [Addr.add]
  · intro y hy
    simp at hy
    rcases hy with rfl | rfl
    · rfl
    · exact hm
  · exact ((Below.refl base wr).trans (hba.mono hb)).grown h2 (Nat.le_trans hb hba.size) fun k hk => (o3.lt k hk).1
end Go.Proofs.Ytncldpadakckjaa

namespace Go.Proofs.Ytncldpadakckjaa
open Go.RowKit

set_option maxHeartbeats 1000000 in
set_option maxRecDepth 100000 in
theorem Clone_any (v : Value) (n : Nat) (f : Nat → Nat) (w : World) (h0 : 0 < n) (hn : n ≤ 64) (hv : RdI64 w v n f) :
    Calls Try.prog 76 #[v] w fun e w' => ∃ v', e = .returned v' ∧ RdI64 w' v' n f ∧ Below w.heap.size w w' := by
  obtain ⟨a, cap, rfl, h1, h2, h3⟩ := wd_get hv
  obtain ⟨b, o, rfl, -⟩ := h3 0 h0
  have H3 := Lib.hid h3
  have hba := bl_alloc w (.cells #[] 3)
  have ho : (w.alloc (.cells #[] 3)).ownsRow w.heap.size 3 1 (.slice (some ⟨w.heap.size, 0, none⟩) 0 0) 0 [] := own_none _ _ _ 0 (Nat.le_refl _) (heap_alloc_new w _) rfl (Nat.zero_le _)
  have HO := Lib.hid ho
  have HBA := Lib.hid hba
  obtain ⟨i0, hi, hz0, hz1, hz2⟩ := info_parts infoN
  have HI := Lib.hid (And.intro hi (And.intro hz0 (And.intro hz1 hz2)))
  have hnews : ∀ j u, ((List.range n).map fun i => Value.int .i64 (f i : Nat))[j]? = some u → (w.alloc (.cells #[] 3)).cell? (Addr.add ⟨b, o, none⟩ j) = some u := fun j u hj => by
    simp only [List.getElem?_map] at hj
    by_cases hjn : j < n
    · rw [List.getElem?_range hjn] at hj
      simp at hj
      obtain ⟨b', o', e, hc⟩ := H3.out j hjn
      simp only [Option.some.injEq, Addr.mk.injEq, and_true] at e
      obtain ⟨rfl, rfl⟩ := e
      rw [← hj]
      rw [Addr.add_lit]
      exact cell_stays HBA.out hc
    · rw [List.getElem?_eq_none (by simp; omega)] at hj
      simp at hj
  have hone : ∀ u ∈ ((List.range n).map fun i => Value.int .i64 (f i : Nat)), u.oneCell' = true := fun u hu => by
    simp at hu
    obtain ⟨i, -, rfl⟩ := hu
    rfl
  have HN := Lib.hid (And.intro hnews hone)
  clear hnews hone hv h3 ho hba hi hz0 hz1 hz2
  have he : ∀ w : World, (binOp .eql 25 (.slice (some ⟨b, o, none⟩) n cap) (.slice none 0 0)).run Try.prog w = .ok (.bool false) w := fun _ => rfl
  go_enter Try.func76, Try.ntmps76
  go_wp2_with (at_builtin; (refine wpList_append_own _ rfl _ _ 25 rfl w.heap.size 3 i0 (.int .i64 0) 1 8 Try.underlying25 HI.out.1 HI.out.2.1 HI.out.2.2.1 HI.out.2.2.2 rfl (by decide) (.slice (some ⟨w.heap.size, 0, none⟩) 0 0) 0 _ rfl HO.out ⟨b, o, none⟩ n cap ((List.range n).map fun i => .int .i64 (f i : Nat)) rfl (by simp) HN.out.1 HN.out.2 (by unfold maxLen; omega) (by omega) (by simp) ?_); intro v' w' g1 g2 _; rw [Nat.zero_add, List.nil_append] at g1; have HF := Lib.hid (own_fr (k := .i64) (f := fun i => (f i : Int)) g1 (by omega)).read; have HB := Lib.hid (HBA.out.grown g2 HBA.out.size (fun k hk => by simp [Value.ownBlock] at hk; omega)); clear g1 g2)
  go_ret
  exact ⟨_, rfl, HF.out, HB.out⟩
end Go.Proofs.Ytncldpadakckjaa

namespace Go.Proofs.Ytncldpadakckjaa
open Go.RowKit

theorem FrZ.far {w w' : World} {base b : Nat} {v : Value} {z : Int} (h : FrZ w base v z) (hg : w.grownBy w' (some b)) (hb : b < base) : FrZ w' base v z := by
  obtain ⟨m, n, f, e, h1, h2⟩ := h
  refine ⟨m, n, f, e, h1.grown hg ?_, h2⟩
  cases hm : m.ownBlock with
  | none => exact Or.inl rfl
  | some k => right; have := (h1.lt hm).1; intro e; injection e with e; omega
theorem FrA.far {k : IntKind} {e : TypeId} {w w' : World} {base b : Nat} {v : Value} {n : Nat} {f : Nat → Int} (h : FrA k e w base v n f) (hg : w.grownBy w' (some b)) (hb : b < base) : FrA k e w' base v n f := by
  refine h.grown hg ?_
  cases hm : v.ownBlock with
  | none => exact Or.inl rfl
  | some k => right; have := (h.lt hm).1; intro e; injection e with e; omega

/-- two lists that lie apart -/
def Apart (v1 v2 : Value) : Prop := ∀ b, v1.ownBlock = some b → v2.ownBlock ≠ some b
theorem Apart.symm {v1 v2 : Value} (h : Apart v1 v2) : Apart v2 v1 := fun b h2 h1 => h b h1 h2
theorem FrA.apart {k k' : IntKind} {e e' : TypeId} {w w' : World} {base : Nat} {v v' : Value} {n n' : Nat} {f f' : Nat → Int} (h : FrA k e w base v n f) (h' : FrA k' e' w' w.heap.size v' n' f') : Apart v v' := by
  intro b hb hb'
  rcases h with ⟨rfl, -⟩ | ⟨g, cap, rfl, -, -, -, hB, -⟩
  · simp [Value.ownBlock] at hb
  · simp [Value.ownBlock] at hb
    subst hb
    rcases h' with ⟨rfl, -⟩ | ⟨g', cap', rfl, -, -, hg, -, -⟩
    · simp [Value.ownBlock] at hb'
    · simp [Value.ownBlock] at hb'
      have := hB.lt
      omega

set_option maxHeartbeats 4000000 in
set_option maxRecDepth 100000 in
theorem Core_good (R C S : Nat) (sl : Value) (A : Nat → Int) (w : World) (hR : R ≤ 64) (hC : C ≤ 64) (hS : S ≤ 268435456) (hr : RdE w sl (R * C) A) (hA : ∀ q, q < R * C → ZB S (A q)) :
    Calls Try.prog 35 #[.agg #[.int .i64 R, .int .i64 C, sl]] w fun e w' => ∃ r Q P rv cv v, e = .returned (.tuple #[rv, cv, v, .int .i64 0]) ∧ PivQ C R r Q (fun j i => A (i * C + j)) ∧ PivQ R C r P (fun i j => A (i * C + j)) ∧
      FrA .i64 3 w' w.heap.size rv r (fun i => (Q i : Int)) ∧ FrA .i64 3 w' w.heap.size cv r (fun i => (P i : Int)) ∧ FrZ w' w.heap.size v (laZ.dt r (fun i j => A (Q i * C + P j))) ∧ Below w.heap.size w w' ∧ Apart rv cv ∧ CapOk rv ∧ CapOk cv := by
  have hK4 : R * C ≤ 4096 := Nat.mul_le_mul hR hC
  obtain ⟨a, cap, rfl, hcap⟩ := hr.slice
  obtain ⟨⟨c0, c1, c2⟩, ⟨z0, z1, z2, z3⟩, hB, hsz⟩ := boxesI w (.int .i64 R) (.int .i64 C) (.slice a (R * C) cap)
  have hrs := fun (u : World) (hu : Below w.heap.size w u) => RowSet_own R C S _ A u hR hC hS (hr.below hu) hA
  have hpi := fun (u : World) (hu : Below w.heap.size w u) => Pivots_own R C S _ A u hR hC hS (hr.below hu) hA
  have hpk := fun (r : Nat) (Q P : Nat → Nat) (rv cv : Value) (u : World) (hu : Below w.heap.size w u) (hr64 : r ≤ 64) (hQ : ∀ i, i < r → Q i < R) (hP : ∀ i, i < r → P i < C) (h1 : RdI64 u rv r Q) (h2 : RdI64 u cv r P) =>
    Pick_good R C r r (.slice a (R * C) cap) rv cv P Q A u hR hC hr64 hr64 hQ hP (hr.below hu) h1 h2
  have hzb : ∀ (r : Nat) (Q P : Nat → Nat) (hQ : ∀ i, i < r → Q i < R) (hP : ∀ i, i < r → P i < C), ∀ q, q < r * r → ZB S (A (Q (q / r) * C + P (q % r))) := fun r Q P hQ hP q hq => by
    have hr0 : 0 < r := Nat.pos_of_ne_zero fun e => by rw [e, Nat.mul_zero] at hq; omega
    exact hA _ (idx_lt (hQ _ ((Nat.div_lt_iff_lt_mul hr0).2 hq)) (hP _ (Nat.mod_lt _ hr0)) rfl).1
  generalize R * C = K at *
  have HRS := Lib.hid hrs
  have HPI := Lib.hid hpi
  have HPK := Lib.hid hpk
  have HZB := Lib.hid hzb
  have HB := Lib.hid hB
  have HSZ := Lib.hid hsz
  clear hrs hpi hpk hzb hB hsz hr hA
  go_enter Try.func35, Try.ntmps35
  go_upto_region 1 with fail
  generalize (w.alloc (.cells #[.int .i64 R, .int .i64 C, .slice a K cap] 24)).alloc (.cells #[.bool false, .slice none 0 0] 42) = W at *
  go_wp2_with fail
  (refine (HRS.out W HB.out).mono ?_)
  rintro e w1 ⟨r, Q, rv, rfl, hpQ, hfQ, hb1, hcoQ⟩
  obtain ⟨ra, rc, rfl⟩ := hfQ.slice
  have HB1 := Lib.hid (HB.out.trans (hb1.mono HB.out.size))
  have HPQ := Lib.hid hpQ
  have HFQ := Lib.hid (hfQ.mono (show w.heap.size + 2 ≤ W.heap.size by rw [HSZ.out]; exact Nat.le_refl _))
  have HS1 := Lib.hid (show w.heap.size + 2 ≤ w1.heap.size by have := HSZ.out; have := hb1.size; omega)
  replace z2 := froz_stays hb1 z0 z2
  replace z3 := froz_stays hb1 z1 z3
  replace z0 := cell_stays hb1 z0
  replace z1 := cell_stays hb1 z1
  replace c0 := cell_stays hb1 c0
  replace c1 := cell_stays hb1 c1
  replace c2 := cell_stays hb1 c2
  have HCQ := Lib.hid hcoQ
  clear hb1 HRS HB hpQ hfQ hcoQ
  go_wp2_with fail
  (refine (HPI.out w1 HB1.out).mono ?_)
  rintro e w2 ⟨r', P, cv, rfl, hpP, hfP, hb2, hcoP⟩
  obtain rfl := HPQ.out.turn hpP
  obtain ⟨ca, cc, rfl⟩ := hfP.slice
  have HB2 := Lib.hid (HB1.out.trans (hb2.mono HB1.out.size))
  have HS2 := Lib.hid (Nat.le_trans HS1.out hb2.size)
  have HPP := Lib.hid hpP
  have HFP := Lib.hid (hfP.mono HS1.out)
  have HAP := Lib.hid (HFQ.out.apart hfP)
  have HFQ2 := Lib.hid (HFQ.out.below hb2)
  replace z2 := froz_stays hb2 z0 z2
  replace z3 := froz_stays hb2 z1 z3
  replace z0 := cell_stays hb2 z0
  replace z1 := cell_stays hb2 z1
  replace c0 := cell_stays hb2 c0
  replace c1 := cell_stays hb2 c1
  replace c2 := cell_stays hb2 c2
  have hr64 : r ≤ 64 := by have := HPP.out.le; omega
  have HCP := Lib.hid hcoP
  clear hcoP hb2 HPI hpP hfP HFQ HS1 HSZ HB1
  go_wp2_with fail
  (refine (HPK.out r Q P _ _ w2 HB2.out hr64 HPQ.out.lt HPP.out.lt HFQ2.out.read HFP.out.read).mono ?_)
  rintro e w3 ⟨lb, rfl, hf3, hb3⟩
  have hba := bl_alloc w3 (.cells #[.int .i64 r, .int .i64 r, .slice (some ⟨lb, 0, none⟩) (r * r) (r * r)] 24)
  have hb3' := below_via hb3 hba
  have hrr : r * r ≤ 4096 := Nat.mul_le_mul hr64 hr64
  have hrd := (hf3.rd (Nat.le_refl _) (by omega)).below hba
  have hdet := Det_good r S _ _ _ hr64 hS hrd (HZB.out r Q P HPQ.out.lt HPP.out.lt)
  have hdt : laZ.dt r (fun i j => A (Q ((i * r + j) / r) * C + P ((i * r + j) % r))) = laZ.dt r (fun i j => A (Q i * C + P j)) := laZ.dt_congr fun i j _ hj => by
    have h1 : (i * r + j) % r = j := by rw [Nat.add_comm, Nat.add_mul_mod_self_right, Nat.mod_eq_of_lt hj]
    have h2 : (i * r + j) / r = i := by rw [Nat.add_comm, Nat.add_mul_div_right _ _ (by omega), Nat.div_eq_of_lt hj, Nat.zero_add]
    rw [h1, h2]
  rw [hdt] at hdet
  have HDET := Lib.hid hdet
  have HB3 := Lib.hid (below_via HB2.out hb3')
  have HS3 := Lib.hid (Nat.le_trans HS2.out hb3'.size)
  have HFQ3 := Lib.hid (HFQ2.out.below hb3')
  have HFP3 := Lib.hid (HFP.out.below hb3')
  replace z2 := froz_stays hb3' z0 z2
  replace z3 := froz_stays hb3' z1 z3
  replace z0 := cell_stays hb3' z0
  replace z1 := cell_stays hb3' z1
  clear c0 c1 c2 hb3 hb3' hba hrd hdet hdt hf3 HPK HZB HFQ2 HFP HB2 HS2
  go_wp2_with fail
  (refine HDET.out.mono ?_)
  rintro e w5 ⟨v, rfl, hf5, hb5⟩
  replace z2 := froz_stays hb5 z0 z2
  replace z3 := froz_stays hb5 z1 z3
  replace z0 := cell_stays hb5 z0
  replace z1 := cell_stays hb5 z1
  obtain ⟨D, hD⟩ : ∃ D, D = laZ.dt r (fun i j => A (Q i * C + P j)) := ⟨_, rfl⟩
  rw [← hD] at hf5
  have HD := Lib.hid hD
  obtain ⟨am, an, ac, rfl, -⟩ := (hf5.mono (show w.heap.size + 1 + 1 ≤ _ from HS3.out)).stored
  have g5 := stored2_gb w5 (w.heap.size + 1) (.bool (decide (D < 0))) (.slice am an ac)
  have HF5 := Lib.hid ((hf5.mono HS3.out).far g5 (by omega))
  have HFQ5 := Lib.hid ((HFQ3.out.below hb5).far g5 (by omega))
  have HFP5 := Lib.hid ((HFP3.out.below hb5).far g5 (by omega))
  have HB5 := Lib.hid ((below_via HB3.out hb5).grown g5 (below_via HB3.out hb5).size (fun k hk => by injection hk with hk; omega))
  clear hf5 hb5 g5 hD HDET HFQ3 HFP3 HB3
  have g6 := stored2_gb (stored2 w5 (w.heap.size + 1) (.bool (decide (D < 0))) (.slice am an ac)) (w.heap.size + 1) (.bool (decide (D < 0))) (.slice am an ac)
  have HF6 := Lib.hid (((HF5.out.far g6 (by omega)).below (bl_drew _)).mono (show w.heap.size ≤ w.heap.size + 2 by omega))
  have HFQ6 := Lib.hid (((HFQ5.out.far g6 (by omega)).below (bl_drew _)).mono (show w.heap.size ≤ w.heap.size + 2 by omega))
  have HFP6 := Lib.hid (((HFP5.out.far g6 (by omega)).below (bl_drew _)).mono (show w.heap.size ≤ w.heap.size + 2 by omega))
  have HB6 := Lib.hid (below_via (HB5.out.grown g6 HB5.out.size (fun k hk => by injection hk with hk; omega)) (bl_drew _))
  obtain ⟨m0, m1⟩ := two_own (x0 := .bool (decide (D < 0))) (x1 := .slice am an ac) z0 z1
  obtain ⟨n0, n1⟩ := two_own (x0 := .bool (decide (D < 0))) (x1 := .slice am an ac) m0 m1
  unfold stored2 at m0 m1 n0 n1
  clear g6 HF5 HFQ5 HFP5 HB5
  go_wp2_with fail
  go_region
  all_goals
    go_wp2_with fail
    refine bodyPost_ret (v := .tuple #[.slice ra r rc, .slice ca r cc, .agg #[.bool (decide (D < 0)), .slice am an ac], .int .i64 0]) ?_ rfl ⟨r, Q, P, _, _, _, rfl, HPQ.out, HPP.out, HFQ6.out, HFP6.out, by rw [← HD.out]; exact HF6.out, HB6.out, HAP.out, HCQ.out, HCP.out⟩
    simp [results, Try.results35, go_sem, n0, n1]

set_option maxHeartbeats 4000000 in
set_option maxRecDepth 100000 in
theorem Core_bad (r c : Int) (a : Option Addr) (n cap : Nat) (hn : n ≤ 17592186044416) (hE : checkE r c n = 1) (w : World) :
    Calls Try.prog 35 #[.agg #[.int .i64 r, .int .i64 c, .slice a n cap]] w fun e w' => e = .returned (.tuple #[.slice none 0 0, .slice none 0 0, .agg #[.bool false, .slice none 0 0], .int .i64 1]) ∧ Below w.heap.size w w' := by
  obtain ⟨⟨c0, c1, c2⟩, ⟨z0, z1, z2, z3⟩, hB, hsz⟩ := boxesI w (.int .i64 r) (.int .i64 c) (.slice a n cap)
  have hck := fun (u : World) => RowSet_bad r c a n cap hn hE u
  have HCK := Lib.hid hck
  have HB := Lib.hid hB
  have HSZ := Lib.hid hsz
  clear hck hB hE hsz
  go_enter Try.func35, Try.ntmps35
  go_upto_region 1 with fail
  generalize (w.alloc (.cells #[.int .i64 r, .int .i64 c, .slice a n cap] 24)).alloc (.cells #[.bool false, .slice none 0 0] 42) = W at *
  go_wp2_with fail
  (refine (HCK.out W).mono ?_)
  rintro e w3 ⟨rfl, hb3⟩
  have HB3 := Lib.hid (HB.out.trans (hb3.mono HB.out.size))
  replace z2 := froz_stays hb3 z0 z2
  replace z3 := froz_stays hb3 z1 z3
  replace z0 := cell_stays hb3 z0
  replace z1 := cell_stays hb3 z1
  clear hb3 HCK c0 c1 c2
  go_wp2_with fail
  have hbl := HB3.out.grown (stored2_gb w3 (w.heap.size + 1) (.bool false) (.slice none 0 0)) HB3.out.size (fun k hk => by injection hk with hk; omega)
  refine bodyPost_ret (v := .tuple #[.slice none 0 0, .slice none 0 0, .agg #[.bool false, .slice none 0 0], .int .i64 1]) ?_ rfl ⟨rfl, hbl⟩
  simp [results, Try.results35, go_sem, z0, z1]
end Go.Proofs.Ytncldpadakckjaa

namespace Go.Proofs.Ytncldpadakckjaa
open Go.RowKit

theorem idx_dm {c i j : Nat} (hj : j < c) : (i * c + j) / c = i ∧ (i * c + j) % c = j := by
  have h1 : (i * c + j) % c = j := by rw [Nat.add_comm, Nat.add_mul_mod_self_right, Nat.mod_eq_of_lt hj]
  have h2 : (i * c + j) / c = i := by rw [Nat.add_comm, Nat.add_mul_div_right _ _ (by omega), Nat.div_eq_of_lt hj, Nat.zero_add]
  exact ⟨h2, h1⟩
theorem idx_at {r c q : Nat} (hq : q < r * c) : q / c < r ∧ q % c < c := by
  have hC : 0 < c := Nat.pos_of_ne_zero fun e => by rw [e, Nat.mul_zero] at hq; omega
  exact ⟨(Nat.div_lt_iff_lt_mul hC).2 hq, Nat.mod_lt _ hC⟩
/-- the first a rows and b columns, as Pick lays them -/
def firstE (A : Nat → Int) (C b q : Nat) : Int := A (q / b * C + q % b)
theorem firstE_at (A : Nat → Int) (C b i j : Nat) (hj : j < b) : firstE A C b (i * b + j) = A (i * C + j) := by
  obtain ⟨h1, h2⟩ := idx_dm (i := i) hj
  unfold firstE; rw [h1, h2]
theorem firstE_zb {A : Nat → Int} {R C S a b : Nat} (hA : ∀ q, q < R * C → ZB S (A q)) (ha : a ≤ R) (hb : b ≤ C) : ∀ q, q < a * b → ZB S (firstE A C b q) := fun q hq => by
  obtain ⟨h1, h2⟩ := idx_at hq
  exact hA _ (idx_lt (show q / b < R by omega) (show q % b < C by omega) rfl).1
/-- the determinant of the first k rows and columns -/
def leadD (A : Nat → Int) (C k : Nat) : Int := laZ.dt k (fun i j => A (i * C + j))
theorem leadD_first (A : Nat → Int) (C k : Nat) : laZ.dt k (fun i j => firstE A C k (i * k + j)) = leadD A C k := laZ.dt_congr fun i j _ hj => firstE_at A C k i j hj

theorem OwnZ.one (w : World) (base : Nat) (hb : base ≤ w.heap.size) {z : Int} {mv : Value} (hz : FrZ w base (.agg #[.bool (decide (z < 0)), mv]) z) :
    OwnZ (w.alloc (.cells #[.bool (decide (z < 0)), mv] 42)) base (.slice (some ⟨w.heap.size, 0, none⟩) 1 1) 1 (fun _ => z) := by
  refine ⟨fun _ => mv, ⟨by rw [flatI_len], Or.inr ⟨w.heap.size, 1, _, rfl, hb, heap_alloc_new w _, Nat.le_refl _, by unfold maxLen; omega, rfl, ?_⟩⟩, fun i hi => hz.below (bl_alloc _ _)⟩
  simp [flatI]

set_option maxHeartbeats 8000000 in
set_option maxRecDepth 100000 in
theorem Leading_good (R S : Nat) (sl : Value) (A : Nat → Int) (w : World) (hR : R ≤ 64) (hS : S ≤ 268435456) (hr : RdE w sl (R * R) A) (hA : ∀ q, q < R * R → ZB S (A q)) :
    Calls Try.prog 39 #[.agg #[.int .i64 R, .int .i64 R, sl]] w fun e w' => ∃ v, e = .returned (.tuple #[v, .int .i64 0]) ∧ OwnZ w' w.heap.size v (R + 1) (leadD A R) ∧ Below w.heap.size w w' := by
  have hK4 : R * R ≤ 4096 := Nat.mul_le_mul hR hR
  obtain ⟨a, cap, rfl, hcap⟩ := hr.slice
  obtain ⟨⟨c0, c1, c2⟩, hB, hsz⟩ := boxM w (.int .i64 R) (.int .i64 R) (.slice a (R * R) cap)
  have hck := fun (u : World) => Check_any R R a (R * R) cap (by omega) u
  rw [checkE_ok hR hR rfl] at hck
  have hpk := fun (x : Nat) (rv cv : Value) (u : World) (hu : Below w.heap.size w u) (hx : x ≤ R) (h1 : RdI64 u rv x (fun i => i)) (h2 : RdI64 u cv x (fun i => i)) =>
    Pick_good R R x x (.slice a (R * R) cap) rv cv (fun i => i) (fun i => i) A u hR hR (by omega) (by omega) (fun i hi => by omega) (fun i hi => by omega) (hr.below hu) h1 h2
  have hdt := fun (x : Nat) (sl : Value) (u : World) (hx : x ≤ R) (h1 : RdE u sl (x * x) (firstE A R x)) => by
    have h := Det_good x S sl (firstE A R x) u (by omega) hS h1 (firstE_zb hA hx hx)
    rw [leadD_first] at h
    exact h
  generalize R * R = K at *
  have HCK := Lib.hid hck
  have HPK := Lib.hid hpk
  have HDT := Lib.hid hdt
  have HB := Lib.hid hB
  have HSZ := Lib.hid hsz
  clear hck hpk hdt hB hA hr hsz
  go_enter Try.func39, Try.ntmps39
  go_upto_region 1 with fail
  generalize w.alloc (.cells #[.int .i64 R, .int .i64 R, .slice a K cap] 24) = W at *
  go_wp2_with fail
  (refine (HCK.out W).mono ?_)
  rintro e w1 ⟨rfl, hb1⟩
  have HB1 := Lib.hid (HB.out.trans (hb1.mono HB.out.size))
  have HS1 := Lib.hid (show w.heap.size + 1 ≤ w1.heap.size by have := HSZ.out; have := hb1.size; omega)
  replace c0 := cell_stays hb1 c0
  replace c1 := cell_stays hb1 c1
  replace c2 := cell_stays hb1 c2
  clear hb1 HCK HB HSZ
  go_wp2_with fail
  (refine (zOf_fr 1 (by omega) (by omega) w1).mono ?_)
  rintro e w2 ⟨v, rfl, hf2, hb2⟩
  obtain ⟨am, an, ac, rfl, -⟩ := (hf2.mono HS1.out).stored
  have ho : OwnZ (w2.alloc (.cells #[.bool false, .slice am an ac] 42)) (w.heap.size + 1) (.slice (some ⟨w2.heap.size, 0, none⟩) 1 1) 1 (fun _ => 1) := OwnZ.one w2 (w.heap.size + 1) (Nat.le_trans HS1.out hb2.size) (hf2.mono HS1.out)
  have hb3 := below_via hb2 (bl_alloc w2 (.cells #[.bool false, .slice am an ac] 42))
  have HO := Lib.hid ho
  have HB3 := Lib.hid (below_via HB1.out hb3)
  have HS3 := Lib.hid (Nat.le_trans HS1.out hb3.size)
  replace c0 := cell_stays hb3 c0
  replace c1 := cell_stays hb3 c1
  replace c2 := cell_stays hb3 c2
  clear hf2 hb2 ho hb3 HB1 HS1
  go_wp2_with fail
  go_loopw [5, 6, 26] (fun lv pv kv wr => ∃ k : Nat, k ≤ R ∧ kv = .int .i64 k ∧ OwnZ wr (w.heap.size + 1) lv (k + 1) (leadD A R) ∧ OwnL wr (w.heap.size + 1) 3 pv k (fun i => .int .i64 (i : Nat)) ∧ Below w.heap.size w wr ∧ w.heap.size + 1 ≤ wr.heap.size ∧
    wr.cell? ⟨w.heap.size, 0, none⟩ = some (.int .i64 R) ∧ wr.cell? ⟨w.heap.size, 1, none⟩ = some (.int .i64 R) ∧ wr.cell? ⟨w.heap.size, 2, none⟩ = some (.slice a K cap)) (fun _ _ kv _ => R - (intOf kv).toNat)
  case atStart => exact ⟨0, Nat.zero_le _, rfl, HO.out.congr (F := leadD A R) (fun i hi => by have e : i = 0 := (by omega); rw [e]; rfl), ⟨rfl, Or.inl ⟨rfl, rfl⟩⟩, HB3.out, HS3.out, c0, c1, c2⟩
  case round =>
    clear HO HB3 HS3 c0 c1 c2
    obtain ⟨k, hkR, rfl, ho, hp, hb, hs, c0, c1, c2⟩ := hrel
    obtain ⟨la, lc, rfl⟩ := ho.slice
    obtain ⟨pa, pc, rfl, -, -⟩ := hp.slice
    by_cases hk : k < R
    · have HO := Lib.hid ho
      have HP := Lib.hid hp
      have HBR := Lib.hid hb
      clear ho hp hb
      go_upto_region 12 with (at_builtin; refine wp_pushL rfl _ _ _ rfl Try.underlying25 infoN (by decide) HP.out rfl rfl rfl hs (by omega) ?_; intro g gcap w5 hown5 hg5 hat hgl)
      have hlo : ∀ d, (Value.slice pa k pc).ownBlock = some d → w.heap.size + 1 ≤ d := fun d hd => (own_ge HP.out d hd).1
      have hp5 : OwnL w5 (w.heap.size + 1) 3 (.slice (some ⟨g, 0, none⟩) (k + 1) gcap) (k + 1) (fun i => .int .i64 (i : Nat)) := by
        show w5.ownsRow _ _ _ _ _ _
        rw [map_snocN]; exact hown5
      have ho5 := HO.out.nums HP.out hg5
      have HP5 := Lib.hid hp5
      have HO5 := Lib.hid ho5
      have hb5 : Below (w.heap.size + 1) _ w5 := (Below.refl _ _).grown hg5 hs hlo
      have HB5 := Lib.hid (HBR.out.trans (hb5.mono (Nat.le_succ _)))
      have HS5 := Lib.hid (Nat.le_trans hs hb5.size)
      have RP := Lib.hid (show RdI64 w5 (.slice (some ⟨g, 0, none⟩) (k + 1) gcap) (k + 1) (fun i => i) from (own_fr (k := .i64) (f := fun i => (i : Int)) hp5 (by omega)).read)
      replace c0 := below_keep hb5 (by omega) c0
      replace c1 := below_keep hb5 (by omega) c1
      replace c2 := below_keep hb5 (by omega) c2
      clear hown5 hg5 hat hgl hlo hp5 ho5 hb5 HO HP HBR hs
      have hx0 : ∀ u : World, Below w5.heap.size w5 u → Below w.heap.size w u := fun u hu => below_via HB5.out hu
      have HX := Lib.hid hx0
      have hkk : (k + 1) * (k + 1) ≤ 1048576 := Nat.le_trans (Nat.mul_le_mul (show k + 1 ≤ 64 by omega) (show k + 1 ≤ 64 by omega)) (by decide)
      have T5 := Lib.hid (And.intro c0 (And.intro c1 c2))
      have hblk : w.heap.size < w5.heap.size := World.block_lt_of_cell? _ _ c0
      have U1 := Lib.hid (fun u (hu : Below w5.heap.size w5 u) => Clone_any _ (k + 1) (fun i => i) u (by omega) (by omega) (RP.out.below hu))
      clear hx0
      go_cut [8] (fun v9 wx => ∃ q, v9 = .pointer (some ⟨q, 0, none⟩) ∧ BoxE w5 wx q (k + 1) (k + 1) ((k + 1) * (k + 1)) (firstE A R (k + 1)))
      case first =>
        go_region_held3 (fun w' => w'.cell? ⟨w.heap.size, 0, none⟩ = some (.int .i64 R) ∧ w'.cell? ⟨w.heap.size, 1, none⟩ = some (.int .i64 R) ∧ w'.cell? ⟨w.heap.size, 2, none⟩ = some (.slice a K cap))
          (first
            | exact stay3 (bl_drew _) (T5.out)
            | exact stay3 (bl_drew_alloc _ _) (T5.out)
            | exact stay3 (bl_alloc _ _) (T5.out)
            | exact stay3 (bl_alloc_drew _ _) (T5.out)
            | exact stay3 b_w6 (T5.out)
            | exact stay3 (bl_alloc _ _) (stay3 b_w6 (T5.out))
            | exact stay3 (bl_alloc_drew _ _) (stay3 b_w6 (T5.out))
            | exact stay3 b_w7 (stay3 b_w6 (T5.out))
            | exact stay3 (bl_alloc _ _) (stay3 b_w7 (stay3 b_w6 (T5.out)))
            | exact stay3 (bl_alloc_drew _ _) (stay3 b_w7 (stay3 b_w6 (T5.out)))
            | exact far3 (by omega) (stay3 b_w7 (stay3 b_w6 (T5.out)))
            | go_keep)
          (first
            | (go_at_call 76; (first | (with_reducible refine (U1.out _ (bl_refl _)).mono ?_) | (with_reducible refine (U1.out _ (bl_alloc _ _)).mono ?_) | (with_reducible refine (U1.out _ (bl_drew _)).mono ?_) | (with_reducible refine (U1.out _ (bl_drew_alloc _ _)).mono ?_) | (with_reducible refine (U1.out _ (bl_alloc_drew _ _)).mono ?_)); rintro e w6 ⟨v6, rfl, f6, bb_w6⟩
               have b_w6 : Below w5.heap.size w5 w6 := by first | (with_reducible exact below_via (bl_refl _) bb_w6) | (with_reducible exact below_via (bl_alloc _ _) bb_w6) | (with_reducible exact below_via (bl_drew _) bb_w6) | (with_reducible exact below_via (bl_drew_alloc _ _) bb_w6) | (with_reducible exact below_via (bl_alloc_drew _ _) bb_w6)
               have s_w6 : w5.heap.size ≤ w6.heap.size := b_w6.size
               (first | (replace ZB := ZB; replace ZB := Lib.hid (box_on b_w6 ZB.out)) | (have ZB := Lib.hid (box_after_d bb_w6)) | (have ZB := Lib.hid (box_after_e bb_w6)) | (have ZB := Lib.hid (box_after bb_w6)) | skip)
               have F6 := Lib.hid (f6)
               have FP6 := Lib.hid (RP.out.below b_w6)
               have U2 := Lib.hid (fun u (hu : Below w6.heap.size w6 u) => HPK.out (k + 1) _ v6 u (HX.out u (below_via b_w6 hu)) (by omega) (FP6.out.below hu) (F6.out.below hu))
               clear bb_w6)
            | (go_at_call 18; (first | (with_reducible refine (U2.out _ (bl_refl _)).mono ?_) | (with_reducible refine (U2.out _ (bl_alloc _ _)).mono ?_)); rintro e w7 ⟨l7, rfl, f_last, bb_w7⟩
               have b_w7 : Below w6.heap.size w6 w7 := by first | (with_reducible exact below_via (bl_refl _) bb_w7) | (with_reducible exact below_via (bl_alloc _ _) bb_w7)
               have s_w7 : w6.heap.size ≤ w7.heap.size := b_w7.size
               (first | (replace ZB := ZB; have ZL := Nat.lt_of_lt_of_le (ZB.out.2.2) f_last.own; replace ZB := Lib.hid (box_on b_w7 ZB.out)) | (have ZB := Lib.hid (box_after_d bb_w7); have ZL := Nat.lt_of_lt_of_le (alloc_lt _ _) f_last.own) | (have ZB := Lib.hid (box_after_e bb_w7); have ZL := Nat.lt_of_lt_of_le (alloc_lt _ _) f_last.own) | (have ZB := Lib.hid (box_after bb_w7); have ZL := Nat.lt_of_lt_of_le (alloc_lt _ _) f_last.own) | skip)
               (first | (obtain ⟨⟨z0, z1, z2⟩, ⟨y0, y1, y2⟩, zq⟩ := ZB.out) | skip)
               have F_last := Lib.hid (f_last)
               clear bb_w7))
        all_goals
          go_wp2_with fail
          go_meet
          first
            | exact ⟨_, rfl, boxE_new F_last.out hkk (below_via (b_w6) b_w7) _ _⟩
            | exact ⟨_, rfl, boxE_old F_last.out hkk (below_via (b_w6) b_w7) _ _ (by omega) ZL ZB.out⟩
      case rest =>
      obtain ⟨q, rfl, hbx⟩ := hcut
      obtain ⟨hb8, lb, ⟨d0, d1, d2⟩, hrd⟩ := hbx
      have hdet := HDT.out (k + 1) _ wc (by omega) hrd
      have HDET := Lib.hid hdet
      have HB8 := Lib.hid hb8
      clear hrd hdet hb8 T5 U1 RP
      go_wp2_with fail
      (refine HDET.out.mono ?_)
      rintro e w9 ⟨v9, rfl, hf9, hb9⟩
      obtain ⟨D, hD⟩ : ∃ D, D = leadD A R (k + 1) := ⟨_, rfl⟩
      rw [← hD] at hf9
      have hs8 := HB8.out.size
      have hbA := below_via HB8.out hb9
      have hfb := hf9.mono (show w.heap.size + 1 ≤ wc.heap.size from Nat.le_trans HS5.out hs8)
      obtain ⟨am9, an9, ac9, rfl, -⟩ := hfb.stored
      have hba := bl_alloc w9 (.cells #[.bool (decide (D < 0)), .slice am9 an9 ac9] 42)
      have hbb := below_via hbA hba
      have HOA := Lib.hid (HO5.out.below hbb)
      have HPA := Lib.hid (HP5.out.grow (gb_below hbb none) (fun b _ => by simp))
      have HFA := Lib.hid (hfb.below hba)
      have HBB := Lib.hid (below_via HB5.out hbb)
      have HSB := Lib.hid (Nat.le_trans HS5.out hbb.size)
      have HDD := Lib.hid hD
      replace c0 := cell_stays hbb c0
      replace c1 := cell_stays hbb c1
      replace c2 := cell_stays hbb c2
      clear d0 d1 d2 hD hf9 hs8 hbA hfb hba hbb hb9 HDET HB8 HO5 HP5 HB5 HS5 HX
      go_wp2_with (at_builtin; (refine wp_pushZ rfl _ _ _ rfl Try.underlying22 HOA.out rfl rfl (by simp) rfl HFA.out HSB.out (by omega) ?_); intro v10 w10 ho10 hb10 hg10; have HO10 := Lib.hid ho10; have HP10 := Lib.hid (HPA.out.ints HOA.out hg10); have HB10 := Lib.hid (HBB.out.trans (hb10.mono (Nat.le_succ _))); have HS10 := Lib.hid (Nat.le_trans HSB.out hb10.size); replace c0 := below_keep hb10 (by omega) c0; replace c1 := below_keep hb10 (by omega) c1; replace c2 := below_keep hb10 (by omega) c2; clear ho10 hb10 hg10)
      go_roundw
      case rel => exact ⟨k + 1, by omega, by go_num, HO10.out.congr (F := leadD A R) (fun i hi => by
        show (if i = k + 1 then D else leadD A R i) = _
        split
        · rename_i e; rw [e]; exact HDD.out
        · rfl), HP10.out, HB10.out, HS10.out, c0, c1, c2⟩
      case measure => simp [intOf]; omega
    · obtain rfl : k = R := by omega
      have HO := Lib.hid (ho.mono (Nat.le_succ w.heap.size))
      have HBR := Lib.hid hb
      clear ho hp hb
      go_wp2_with fail
      go_ret2
      exact ⟨_, rfl, HO.out, HBR.out⟩

set_option maxHeartbeats 4000000 in
set_option maxRecDepth 100000 in
theorem Leading_bad (r c : Int) (a : Option Addr) (n cap : Nat) (hn : n ≤ 17592186044416) (hE : checkE r c n = 1) (w : World) :
    Calls Try.prog 39 #[.agg #[.int .i64 r, .int .i64 c, .slice a n cap]] w fun e w' => e = .returned (.tuple #[.slice none 0 0, .int .i64 1]) ∧ Below w.heap.size w w' := by
  obtain ⟨⟨c0, c1, c2⟩, hB, hsz⟩ := boxM w (.int .i64 r) (.int .i64 c) (.slice a n cap)
  have hck := fun (u : World) => Check_any r c a n cap hn u
  rw [hE] at hck
  have HCK := Lib.hid hck
  have HB := Lib.hid hB
  clear hck hB hE hsz
  go_enter Try.func39, Try.ntmps39
  go_upto_region 1 with fail
  generalize w.alloc (.cells #[.int .i64 r, .int .i64 c, .slice a n cap] 24) = W at *
  go_wp2_with fail
  (refine (HCK.out W).mono ?_)
  rintro e w3 ⟨rfl, hb3⟩
  have HB3 := Lib.hid (HB.out.trans (hb3.mono HB.out.size))
  clear hb3 HCK HB
  go_wp2_with fail
  go_ret2
  exact ⟨rfl, HB3.out⟩

set_option maxHeartbeats 4000000 in
set_option maxRecDepth 100000 in
theorem Leading_unfit (r c : Int) (a : Option Addr) (n cap : Nat) (hn : n ≤ 17592186044416) (hE : checkE r c n = 0) (hrc : r ≠ c) (w : World) :
    Calls Try.prog 39 #[.agg #[.int .i64 r, .int .i64 c, .slice a n cap]] w fun e w' => e = .returned (.tuple #[.slice none 0 0, .int .i64 2]) ∧ Below w.heap.size w w' := by
  obtain ⟨⟨c0, c1, c2⟩, hB, hsz⟩ := boxM w (.int .i64 r) (.int .i64 c) (.slice a n cap)
  have hck := fun (u : World) => Check_any r c a n cap hn u
  rw [hE] at hck
  have HCK := Lib.hid hck
  have HB := Lib.hid hB
  have hne : (r != c) = true := by rw [bne_iff_ne]; exact hrc
  clear hck hB hE hsz hrc
  go_enter Try.func39, Try.ntmps39
  go_upto_region 1 with fail
  generalize w.alloc (.cells #[.int .i64 r, .int .i64 c, .slice a n cap] 24) = W at *
  go_wp2_with fail
  (refine (HCK.out W).mono ?_)
  rintro e w3 ⟨rfl, hb3⟩
  have HB3 := Lib.hid (HB.out.trans (hb3.mono HB.out.size))
  replace c0 := cell_stays hb3 c0
  replace c1 := cell_stays hb3 c1
  clear hb3 HCK HB c2
  go_wp2_with fail
  go_ret2
  exact ⟨rfl, HB3.out⟩
end Go.Proofs.Ytncldpadakckjaa

namespace Go.Proofs.Ytncldpadakckjaa
open Go.RowKit

set_option maxHeartbeats 4000000 in
set_option maxRecDepth 100000 in
theorem det13_good (R S : Nat) (sl : Value) (A : Nat → Int) (w : World) (hR : R ≤ 64) (hS : S ≤ 268435456) (hr : RdE w sl (R * R) A) (hA : ∀ q, q < R * R → ZB S (A q)) :
    Calls Try.prog 36 #[.agg #[.int .i64 R, .int .i64 R, sl]] w fun e w' => ∃ v, e = .returned (.tuple #[v, .bool true]) ∧ FrZ w' w.heap.size v (laZ.dt R (fun i j => A (i * R + j))) ∧ Below w.heap.size w w' := by
  obtain ⟨a, cap, rfl, hcap⟩ := hr.slice
  obtain ⟨⟨c0, c1, c2⟩, ⟨z0, z1, z2, z3⟩, hB, hsz⟩ := boxesI w (.int .i64 R) (.int .i64 R) (.slice a (R * R) cap)
  have hdet := Det_good R S _ A _ hR hS (hr.below hB) hA
  obtain ⟨D, hD⟩ : ∃ D, D = laZ.dt R (fun i j => A (i * R + j)) := ⟨_, rfl⟩
  rw [← hD] at hdet ⊢
  generalize R * R = K at *
  have HDET := Lib.hid hdet
  have HB := Lib.hid hB
  have HSZ := Lib.hid hsz
  clear hdet hB hsz hr hA hD
  go_enter Try.func36, Try.ntmps36
  go_upto_region 1 with fail
  generalize (w.alloc (.cells #[.int .i64 R, .int .i64 R, .slice a K cap] 24)).alloc (.cells #[.bool false, .slice none 0 0] 42) = W at *
  go_wp2_with fail
  (refine HDET.out.mono ?_)
  rintro e w1 ⟨v, rfl, hf1, hb1⟩
  have hf0 := hf1.mono (show w.heap.size + 1 + 1 ≤ W.heap.size by rw [HSZ.out]; exact Nat.le_refl _)
  obtain ⟨am, an, ac, rfl, -⟩ := hf0.stored
  have hba := bl_alloc w1 (.cells #[.bool (decide (D < 0)), .slice am an ac] 42)
  have hb2 := below_via hb1 hba
  have hB2 := below_via HB.out hb2
  have hf2 := hf0.below hba
  replace z2 := froz_stays hb2 z0 z2
  replace z3 := froz_stays hb2 z1 z3
  replace z0 := cell_stays hb2 z0
  replace z1 := cell_stays hb2 z1
  obtain ⟨x0, x1, -, -⟩ := two_cells w1 (.bool (decide (D < 0))) (.slice am an ac) 42
  obtain ⟨am', an', ac', he, f1, f2⟩ := det_fin (b := w.heap.size + 1) (w := w) hf2 (by omega) (by omega) hB2
  injection he with he
  injection he with he
  injection he with _ he
  injection he with he
  injection he with e1 e2 e3
  subst e1 e2 e3
  have F1 := Lib.hid f1
  have F2 := Lib.hid f2
  clear hf0 hf1 hf2 hb1 hba hb2 hB2 f1 f2 HDET HB HSZ c0 c1 c2
  go_wp2_with fail
  refine bodyPost_ret (v := .tuple #[.agg #[.bool (decide (D < 0)), .slice am an ac], .bool true]) ?_ rfl ⟨_, rfl, F1.out, F2.out⟩
  simp [results, Try.results36, go_sem, z0, z1]

set_option maxHeartbeats 1000000 in
set_option maxRecDepth 100000 in
theorem without_any (n k : Nat) (hn : n + 1 ≤ 64) (hk : k ≤ n) (w : World) : Calls Try.prog 41 #[.int .i64 ((n + 1 : Nat) : Int), .int .i64 k] w fun e w' => ∃ v, e = .returned v ∧ RdI64 w' v n (laZ.sk k) ∧ Below w.heap.size w w' := by
  obtain ⟨N, hN⟩ : ∃ N, N = n + 1 := ⟨_, rfl⟩
  rw [← hN]
  have hN1 : N ≤ 64 := by omega
  have hkN : k < N := by omega
  have HN := Lib.hid hN
  clear hN
  go_enter Try.func41, Try.ntmps41
  go_wp2_with fail
  go_loopw [5, 6] (fun lv cv wr => ∃ c : Nat, c ≤ N ∧ cv = .int .i64 c ∧ OwnL wr w.heap.size 3 lv (if k < c then c - 1 else c) (fun i => .int .i64 (laZ.sk k i : Nat)) ∧ Below w.heap.size w wr) (fun _ cv _ => N - (intOf cv).toNat)
  case atStart => exact ⟨0, Nat.zero_le _, rfl, ⟨rfl, Or.inl ⟨rfl, rfl⟩⟩, Below.refl _ _⟩
  case round =>
    obtain ⟨c, hcn, rfl, hown, hb⟩ := hrel
    by_cases hc : c < N
    · obtain ⟨m, hm⟩ : ∃ m, m = if k < c then c - 1 else c := ⟨_, rfl⟩
      rw [← hm] at hown
      obtain ⟨la, lc, rfl, -, -⟩ := hown.slice
      have hm64 : m ≤ 64 := by rw [hm]; split <;> omega
      have HO := Lib.hid hown
      have HB := Lib.hid hb
      have hsz := hb.size
      by_cases hck : c = k
      · have hm2 : (if k < c + 1 then c + 1 - 1 else c + 1) = m := by rw [hm]; (repeat' split) <;> omega
        have hne : ((c : Int) != k) = false := by rw [bne_eq_false_iff_eq]; omega
        have HM := Lib.hid hm2
        clear hown hb hck hm hm2
        go_wp2_with fail
        go_roundw
        case rel => exact ⟨c + 1, by omega, by go_num, by rw [HM.out]; exact HO.out, HB.out⟩
        case measure => simp [intOf]; omega
      · have hsk : laZ.sk k m = c := by rw [hm]; unfold laZ.sk; (repeat' split) <;> omega
        have hm2 : (if k < c + 1 then c + 1 - 1 else c + 1) = m + 1 := by rw [hm]; (repeat' split) <;> omega
        have hne : ((c : Int) != k) = true := by rw [bne_iff_ne]; omega
        have HM := Lib.hid hm2
        have HK := Lib.hid hsk
        clear hown hb hck hm hm2 hsk
        go_wp2_with (at_builtin; refine wp_push rfl _ _ _ rfl Try.underlying25 infoN (by decide) HO.out rfl rfl rfl hsz (by omega) ?_; intro lv' w3 hown3 hb3)
        have ho3 : OwnL w3 w.heap.size 3 lv' (m + 1) (fun i => .int .i64 (laZ.sk k i : Nat)) := by
          show w3.ownsRow _ _ _ _ _ _
          rw [map_snocN, HK.out]; exact hown3
        have HO3 := Lib.hid ho3
        have HB3 := HB.out.trans hb3
        clear hown3 hb3 ho3
        go_wp2_with fail
        go_roundw
        case rel => exact ⟨c + 1, by omega, by go_num, by rw [HM.out]; exact HO3.out, HB3⟩
        case measure => simp [intOf]; omega
    · obtain rfl : c = N := by omega
      rw [if_pos (by omega), show c - 1 = n by have := HN.out; omega] at hown
      have HF := Lib.hid (show RdI64 _ _ _ (laZ.sk k) from (own_fr (k := .i64) (f := fun i => (laZ.sk k i : Int)) hown (by omega)).read)
      have HB := Lib.hid hb
      clear hown hb
      go_wp2_with fail
      go_ret
      exact ⟨_, rfl, HF.out, HB.out⟩

theorem sgZ_zero : sgZ 0 = 0 := rfl

/-- both boxes: the matrix and an integer that a call answered -/
theorem box2_new (w : World) (v0 v1 : Value) : (w.alloc (.cells #[v0, v1] 42)).cell? ⟨w.heap.size, 0, none⟩ = some v0 ∧ (w.alloc (.cells #[v0, v1] 42)).cell? ⟨w.heap.size, 1, none⟩ = some v1 := by
  obtain ⟨x0, x1, -, -⟩ := two_cells w v0 v1 42
  exact ⟨x0, x1⟩

set_option maxHeartbeats 4000000 in
set_option maxRecDepth 100000 in
theorem refused_bad (r c : Int) (a : Option Addr) (n cap : Nat) (hn : n ≤ 17592186044416) (hE : checkE r c n = 1) (w : World) :
    Calls Try.prog 38 #[.agg #[.int .i64 r, .int .i64 c, .slice a n cap]] w fun e w' => e = .returned (.tuple #[.bool true, .bool true]) ∧ Below w.heap.size w w' := by
  obtain ⟨⟨c0, c1, c2⟩, hB, hsz⟩ := boxM w (.int .i64 r) (.int .i64 c) (.slice a n cap)
  have hck := fun (u : World) => Check_any r c a n cap hn u
  have hdt := fun (u : World) => Det_bad r c a n cap hn hE u
  have hld := fun (u : World) => Leading_bad r c a n cap hn hE u
  have hrk := fun (u : World) => Rank_bad r c a n cap hn hE u
  rw [hE] at hck
  have HCK := Lib.hid hck
  have HDT := Lib.hid hdt
  have HLD := Lib.hid hld
  have HRK := Lib.hid hrk
  have HB := Lib.hid hB
  clear hck hdt hld hrk hB hE hsz
  go_enter Try.func38, Try.ntmps38
  go_upto_region 1 with fail
  generalize w.alloc (.cells #[.int .i64 r, .int .i64 c, .slice a n cap] 24) = W at *
  go_wp2_with fail
  (refine (HDT.out W).mono ?_)
  rintro e w1 ⟨rfl, hb1⟩
  obtain ⟨d0, d1⟩ := box2_new w1 (.bool false) (.slice none 0 0)
  replace hb1 := below_via hb1 (bl_alloc w1 (.cells #[.bool false, .slice none 0 0] 42))
  have HB1 := Lib.hid (below_via HB.out hb1)
  replace c0 := cell_stays hb1 c0
  replace c1 := cell_stays hb1 c1
  replace c2 := cell_stays hb1 c2
  clear hb1 HDT HB
  go_wp2_with fail
  generalize w1.heap.size = q at *
  generalize w1.alloc (.cells #[.bool false, .slice none 0 0] 42) = w2 at *
  (refine (HLD.out w2).mono ?_)
  rintro e w3 ⟨rfl, hb3⟩
  have HB3 := Lib.hid (below_via HB1.out hb3)
  replace d0 := cell_stays hb3 d0
  replace d1 := cell_stays hb3 d1
  replace c0 := cell_stays hb3 c0
  replace c1 := cell_stays hb3 c1
  replace c2 := cell_stays hb3 c2
  clear hb3 HLD HB1
  go_wp2_with fail
  (refine (HCK.out w3).mono ?_)
  rintro e w4 ⟨rfl, hb4⟩
  have HB4 := Lib.hid (below_via HB3.out hb4)
  replace d0 := cell_stays hb4 d0
  replace d1 := cell_stays hb4 d1
  replace c0 := cell_stays hb4 c0
  replace c1 := cell_stays hb4 c1
  replace c2 := cell_stays hb4 c2
  clear hb4 HCK HB3
  go_wp2_with fail
  (refine (HRK.out w4).mono ?_)
  rintro e w5 ⟨rfl, hb5⟩
  have HB5 := Lib.hid (below_via HB4.out hb5)
  replace d0 := cell_stays hb5 d0
  replace d1 := cell_stays hb5 d1
  clear hb5 HRK HB4 c0 c1 c2
  have HSG := Lib.hid (zSign_any _ 0 w5 (rd_zero w5))
  rw [sgZ_zero] at HSG
  go_wp2_with fail
  (refine HSG.out.mono ?_)
  rintro e w6 ⟨rfl, hb6⟩
  have HB6 := Lib.hid (below_via HB5.out hb6)
  clear hb6 HSG HB5 d0 d1
  go_wp2_with fail
  go_ret2
  exact ⟨rfl, HB6.out⟩

set_option maxHeartbeats 4000000 in
set_option maxRecDepth 100000 in
theorem refused_unfit (r c : Int) (a : Option Addr) (n cap : Nat) (hn : n ≤ 17592186044416) (hE : checkE r c n = 0) (hrc : r ≠ c) (w : World) :
    Calls Try.prog 38 #[.agg #[.int .i64 r, .int .i64 c, .slice a n cap]] w fun e w' => e = .returned (.tuple #[.bool true, .bool true]) ∧ Below w.heap.size w w' := by
  obtain ⟨⟨c0, c1, c2⟩, hB, hsz⟩ := boxM w (.int .i64 r) (.int .i64 c) (.slice a n cap)
  have hck := fun (u : World) => Check_any r c a n cap hn u
  have hdt := fun (u : World) => Det_unfit r c a n cap hn hE hrc u
  have hld := fun (u : World) => Leading_unfit r c a n cap hn hE hrc u
  rw [hE] at hck
  have hne : (r != c) = true := by rw [bne_iff_ne]; exact hrc
  have HCK := Lib.hid hck
  have HDT := Lib.hid hdt
  have HLD := Lib.hid hld
  have HB := Lib.hid hB
  clear hck hdt hld hB hE hrc hsz
  go_enter Try.func38, Try.ntmps38
  go_upto_region 1 with fail
  generalize w.alloc (.cells #[.int .i64 r, .int .i64 c, .slice a n cap] 24) = W at *
  go_wp2_with fail
  (refine (HDT.out W).mono ?_)
  rintro e w1 ⟨rfl, hb1⟩
  obtain ⟨d0, d1⟩ := box2_new w1 (.bool false) (.slice none 0 0)
  replace hb1 := below_via hb1 (bl_alloc w1 (.cells #[.bool false, .slice none 0 0] 42))
  have HB1 := Lib.hid (below_via HB.out hb1)
  replace c0 := cell_stays hb1 c0
  replace c1 := cell_stays hb1 c1
  replace c2 := cell_stays hb1 c2
  clear hb1 HDT HB
  go_wp2_with fail
  generalize w1.heap.size = q at *
  generalize w1.alloc (.cells #[.bool false, .slice none 0 0] 42) = w2 at *
  (refine (HLD.out w2).mono ?_)
  rintro e w3 ⟨rfl, hb3⟩
  have HB3 := Lib.hid (below_via HB1.out hb3)
  replace d0 := cell_stays hb3 d0
  replace d1 := cell_stays hb3 d1
  replace c0 := cell_stays hb3 c0
  replace c1 := cell_stays hb3 c1
  replace c2 := cell_stays hb3 c2
  clear hb3 HLD HB1
  go_wp2_with fail
  (refine (HCK.out w3).mono ?_)
  rintro e w4 ⟨rfl, hb4⟩
  have HB4 := Lib.hid (below_via HB3.out hb4)
  replace d0 := cell_stays hb4 d0
  replace d1 := cell_stays hb4 d1
  replace c0 := cell_stays hb4 c0
  replace c1 := cell_stays hb4 c1
  clear hb4 HCK HB3 c2
  have HSG := Lib.hid (zSign_any _ 0 w4 (rd_zero w4))
  rw [sgZ_zero] at HSG
  go_wp2_with fail
  (refine HSG.out.mono ?_)
  rintro e w6 ⟨rfl, hb6⟩
  have HB6 := Lib.hid (below_via HB4.out hb6)
  clear hb6 HSG HB4 d0 d1 c0 c1
  go_wp2_with fail
  go_ret2
  exact ⟨rfl, HB6.out⟩

set_option maxHeartbeats 4000000 in
set_option maxRecDepth 100000 in
theorem refused_good (R S : Nat) (sl : Value) (A : Nat → Int) (w : World) (hR : R ≤ 64) (hS : S ≤ 268435456) (hr : RdE w sl (R * R) A) (hA : ∀ q, q < R * R → ZB S (A q)) :
    Calls Try.prog 38 #[.agg #[.int .i64 R, .int .i64 R, sl]] w fun e w' => e = .returned (.tuple #[.bool true, .bool false]) ∧ Below w.heap.size w w' := by
  have hK4 : R * R ≤ 4096 := Nat.mul_le_mul hR hR
  obtain ⟨a, cap, rfl, hcap⟩ := hr.slice
  obtain ⟨⟨c0, c1, c2⟩, hB, hsz⟩ := boxM w (.int .i64 R) (.int .i64 R) (.slice a (R * R) cap)
  have hck := fun (u : World) => Check_any R R a (R * R) cap (by omega) u
  rw [checkE_ok hR hR rfl] at hck
  have hdt := fun (u : World) (hu : Below w.heap.size w u) => Det_good R S _ A u hR hS (hr.below hu) hA
  have hld := fun (u : World) (hu : Below w.heap.size w u) => Leading_good R S _ A u hR hS (hr.below hu) hA
  generalize R * R = K at *
  have HCK := Lib.hid hck
  have HDT := Lib.hid hdt
  have HLD := Lib.hid hld
  have HB := Lib.hid hB
  clear hck hdt hld hB hsz hr hA
  go_enter Try.func38, Try.ntmps38
  go_upto_region 1 with fail
  generalize w.alloc (.cells #[.int .i64 R, .int .i64 R, .slice a K cap] 24) = W at *
  go_wp2_with fail
  (refine (HDT.out W HB.out).mono ?_)
  rintro e w1 ⟨v, rfl, hf1, hb1⟩
  obtain ⟨am, an, ac, rfl, -⟩ := hf1.agg
  generalize (decide (laZ.dt R (fun i j => A (i * R + j)) < 0)) = sg at *
  replace hb1 := below_via hb1 (bl_alloc w1 (.cells #[.bool sg, .slice am an ac] 42))
  have HB1 := Lib.hid (below_via HB.out hb1)
  replace c0 := cell_stays hb1 c0
  replace c1 := cell_stays hb1 c1
  replace c2 := cell_stays hb1 c2
  clear hb1 hf1 HDT HB
  go_wp2_with fail
  generalize w1.heap.size = q at *
  generalize w1.alloc (.cells #[.bool sg, .slice am an ac] 42) = w2 at *
  (refine (HLD.out w2 HB1.out).mono ?_)
  rintro e w3 ⟨v3, rfl, ho3, hb3⟩
  obtain ⟨la, lc, rfl⟩ := ho3.slice
  have HB3 := Lib.hid (below_via HB1.out hb3)
  replace c0 := cell_stays hb3 c0
  replace c1 := cell_stays hb3 c1
  replace c2 := cell_stays hb3 c2
  clear hb3 ho3 HLD HB1
  go_wp2_with fail
  (refine (HCK.out w3).mono ?_)
  rintro e w4 ⟨rfl, hb4⟩
  have HB4 := Lib.hid (below_via HB3.out hb4)
  replace c0 := cell_stays hb4 c0
  replace c1 := cell_stays hb4 c1
  clear hb4 HCK HB3 c2
  go_wp2_with fail
  go_ret2
  exact ⟨rfl, HB4.out⟩
end Go.Proofs.Ytncldpadakckjaa
