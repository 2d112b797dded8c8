/- A list of integers of the call's own, filled by append with integers made on the way; slices.Clone of a list of numbers. The walks of slices.Clone of a list of numbers, bareiss.Core, bareiss.Leading. The walk of bareiss.Core. The walk of bareiss.Leading. The walks of the law's det, refused, without. -/
import Derived.Test.YtejliecmdkmgiaaGH
import Derived.Deep.AppendLies
import Derived.OwnWalk
set_option linter.unusedVariables false
set_option linter.unusedSimpArgs false
set_option maxHeartbeats 8000000
set_option maxRecDepth 100000
namespace Go.Proofs.Ytejliecmdkmgiaa
open Go.RowKit
def flatI (b m : Nat → Value) : Nat → List Value
  | 0 => []
  | n + 1 => flatI b m n ++ [b n, m n]
theorem flatI_len (b m : Nat → Value) : ∀ n, (flatI b m n).length = n * 2
  | 0 => rfl
  | n + 1 => by show (flatI b m n ++ [b n, m n]).length = _; rw [List.length_append, flatI_len b m n]; simp; omega
theorem flatI_at (b m : Nat → Value) : ∀ n i, i < n → (flatI b m n)[i * 2]? = some (b i) ∧ (flatI b m n)[i * 2 + 1]? = some (m i)
  | 0, _, h => absurd h (by omega)
  | n + 1, i, h => by
    have hl := flatI_len b m n
    show (flatI b m n ++ [b n, m n])[i * 2]? = _ ∧ (flatI b m n ++ [b n, m n])[i * 2 + 1]? = _
    by_cases e : i = n
    · subst e
      rw [List.getElem?_append_right (by omega), List.getElem?_append_right (by omega), hl]
      simp
    · rw [List.getElem?_append_left (by omega), List.getElem?_append_left (by omega)]
      exact flatI_at b m n i (by omega)
theorem flatI_congr {b m b' m' : Nat → Value} : ∀ {n}, (∀ i, i < n → b i = b' i ∧ m i = m' i) → flatI b m n = flatI b' m' n
  | 0, _ => rfl
  | n + 1, h => by
    show flatI b m n ++ [b n, m n] = flatI b' m' n ++ [b' n, m' n]
    rw [flatI_congr (n := n) (fun i hi => h i (by omega)), (h n (by omega)).1, (h n (by omega)).2]
theorem own_below {w w' : World} {base : Nat} {e : TypeId} {size : Nat} {v : Value} {n : Nat} {xs : List Value} (h : w.ownsRow base e size v n xs) (hb : Below w.heap.size w w') : w'.ownsRow base e size v n xs := by
  refine h.kept (gb_below hb none) ?_
  cases hv : v.ownBlock with
  | none => exact Or.inl rfl
  | some k => exact Or.inr (by simp)
theorem own_tag {w : World} {B : Nat} {e T : TypeId} {size : Nat} {v : Value} {n : Nat} {xs : List Value} {b : Nat} {cs : Array Value} {fr : Nat × Nat} (hown : w.ownsRow B e size v n xs) (hb : w.heap[b]? = some (.cells cs T fr)) (hTe : T ≠ e) : v.ownBlock ≠ some b := by
  rcases hown.2 with ⟨rfl, _⟩ | ⟨g, cap, cur, rfl, _, hg, _⟩
  · simp [Value.ownBlock]
  · intro h
    have : g = b := by simpa [Value.ownBlock] using h
    subst this
    rw [hg] at hb
    injection hb with hb
    injection hb with _ hb _
    exact hTe hb.symm
theorem FrA.tag {w : World} {B base : Nat} {k : IntKind} {E e : TypeId} {m : Value} {n : Nat} {f : Nat → Int} {size : Nat} {v : Value} {nn : Nat} {xs : List Value} (h : FrA k E w base m n f) (hown : w.ownsRow B e size v nn xs) (hE : E ≠ e) : m.ownBlock = none ∨ m.ownBlock ≠ v.ownBlock := by
  rcases h with ⟨rfl, _⟩ | ⟨b, cap, rfl, _, _, _, h4, _⟩
  · exact Or.inl rfl
  · right
    obtain ⟨cur, hc, -⟩ := h4
    have := own_tag hown hc hE
    intro e'
    exact this e'.symm
theorem tagUI : 62 ≠ 49 := by decide
def OwnZ (w : World) (base : Nat) (v : Value) (n : Nat) (E : Nat → Int) : Prop :=
  ∃ M : Nat → Value, w.ownsRow base 49 2 v n (flatI (fun i => .bool (decide (E i < 0))) M n) ∧ ∀ i, i < n → FrZ w base (.agg #[.bool (decide (E i < 0)), M i]) (E i)
theorem OwnZ.start (w : World) (base : Nat) (E : Nat → Int) : OwnZ w base (.slice none 0 0) 0 E := ⟨fun _ => .slice none 0 0, ⟨rfl, Or.inl ⟨rfl, rfl⟩⟩, fun i hi => absurd hi (by omega)⟩
theorem OwnZ.slice {w : World} {base : Nat} {v : Value} {n : Nat} {E : Nat → Int} (h : OwnZ w base v n E) : ∃ a c, v = .slice a n c := by
  obtain ⟨M, h, -⟩ := h
  exact own_slice h
theorem OwnZ.below {w w' : World} {base : Nat} {v : Value} {n : Nat} {E : Nat → Int} (h : OwnZ w base v n E) (hb : Below w.heap.size w w') : OwnZ w' base v n E := by
  obtain ⟨M, h1, h2⟩ := h
  exact ⟨M, own_below h1 hb, fun i hi => (h2 i hi).below hb⟩
theorem OwnZ.congr {w : World} {base : Nat} {v : Value} {n : Nat} {E F : Nat → Int} (h : OwnZ w base v n E) (e : ∀ i, i < n → E i = F i) : OwnZ w base v n F := by
  obtain ⟨M, h1, h2⟩ := h
  refine ⟨M, ?_, fun i hi => by rw [← e i hi]; exact h2 i hi⟩
  rw [flatI_congr (b' := fun i => .bool (decide (F i < 0))) (m' := M) (fun i hi => ⟨by rw [e i hi], rfl⟩)] at h1
  exact h1
theorem OwnZ.mono {w : World} {base base' : Nat} {v : Value} {n : Nat} {E : Nat → Int} (h : OwnZ w base v n E) (hb : base' ≤ base) : OwnZ w base' v n E := by
  obtain ⟨M, ⟨h0, h1⟩, h2⟩ := h
  refine ⟨M, ⟨h0, ?_⟩, fun i hi => (h2 i hi).mono hb⟩
  rcases h1 with h | ⟨g, cap, cur, a, b, c⟩
  · exact Or.inl h
  · exact Or.inr ⟨g, cap, cur, a, Nat.le_trans hb b, c⟩
theorem OwnZ.read {w : World} {base : Nat} {v : Value} {n : Nat} {E : Nat → Int} (h : OwnZ w base v n E) (hn : n ≤ 1048576) {S : Nat} (hS : S ≤ 274877906944) (hz : ∀ i, i < n → ZB S (E i)) : RdE w v n E := by
  obtain ⟨M, ⟨h0, h1⟩, h2⟩ := h
  rcases h1 with ⟨rfl, rfl⟩ | ⟨g, cap, cur, rfl, -, h3, h4, -, -, h5⟩
  · exact ⟨none, 0, rfl, Nat.le_refl _, hn, fun h => absurd h (by omega)⟩
  · refine ⟨some ⟨g, 0, none⟩, cap, rfl, h4, hn, fun _ => ⟨g, 0, rfl, fun i hi => ⟨decide (E i < 0), M i, ?_, ?_, (h2 i hi).rd (hz i hi) hS⟩⟩⟩
    · have := (flatI_at (fun i => Value.bool (decide (E i < 0))) M n i hi).1
      rw [← h5, List.getElem?_take, if_pos (by omega)] at this
      rw [Nat.zero_add, cell_of_row _ _ _ _ _ _ h3]; simpa using this
    · have := (flatI_at (fun i => Value.bool (decide (E i < 0))) M n i hi).2
      rw [← h5, List.getElem?_take, if_pos (by omega)] at this
      rw [Nat.zero_add, cell_of_row _ _ _ _ _ _ h3]; simpa using this
theorem FrZ.grow_tag {w w' : World} {base B : Nat} {x : Value} {z : Int} (h : FrZ w base x z) {v : Value} {nn : Nat} {xs : List Value} (hown : w.ownsRow B 49 2 v nn xs) (hg : w.grownBy w' v.ownBlock) : FrZ w' base x z := by
  obtain ⟨m, n, f, e, h1, h2⟩ := h
  exact ⟨m, n, f, e, h1.grown hg (h1.tag hown tagUI), h2⟩
theorem OwnZ.push {w w' : World} {base : Nat} {v v' : Value} {n : Nat} {E : Nat → Int} {M : Nat → Value} {mv : Value} {z : Int}
    (h1 : w.ownsRow base 49 2 v n (flatI (fun i => .bool (decide (E i < 0))) M n)) (h2 : ∀ i, i < n → FrZ w base (.agg #[.bool (decide (E i < 0)), M i]) (E i))
    (hr : FrZ w base (.agg #[.bool (decide (z < 0)), mv]) z)
    (g1 : w'.ownsRow base 49 2 v' (n + 1) (flatI (fun i => .bool (decide (E i < 0))) M n ++ [.bool (decide (z < 0)), mv])) (g2 : w.grownBy w' v.ownBlock) :
    OwnZ w' base v' (n + 1) (fun i => if i = n then z else E i) := by
  refine ⟨fun i => if i = n then mv else M i, ?_, fun i hi => ?_⟩
  · show w'.ownsRow base _ 2 v' (n + 1) (flatI _ _ n ++ [_, _])
    rw [flatI_congr (b' := fun i => .bool (decide (E i < 0))) (m' := M) (fun i hi => ⟨by simp only [if_neg (Nat.ne_of_lt hi)], by simp only [if_neg (Nat.ne_of_lt hi)]⟩)]
    simp only [if_true]
    exact g1
  · show FrZ w' base (.agg #[.bool (decide ((if i = n then z else E i) < 0)), if i = n then mv else M i]) (if i = n then z else E i)
    by_cases e : i = n
    · simp only [if_pos e]
      exact hr.grow_tag h1 g2
    · simp only [if_neg e]
      exact (h2 i (by omega)).grow_tag h1 g2
theorem own_sep {w : World} {B B' : Nat} {e e' : TypeId} {size size' : Nat} {v v' : Value} {n n' : Nat} {xs xs' : List Value} (h : w.ownsRow B e size v n xs) (h' : w.ownsRow B' e' size' v' n' xs') (hne : e' ≠ e) : v'.ownBlock = none ∨ v'.ownBlock ≠ v.ownBlock := by
  rcases h'.2 with ⟨rfl, _⟩ | ⟨g, cap, cur, rfl, _, hg, _⟩
  · exact Or.inl rfl
  · right
    intro e1
    exact own_tag h hg hne e1.symm
theorem tagNI : 3 ≠ 49 := by decide
theorem tagNU : 62 ≠ 3 := by decide
theorem OwnZ.nums {w w' : World} {base B : Nat} {v p : Value} {n k : Nat} {E : Nat → Int} {F : Nat → Value} (h : OwnZ w base v n E) (hp : OwnL w B 3 p k F) (hg : w.grownBy w' p.ownBlock) : OwnZ w' base v n E := by
  obtain ⟨M, h1, h2⟩ := h
  have hp' : w.ownsRow B 3 1 p k ((List.range k).map F) := hp
  refine ⟨M, h1.kept hg (own_sep hp' h1 (fun e => tagNI e.symm)), fun i hi => ?_⟩
  obtain ⟨m, nn, f, e, g1, g2⟩ := h2 i hi
  exact ⟨m, nn, f, e, g1.grown hg (g1.tag hp' tagNU), g2⟩
theorem OwnL.ints {w w' : World} {base B : Nat} {v p : Value} {n k : Nat} {E : Nat → Int} {F : Nat → Value} (hp : OwnL w B 3 p k F) (h : OwnZ w base v n E) (hg : w.grownBy w' v.ownBlock) : OwnL w' B 3 p k F := by
  obtain ⟨M, h1, h2⟩ := h
  have hp' : w.ownsRow B 3 1 p k ((List.range k).map F) := hp
  exact hp'.kept hg (own_sep h1 hp' tagNI)
theorem wp_pushZ {wr : World} {ops : Array Oper} {rest : List Oper} {o : Oper} {a : Act} {Q : Exit → Act → World → Prop} (hgd : o.guard = none) (s x : Operand) (t : TypeId)
    (ho : o.op = .call { callee := .builtin .append, args := #[s, x], argTypes := #[t, t] }) (ht : Try.prog.underlying t = some (.slice 49))
    {base : Nat} {v : Value} {n : Nat} {E : Nat → Int} (hown : OwnZ wr base v n E) (hs : a.eval s = v) {z : Int} {mv : Value} {nb : Nat} (hx : a.eval x = .slice (some ⟨nb, 0, none⟩) 1 1) (hnb : nb = wr.heap.size) (hm : mv.oneCell' = true) (hz : FrZ wr base (.agg #[.bool (decide (z < 0)), mv]) z) (hb : base ≤ wr.heap.size) (hn : n ≤ 1048576)
    (h : ∀ v' w', OwnZ w' base v' (n + 1) (fun i => if i = n then z else E i) → Below base wr w' → wr.grownBy w' v.ownBlock → wpList Try.prog ops Q rest (a.put o.dst v') w') : wpList Try.prog ops Q (o :: rest) a (wr.alloc (.cells #[.bool (decide (z < 0)), mv] 49)) := by
  subst hnb
  obtain ⟨i0, hi, hz0, hz1, hz2⟩ := info_parts infoI
  obtain ⟨M, o1, o2⟩ := hown
  have hba := (Below.refl wr.heap.size wr).alloc (Nat.le_refl _) (.cells #[.bool (decide (z < 0)), mv] 49)
  have o3 := own_below o1 hba
  refine wpList_append_own _ hgd s x t ho base 49 i0 (.agg #[.bool false, .slice none 0 0]) 2 32 ht hi hz0 hz1 hz2 rfl (by decide) v n _ hs o3 ⟨wr.heap.size, 0, none⟩ 1 1 [.bool (decide (z < 0)), mv] hx rfl ?_ ?_ (by unfold maxLen; omega) (by omega) (Nat.le_trans hb hba.size) fun v' w' h1 h2 _ => h v' w' (OwnZ.push o3 (fun i hi => (o2 i hi).below hba) (hz.below hba) h1 h2) ?_ (gb_trans (gb_below hba _) h2)
  · intro j y hj
    match j, hj with
    | 0, hj => simp at hj; subst hj; simp [Addr.add]
    | 1, hj => simp at hj; subst hj; simp [Addr.add]
  · intro y hy
    simp at hy
    rcases hy with rfl | rfl
    · rfl
    · exact hm
  · exact ((Below.refl base wr).trans (hba.mono hb)).grown h2 (Nat.le_trans hb hba.size) fun k hk => (o3.lt k hk).1
end Go.Proofs.Ytejliecmdkmgiaa
namespace Go.Proofs.Ytejliecmdkmgiaa
open Go.RowKit
theorem Clone_any (v : Value) (n : Nat) (f : Nat → Nat) (w : World) (h0 : 0 < n) (hn : n ≤ 64) (hv : RdI64 w v n f) :
    Calls Try.prog 129 #[v] w fun e w' => ∃ v', e = .returned v' ∧ RdI64 w' v' n f ∧ Below w.heap.size w w' := by
  obtain ⟨a, cap, rfl, h1, h2, h3⟩ := wd_get hv
  obtain ⟨b, o, rfl, -⟩ := h3 0 h0
  have H3 := Lib.hid h3
  have hba := bl_alloc w (.cells #[] 3)
  have ho : (w.alloc (.cells #[] 3)).ownsRow w.heap.size 3 1 (.slice (some ⟨w.heap.size, 0, none⟩) 0 0) 0 [] := own_none _ _ _ 0 (Nat.le_refl _) (heap_alloc_new w _) rfl (Nat.zero_le _)
  have HO := Lib.hid ho
  have HBA := Lib.hid hba
  obtain ⟨i0, hi, hz0, hz1, hz2⟩ := info_parts infoN
  have HI := Lib.hid (And.intro hi (And.intro hz0 (And.intro hz1 hz2)))
  have hnews : ∀ j u, ((List.range n).map fun i => Value.int .i64 (f i : Nat))[j]? = some u → (w.alloc (.cells #[] 3)).cell? (Addr.add ⟨b, o, none⟩ j) = some u := fun j u hj => by
    simp only [List.getElem?_map] at hj
    by_cases hjn : j < n
    · rw [List.getElem?_range hjn] at hj
      simp at hj
      obtain ⟨b', o', e, hc⟩ := H3.out j hjn
      simp only [Option.some.injEq, Addr.mk.injEq, and_true] at e
      obtain ⟨rfl, rfl⟩ := e
      rw [← hj]
      rw [Addr.add_lit]
      exact cell_stays HBA.out hc
    · rw [List.getElem?_eq_none (by simp; omega)] at hj
      simp at hj
  have hone : ∀ u ∈ ((List.range n).map fun i => Value.int .i64 (f i : Nat)), u.oneCell' = true := fun u hu => by
    simp at hu
    obtain ⟨i, -, rfl⟩ := hu
    rfl
  have HN := Lib.hid (And.intro hnews hone)
  clear hnews hone hv h3 ho hba hi hz0 hz1 hz2
  have he : ∀ w : World, (binOp .eql 70 (.slice (some ⟨b, o, none⟩) n cap) (.slice none 0 0)).run Try.prog w = .ok (.bool false) w := fun _ => rfl
  go_enter Try.func129, Try.ntmps129
  go_wp2_with (at_builtin; (refine wpList_append_own _ rfl _ _ 70 rfl w.heap.size 3 i0 (.int .i64 0) 1 8 Try.underlying70 HI.out.1 HI.out.2.1 HI.out.2.2.1 HI.out.2.2.2 rfl (by decide) (.slice (some ⟨w.heap.size, 0, none⟩) 0 0) 0 _ rfl HO.out ⟨b, o, none⟩ n cap ((List.range n).map fun i => .int .i64 (f i : Nat)) rfl (by simp) HN.out.1 HN.out.2 (by unfold maxLen; omega) (by omega) (by simp) ?_); intro v' w' g1 g2 _; rw [Nat.zero_add, List.nil_append] at g1; have HF := Lib.hid (own_fr (k := .i64) (f := fun i => (f i : Int)) g1 (by omega)).read; have HB := Lib.hid (HBA.out.grown g2 HBA.out.size (fun k hk => by simp [Value.ownBlock] at hk; omega)); clear g1 g2)
  go_ret
  exact ⟨_, rfl, HF.out, HB.out⟩
end Go.Proofs.Ytejliecmdkmgiaa
namespace Go.Proofs.Ytejliecmdkmgiaa
open Go.RowKit
theorem FrZ.far {w w' : World} {base b : Nat} {v : Value} {z : Int} (h : FrZ w base v z) (hg : w.grownBy w' (some b)) (hb : b < base) : FrZ w' base v z := by
  obtain ⟨m, n, f, e, h1, h2⟩ := h
  refine ⟨m, n, f, e, h1.grown hg ?_, h2⟩
  cases hm : m.ownBlock with
  | none => exact Or.inl rfl
  | some k => right; have := (h1.lt hm).1; intro e; injection e with e; omega
theorem FrA.far {k : IntKind} {e : TypeId} {w w' : World} {base b : Nat} {v : Value} {n : Nat} {f : Nat → Int} (h : FrA k e w base v n f) (hg : w.grownBy w' (some b)) (hb : b < base) : FrA k e w' base v n f := by
  refine h.grown hg ?_
  cases hm : v.ownBlock with
  | none => exact Or.inl rfl
  | some k => right; have := (h.lt hm).1; intro e; injection e with e; omega
def Apart (v1 v2 : Value) : Prop := ∀ b, v1.ownBlock = some b → v2.ownBlock ≠ some b
theorem Apart.symm {v1 v2 : Value} (h : Apart v1 v2) : Apart v2 v1 := fun b h2 h1 => h b h1 h2
theorem FrA.apart {k k' : IntKind} {e e' : TypeId} {w w' : World} {base : Nat} {v v' : Value} {n n' : Nat} {f f' : Nat → Int} (h : FrA k e w base v n f) (h' : FrA k' e' w' w.heap.size v' n' f') : Apart v v' := by
  intro b hb hb'
  rcases h with ⟨rfl, -⟩ | ⟨g, cap, rfl, -, -, -, hB, -⟩
  · simp [Value.ownBlock] at hb
  · simp [Value.ownBlock] at hb
    subst hb
    rcases h' with ⟨rfl, -⟩ | ⟨g', cap', rfl, -, -, hg, -, -⟩
    · simp [Value.ownBlock] at hb'
    · simp [Value.ownBlock] at hb'
      have := hB.lt
      omega
end Go.Proofs.Ytejliecmdkmgiaa
namespace Go.Proofs.Ytejliecmdkmgiaa
open Go.RowKit
theorem idx_dm {c i j : Nat} (hj : j < c) : (i * c + j) / c = i ∧ (i * c + j) % c = j := by
  have h1 : (i * c + j) % c = j := by rw [Nat.add_comm, Nat.add_mul_mod_self_right, Nat.mod_eq_of_lt hj]
  have h2 : (i * c + j) / c = i := by rw [Nat.add_comm, Nat.add_mul_div_right _ _ (by omega), Nat.div_eq_of_lt hj, Nat.zero_add]
  exact ⟨h2, h1⟩
theorem idx_at {r c q : Nat} (hq : q < r * c) : q / c < r ∧ q % c < c := by
  have hC : 0 < c := Nat.pos_of_ne_zero fun e => by rw [e, Nat.mul_zero] at hq; omega
  exact ⟨(Nat.div_lt_iff_lt_mul hC).2 hq, Nat.mod_lt _ hC⟩
def firstE (A : Nat → Int) (C b q : Nat) : Int := A (q / b * C + q % b)
theorem firstE_at (A : Nat → Int) (C b i j : Nat) (hj : j < b) : firstE A C b (i * b + j) = A (i * C + j) := by
  obtain ⟨h1, h2⟩ := idx_dm (i := i) hj
  unfold firstE; rw [h1, h2]
theorem firstE_zb {A : Nat → Int} {R C S a b : Nat} (hA : ∀ q, q < R * C → ZB S (A q)) (ha : a ≤ R) (hb : b ≤ C) : ∀ q, q < a * b → ZB S (firstE A C b q) := fun q hq => by
  obtain ⟨h1, h2⟩ := idx_at hq
  exact hA _ (idx_lt (show q / b < R by omega) (show q % b < C by omega) rfl).1
def leadD (A : Nat → Int) (C k : Nat) : Int := laZ.dt k (fun i j => A (i * C + j))
theorem leadD_first (A : Nat → Int) (C k : Nat) : laZ.dt k (fun i j => firstE A C k (i * k + j)) = leadD A C k := laZ.dt_congr fun i j _ hj => firstE_at A C k i j hj
theorem OwnZ.one (w : World) (base : Nat) (hb : base ≤ w.heap.size) {z : Int} {mv : Value} (hz : FrZ w base (.agg #[.bool (decide (z < 0)), mv]) z) :
    OwnZ (w.alloc (.cells #[.bool (decide (z < 0)), mv] 49)) base (.slice (some ⟨w.heap.size, 0, none⟩) 1 1) 1 (fun _ => z) := by
  refine ⟨fun _ => mv, ⟨by rw [flatI_len], Or.inr ⟨w.heap.size, 1, _, rfl, hb, heap_alloc_new w _, Nat.le_refl _, by unfold maxLen; omega, rfl, ?_⟩⟩, fun i hi => hz.below (bl_alloc _ _)⟩
  simp [flatI]
theorem Leading_good (R S : Nat) (sl : Value) (A : Nat → Int) (w : World) (hR : R ≤ 64) (hS : S ≤ 268435456) (hr : RdE w sl (R * R) A) (hA : ∀ q, q < R * R → ZB S (A q)) :
    Calls Try.prog 68 #[.agg #[.int .i64 R, .int .i64 R, sl]] w fun e w' => ∃ v, e = .returned (.tuple #[v, .int .i64 0]) ∧ OwnZ w' w.heap.size v (R + 1) (leadD A R) ∧ Below w.heap.size w w' := by
  have hK4 : R * R ≤ 4096 := Nat.mul_le_mul hR hR
  obtain ⟨a, cap, rfl, hcap⟩ := hr.slice
  obtain ⟨⟨c0, c1, c2⟩, hB, hsz⟩ := boxM w (.int .i64 R) (.int .i64 R) (.slice a (R * R) cap)
  have hck := fun (u : World) => Check_any R R a (R * R) cap (by omega) u
  rw [checkE_ok hR hR rfl] at hck
  have hpk := fun (x : Nat) (rv cv : Value) (u : World) (hu : Below w.heap.size w u) (hx : x ≤ R) (h1 : RdI64 u rv x (fun i => i)) (h2 : RdI64 u cv x (fun i => i)) =>
    Pick_good R R x x (.slice a (R * R) cap) rv cv (fun i => i) (fun i => i) A u hR hR (by omega) (by omega) (fun i hi => by omega) (fun i hi => by omega) (hr.below hu) h1 h2
  have hdt := fun (x : Nat) (sl : Value) (u : World) (hx : x ≤ R) (h1 : RdE u sl (x * x) (firstE A R x)) => by
    have h := Det_good x S sl (firstE A R x) u (by omega) hS h1 (firstE_zb hA hx hx)
    rw [leadD_first] at h
    exact h
  generalize R * R = K at *
  have HCK := Lib.hid hck
  have HPK := Lib.hid hpk
  have HDT := Lib.hid hdt
  have HB := Lib.hid hB
  have HSZ := Lib.hid hsz
  clear hck hpk hdt hB hA hr hsz
  go_enter Try.func68, Try.ntmps68
  go_upto_region 1 with fail
  generalize w.alloc (.cells #[.int .i64 R, .int .i64 R, .slice a K cap] 24) = W at *
  go_wp2_with fail
  (refine (HCK.out W).mono ?_)
  rintro e w1 ⟨rfl, hb1⟩
  have HB1 := Lib.hid (HB.out.trans (hb1.mono HB.out.size))
  have HS1 := Lib.hid (show w.heap.size + 1 ≤ w1.heap.size by have := HSZ.out; have := hb1.size; omega)
  replace c0 := cell_stays hb1 c0
  replace c1 := cell_stays hb1 c1
  replace c2 := cell_stays hb1 c2
  clear hb1 HCK HB HSZ
  go_wp2_with fail
  (refine (zOf_fr 1 (by omega) (by omega) w1).mono ?_)
  rintro e w2 ⟨v, rfl, hf2, hb2⟩
  obtain ⟨am, an, ac, rfl, -⟩ := (hf2.mono HS1.out).stored
  have ho : OwnZ (w2.alloc (.cells #[.bool false, .slice am an ac] 49)) (w.heap.size + 1) (.slice (some ⟨w2.heap.size, 0, none⟩) 1 1) 1 (fun _ => 1) := OwnZ.one w2 (w.heap.size + 1) (Nat.le_trans HS1.out hb2.size) (hf2.mono HS1.out)
  have hb3 := below_via hb2 (bl_alloc w2 (.cells #[.bool false, .slice am an ac] 49))
  have HO := Lib.hid ho
  have HB3 := Lib.hid (below_via HB1.out hb3)
  have HS3 := Lib.hid (Nat.le_trans HS1.out hb3.size)
  replace c0 := cell_stays hb3 c0
  replace c1 := cell_stays hb3 c1
  replace c2 := cell_stays hb3 c2
  clear hf2 hb2 ho hb3 HB1 HS1
  go_wp2_with fail
  go_loopw [5, 6, 26] (fun lv pv kv wr => ∃ k : Nat, k ≤ R ∧ kv = .int .i64 k ∧ OwnZ wr (w.heap.size + 1) lv (k + 1) (leadD A R) ∧ OwnL wr (w.heap.size + 1) 3 pv k (fun i => .int .i64 (i : Nat)) ∧ Below w.heap.size w wr ∧ w.heap.size + 1 ≤ wr.heap.size ∧
    wr.cell? ⟨w.heap.size, 0, none⟩ = some (.int .i64 R) ∧ wr.cell? ⟨w.heap.size, 1, none⟩ = some (.int .i64 R) ∧ wr.cell? ⟨w.heap.size, 2, none⟩ = some (.slice a K cap)) (fun _ _ kv _ => R - (intOf kv).toNat)
  case atStart => exact ⟨0, Nat.zero_le _, rfl, HO.out.congr (F := leadD A R) (fun i hi => by have e : i = 0 := (by omega); rw [e]; rfl), ⟨rfl, Or.inl ⟨rfl, rfl⟩⟩, HB3.out, HS3.out, c0, c1, c2⟩
  case round =>
    clear HO HB3 HS3 c0 c1 c2
    obtain ⟨k, hkR, rfl, ho, hp, hb, hs, c0, c1, c2⟩ := hrel
    obtain ⟨la, lc, rfl⟩ := ho.slice
    obtain ⟨pa, pc, rfl, -, -⟩ := hp.slice
    by_cases hk : k < R
    · have HO := Lib.hid ho
      have HP := Lib.hid hp
      have HBR := Lib.hid hb
      clear ho hp hb
      go_upto_region 12 with (at_builtin; refine wp_pushL rfl _ _ _ rfl Try.underlying70 infoN (by decide) HP.out rfl rfl rfl hs (by omega) ?_; intro g gcap w5 hown5 hg5 hat hgl)
      have hlo : ∀ d, (Value.slice pa k pc).ownBlock = some d → w.heap.size + 1 ≤ d := fun d hd => (own_ge HP.out d hd).1
      have hp5 : OwnL w5 (w.heap.size + 1) 3 (.slice (some ⟨g, 0, none⟩) (k + 1) gcap) (k + 1) (fun i => .int .i64 (i : Nat)) := by
        show w5.ownsRow _ _ _ _ _ _
        rw [map_snocN]; exact hown5
      have ho5 := HO.out.nums HP.out hg5
      have HP5 := Lib.hid hp5
      have HO5 := Lib.hid ho5
      have hb5 : Below (w.heap.size + 1) _ w5 := (Below.refl _ _).grown hg5 hs hlo
      have HB5 := Lib.hid (HBR.out.trans (hb5.mono (Nat.le_succ _)))
      have HS5 := Lib.hid (Nat.le_trans hs hb5.size)
      have RP := Lib.hid (show RdI64 w5 (.slice (some ⟨g, 0, none⟩) (k + 1) gcap) (k + 1) (fun i => i) from (own_fr (k := .i64) (f := fun i => (i : Int)) hp5 (by omega)).read)
      replace c0 := below_keep hb5 (by omega) c0
      replace c1 := below_keep hb5 (by omega) c1
      replace c2 := below_keep hb5 (by omega) c2
      clear hown5 hg5 hat hgl hlo hp5 ho5 hb5 HO HP HBR hs
      have hx0 : ∀ u : World, Below w5.heap.size w5 u → Below w.heap.size w u := fun u hu => below_via HB5.out hu
      have HX := Lib.hid hx0
      have hkk : (k + 1) * (k + 1) ≤ 1048576 := Nat.le_trans (Nat.mul_le_mul (show k + 1 ≤ 64 by omega) (show k + 1 ≤ 64 by omega)) (by decide)
      have T5 := Lib.hid (And.intro c0 (And.intro c1 c2))
      have hblk : w.heap.size < w5.heap.size := World.block_lt_of_cell? _ _ c0
      have U1 := Lib.hid (fun u (hu : Below w5.heap.size w5 u) => Clone_any _ (k + 1) (fun i => i) u (by omega) (by omega) (RP.out.below hu))
      clear hx0
      go_cut [8] (fun v9 wx => ∃ q, v9 = .pointer (some ⟨q, 0, none⟩) ∧ BoxE w5 wx q (k + 1) (k + 1) ((k + 1) * (k + 1)) (firstE A R (k + 1)))
      case first =>
        go_region_held3 (fun w' => w'.cell? ⟨w.heap.size, 0, none⟩ = some (.int .i64 R) ∧ w'.cell? ⟨w.heap.size, 1, none⟩ = some (.int .i64 R) ∧ w'.cell? ⟨w.heap.size, 2, none⟩ = some (.slice a K cap))
          (first
            | exact stay3 (bl_drew _) (T5.out)
            | exact stay3 (bl_drew_alloc _ _) (T5.out)
            | exact stay3 (bl_alloc _ _) (T5.out)
            | exact stay3 (bl_alloc_drew _ _) (T5.out)
            | exact stay3 b_w6 (T5.out)
            | exact stay3 (bl_alloc _ _) (stay3 b_w6 (T5.out))
            | exact stay3 (bl_alloc_drew _ _) (stay3 b_w6 (T5.out))
            | exact stay3 b_w7 (stay3 b_w6 (T5.out))
            | exact stay3 (bl_alloc _ _) (stay3 b_w7 (stay3 b_w6 (T5.out)))
            | exact stay3 (bl_alloc_drew _ _) (stay3 b_w7 (stay3 b_w6 (T5.out)))
            | exact far3 (by omega) (stay3 b_w7 (stay3 b_w6 (T5.out)))
            | go_keep)
          (first
            | (go_at_call 129; (first | (with_reducible refine (U1.out _ (bl_refl _)).mono ?_) | (with_reducible refine (U1.out _ (bl_alloc _ _)).mono ?_) | (with_reducible refine (U1.out _ (bl_drew _)).mono ?_) | (with_reducible refine (U1.out _ (bl_drew_alloc _ _)).mono ?_) | (with_reducible refine (U1.out _ (bl_alloc_drew _ _)).mono ?_)); rintro e w6 ⟨v6, rfl, f6, bb_w6⟩
               have b_w6 : Below w5.heap.size w5 w6 := by first | (with_reducible exact below_via (bl_refl _) bb_w6) | (with_reducible exact below_via (bl_alloc _ _) bb_w6) | (with_reducible exact below_via (bl_drew _) bb_w6) | (with_reducible exact below_via (bl_drew_alloc _ _) bb_w6) | (with_reducible exact below_via (bl_alloc_drew _ _) bb_w6)
               have s_w6 : w5.heap.size ≤ w6.heap.size := b_w6.size
               (first | (replace ZB := ZB; replace ZB := Lib.hid (box_on b_w6 ZB.out)) | (have ZB := Lib.hid (box_after_d bb_w6)) | (have ZB := Lib.hid (box_after_e bb_w6)) | (have ZB := Lib.hid (box_after bb_w6)) | skip)
               have F6 := Lib.hid (f6)
               have FP6 := Lib.hid (RP.out.below b_w6)
               have U2 := Lib.hid (fun u (hu : Below w6.heap.size w6 u) => HPK.out (k + 1) _ v6 u (HX.out u (below_via b_w6 hu)) (by omega) (FP6.out.below hu) (F6.out.below hu))
               clear bb_w6)
            | (go_at_call 124; (first | (with_reducible refine (U2.out _ (bl_refl _)).mono ?_) | (with_reducible refine (U2.out _ (bl_alloc _ _)).mono ?_)); rintro e w7 ⟨l7, rfl, f_last, bb_w7⟩
               have b_w7 : Below w6.heap.size w6 w7 := by first | (with_reducible exact below_via (bl_refl _) bb_w7) | (with_reducible exact below_via (bl_alloc _ _) bb_w7)
               have s_w7 : w6.heap.size ≤ w7.heap.size := b_w7.size
               (first | (replace ZB := ZB; have ZL := Nat.lt_of_lt_of_le (ZB.out.2.2) f_last.own; replace ZB := Lib.hid (box_on b_w7 ZB.out)) | (have ZB := Lib.hid (box_after_d bb_w7); have ZL := Nat.lt_of_lt_of_le (alloc_lt _ _) f_last.own) | (have ZB := Lib.hid (box_after_e bb_w7); have ZL := Nat.lt_of_lt_of_le (alloc_lt _ _) f_last.own) | (have ZB := Lib.hid (box_after bb_w7); have ZL := Nat.lt_of_lt_of_le (alloc_lt _ _) f_last.own) | skip)
               (first | (obtain ⟨⟨z0, z1, z2⟩, ⟨y0, y1, y2⟩, zq⟩ := ZB.out) | skip)
               have F_last := Lib.hid (f_last)
               clear bb_w7))
        all_goals
          go_wp2_with fail
          go_meet
          first
            | exact ⟨_, rfl, boxE_new F_last.out hkk (below_via (b_w6) b_w7) _ _⟩
            | exact ⟨_, rfl, boxE_old F_last.out hkk (below_via (b_w6) b_w7) _ _ (by omega) ZL ZB.out⟩
      case rest =>
      obtain ⟨q, rfl, hbx⟩ := hcut
      obtain ⟨hb8, lb, ⟨d0, d1, d2⟩, hrd⟩ := hbx
      have hdet := HDT.out (k + 1) _ wc (by omega) hrd
      have HDET := Lib.hid hdet
      have HB8 := Lib.hid hb8
      clear hrd hdet hb8 T5 U1 RP
      go_wp2_with fail
      (refine HDET.out.mono ?_)
      rintro e w9 ⟨v9, rfl, hf9, hb9⟩
      obtain ⟨D, hD⟩ : ∃ D, D = leadD A R (k + 1) := ⟨_, rfl⟩
      rw [← hD] at hf9
      have hs8 := HB8.out.size
      have hbA := below_via HB8.out hb9
      have hfb := hf9.mono (show w.heap.size + 1 ≤ wc.heap.size from Nat.le_trans HS5.out hs8)
      obtain ⟨am9, an9, ac9, rfl, -⟩ := hfb.stored
      have hba := bl_alloc w9 (.cells #[.bool (decide (D < 0)), .slice am9 an9 ac9] 49)
      have hbb := below_via hbA hba
      have HOA := Lib.hid (HO5.out.below hbb)
      have HPA := Lib.hid (HP5.out.grow (gb_below hbb none) (fun b _ => by simp))
      have HFA := Lib.hid (hfb.below hba)
      have HBB := Lib.hid (below_via HB5.out hbb)
      have HSB := Lib.hid (Nat.le_trans HS5.out hbb.size)
      have HDD := Lib.hid hD
      replace c0 := cell_stays hbb c0
      replace c1 := cell_stays hbb c1
      replace c2 := cell_stays hbb c2
      clear d0 d1 d2 hD hf9 hs8 hbA hfb hba hbb hb9 HDET HB8 HO5 HP5 HB5 HS5 HX
      go_wp2_with (at_builtin; (refine wp_pushZ rfl _ _ _ rfl Try.underlying22 HOA.out rfl rfl (by simp) rfl HFA.out HSB.out (by omega) ?_); intro v10 w10 ho10 hb10 hg10; have HO10 := Lib.hid ho10; have HP10 := Lib.hid (HPA.out.ints HOA.out hg10); have HB10 := Lib.hid (HBB.out.trans (hb10.mono (Nat.le_succ _))); have HS10 := Lib.hid (Nat.le_trans HSB.out hb10.size); replace c0 := below_keep hb10 (by omega) c0; replace c1 := below_keep hb10 (by omega) c1; replace c2 := below_keep hb10 (by omega) c2; clear ho10 hb10 hg10)
      go_roundw
      case rel => exact ⟨k + 1, by omega, by go_num, HO10.out.congr (F := leadD A R) (fun i hi => by
        show (if i = k + 1 then D else leadD A R i) = _
        split
        · rename_i e; rw [e]; exact HDD.out
        · rfl), HP10.out, HB10.out, HS10.out, c0, c1, c2⟩
      case measure => simp [intOf]; omega
    · obtain rfl : k = R := by omega
      have HO := Lib.hid (ho.mono (Nat.le_succ w.heap.size))
      have HBR := Lib.hid hb
      clear ho hp hb
      go_wp2_with fail
      go_ret2
      exact ⟨_, rfl, HO.out, HBR.out⟩
end Go.Proofs.Ytejliecmdkmgiaa
namespace Go.Proofs.Ytejliecmdkmgiaa
open Go.RowKit
end Go.Proofs.Ytejliecmdkmgiaa
