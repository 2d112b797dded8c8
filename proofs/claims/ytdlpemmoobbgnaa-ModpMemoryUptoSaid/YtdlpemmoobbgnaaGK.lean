/- A region that draws its order, holds one call that makes memory and ends with a store, some addresses being reckoned beside the call: what only reads in front of the call runs in one order, then the call and what is behind it. The walk of the law's stairs, where it answers yes. The walk of trellisref09.VecMul. A list of integers that the call fills by append. Plain: what stands behind ModpKernels: stairs, ranks, the kernel's rows, the rows as combinations of the echelon's. The walk of the law ModpKernels. -/
import Derived.StillTail
import Derived.StillTactics
import Derived.Test.YtdlpemmoobbgnaaGI
import Derived.Test.YtdlpemmoobbgnaaGG
import Derived.Test.YtdlpemmoobbgnaaGF
set_option linter.unusedVariables false
set_option linter.unusedSimpArgs false
namespace Go.Proofs.Ytdlpemmoobbgnaa
open Go

section
variable {P : Program} {ops : Array Oper} {md : Region.Mode} {w : World}

/-- op c is the gate: what is of H leads to it, what is not of H waits for it (or is listed from the first) -/
def gateB (md : Region.Mode) (ops : Array Oper) (H : Nat → Bool) (c : Nat) (L0 : Array Bool) : Bool :=
  !H c && !L0.getD c true && decide (L0.size = ops.size) &&
  (List.range ops.size).all (fun i => !H i || (decide (i < c) && (List.range (c + 1)).any fun j => decide (i < j) && (H j || j == c) && Region.waitsFor md ops j i)) &&
  (List.range ops.size).all (fun t => H t || t == c || L0.getD t true || Region.waitsFor md ops t c) &&
  (List.range ops.size).all (fun j => !L0.getD j false || (match ops[j]? with | some o => o.after.all fun e => !Region.binds md e || L0.getD e.on false | none => true))

structure Gate (md : Region.Mode) (ops : Array Oper) (H : Nat → Bool) (L0 l : Array Bool) : Prop where
  size : l.size = ops.size
  closed : ∀ j oj, ops[j]? = some oj → l.getD j false = true → ∀ e ∈ oj.after, Region.binds md e = true → l.getD e.on false = true
  rest : ∀ t, H t = false → l.getD t true = L0.getD t true

theorem off_both {l : Array Bool} {i : Nat} (h : l.getD i true = false) : l.getD i false = false := by
  rcases Nat.lt_or_ge i l.size with h' | h'
  · simp [h'] at h ⊢; exact h
  · simp [Array.getElem?_eq_none h'] at h
theorem off_in {l : Array Bool} {i : Nat} (hi : i < l.size) (h : l.getD i false = false) : l.getD i true = false := by
  simp [hi] at h ⊢; exact h

theorem Gate.start {H : Nat → Bool} {c : Nat} {L0 : Array Bool} (hB : gateB md ops H c L0 = true) : Gate md ops H L0 L0 := by
  unfold gateB at hB
  simp only [Bool.and_eq_true, List.all_eq_true, List.mem_range, decide_eq_true_eq] at hB
  refine ⟨hB.1.1.1.2, fun j oj hj hl e he hb => ?_, fun _ _ => rfl⟩
  have h := hB.2 j (Array.getElem?_eq_some_iff.1 hj).1
  rw [hl, hj] at h
  simp only [Bool.not_true, Bool.false_or, Array.all_eq_true_iff_forall_mem] at h
  have := h e he
  simpa [hb] using this

theorem Gate.set {H : Nat → Bool} {L0 l : Array Bool} {i : Nat} (h : Gate md ops H L0 l) (hi : i ∈ Region.ready md ops l) (hH : H i = true) : Gate md ops H L0 (l.setIfInBounds i true) := by
  obtain ⟨_, oi, hoi, hall⟩ := mem_ready.1 hi
  refine ⟨by simp [h.size], fun j oj hj hl e he hb => ?_, fun t ht => ?_⟩
  · by_cases hij : i = j
    · subst hij
      obtain rfl : oj = oi := Option.some.inj (hj.symm.trans hoi)
      exact getD_set_true (hall e he hb)
    · rw [getD_set_ne false hij] at hl
      exact getD_set_true (h.closed j oj hj hl e he hb)
  · rw [getD_set_ne true (fun e => by rw [e, ht] at hH; cases hH)]; exact h.rest t ht

/-- as long as something of H is open, nothing else can come up -/
theorem Gate.only {H : Nat → Bool} {c : Nat} {L0 l : Array Bool} (hB : gateB md ops H c L0 = true) (h : Gate md ops H L0 l) :
    ∀ (d i : Nat), c - i = d → H i = true → i < ops.size → l.getD i true = false → ∀ t ∈ Region.ready md ops l, H t = true := by
  have hB' := hB
  unfold gateB at hB'
  simp only [Bool.and_eq_true, List.all_eq_true, List.mem_range, decide_eq_true_eq, Bool.not_eq_true', Bool.or_eq_true, List.any_eq_true, beq_iff_eq] at hB'
  obtain ⟨⟨⟨⟨⟨g1, g2⟩, -⟩, g3⟩, g4⟩, -⟩ := hB'
  have hc : l.getD c true = false := by rw [h.rest c g1]; exact g2
  intro d
  induction d using Nat.strongRecOn with
  | _ d ih =>
    intro i hd hi his hun t ht
    cases hHt : H t with
    | true => rfl
    | false =>
      exfalso
      obtain ⟨hun', ot, hot, hall⟩ := mem_ready.1 ht
      have hts := (Array.getElem?_eq_some_iff.1 hot).1
      have wait : ∀ k, Region.waitsFor md ops t k = true → l.getD k false = true := fun k hk => by
        obtain ⟨o', ho', e, he, hb, hon⟩ := Region.waitsFor_spec hk
        obtain rfl : o' = ot := Option.some.inj (ho'.symm.trans hot)
        rw [← hon]; exact hall e he hb
      by_cases htc : t = c
      · subst htc
        rcases g3 i his with g | ⟨hic, j, hj, ⟨hij, hjH⟩, hw⟩
        · rw [hi] at g; cases g
        · by_cases hjt : j = t
          · subst hjt
            have := wait i hw
            rw [off_both hun] at this; cases this
          · have hjH : H j = true := hjH.resolve_right hjt
            have hjs : j < ops.size := by omega
            obtain ⟨oj, hoj, e, he, hb, hon⟩ := Region.waitsFor_spec hw
            cases hl : l.getD j false with
            | true =>
              have := h.closed j oj hoj hl e he hb
              rw [hon, off_both hun] at this; cases this
            | false =>
              have := ih (t - j) (by omega) j rfl hjH hjs (off_in (by rw [h.size]; exact hjs) hl) t ht
              rw [hHt] at this; cases this
      · rcases g4 t hts with ((g | g) | g) | g
        · rw [hHt] at g; cases g
        · exact htc g
        · rw [h.rest t hHt, g] at hun'; cases hun'
        · have := wait c g
          rw [off_both hc] at this; cases this

end
end Go.Proofs.Ytdlpemmoobbgnaa

namespace Go.Proofs.Ytdlpemmoobbgnaa
open Go.RowKit

theorem own_below {w w' : World} {base : Nat} {e : TypeId} {size : Nat} {v : Value} {n : Nat} {xs : List Value} (h : w.ownsRow base e size v n xs) (hb : Below w.heap.size w w') : w'.ownsRow base e size v n xs := by
  refine h.kept (gb_below hb none) ?_
  cases hv : v.ownBlock with
  | none => exact Or.inl rfl
  | some k => exact Or.inr (by simp)
end Go.Proofs.Ytdlpemmoobbgnaa

namespace Go.Proofs.Ytdlpemmoobbgnaa
open Go.RowKit

/-- what the walk keeps: the matrix's box, the row that is being filled -/
structure VS (w wr : World) (R C : Nat) (s : Value) (lb : Nat) (z : Nat → Int) : Prop where
  zg : ZG 56 wr (w.heap.size + 1) (lb + 1) lb C z
  bel : Below w.heap.size w wr
  lt : lb < wr.heap.size
  x : wr.cell? ⟨w.heap.size, 0, none⟩ = some (.int .i64 R) ∧ wr.cell? ⟨w.heap.size, 1, none⟩ = some (.int .i64 C) ∧ wr.cell? ⟨w.heap.size, 2, none⟩ = some s

section
variable {w wr w' : World} {R C : Nat} {s : Value} {lb : Nat} {z z' : Nat → Int}
theorem VS.congr (h : VS w wr R C s lb z) (e : ∀ q, q < C → z q = z' q) : VS w wr R C s lb z' := { h with zg := h.zg.congr e }
theorem VS.below (h : VS w wr R C s lb z) (hb : Below wr.heap.size wr w') : VS w w' R C s lb z :=
  ⟨h.zg.below hb, h.bel.trans (hb.mono h.bel.size), Nat.lt_of_lt_of_le h.lt hb.size, three_stay hb h.x⟩
theorem VS.put (h : VS w wr R C s lb z) {k : Nat} (hk : k < C) {y : Int} {base : Nat} {a : Option Addr} {m c : Nat} (hz : FrZ wr base (.agg #[.bool (decide (y < 0)), .slice a m c]) y) (hbase : lb + 1 ≤ base)
    (hz' : ∀ q, q < C → (if q = k then y else z q) = z' q) : VS w ((wr.setCell ⟨lb, k * 2, none⟩ (.bool (decide (y < 0)))).setCell ⟨lb, k * 2 + 1, none⟩ (.slice a m c)) R C s lb z' := by
  have hg : wr.grownBy ((wr.setCell ⟨lb, k * 2, none⟩ (.bool (decide (y < 0)))).setCell ⟨lb, k * 2 + 1, none⟩ (.slice a m c)) (some lb) := gb_trans (gb_set _ _ _) (gb_set _ _ _)
  have l1 := h.zg.own
  have hc : ∀ {o : Nat} {v : Value}, wr.cell? ⟨w.heap.size, o, none⟩ = some v → ((wr.setCell ⟨lb, k * 2, none⟩ (.bool (decide (y < 0)))).setCell ⟨lb, k * 2 + 1, none⟩ (.slice a m c)).cell? ⟨w.heap.size, o, none⟩ = some v := fun hv => hg.cell hv (by intro e; injection e with e; simp at e; omega)
  exact ⟨(h.zg.put hk (hz.mono hbase)).congr hz', (h.bel.setCell (by show w.heap.size ≤ lb; omega) _).setCell (by show w.heap.size ≤ lb; omega) _, Nat.lt_of_lt_of_le h.lt hg.size, hc h.x.1, hc h.x.2.1, hc h.x.2.2⟩
end

end Go.Proofs.Ytdlpemmoobbgnaa

namespace Go.Proofs.Ytdlpemmoobbgnaa
open Go.RowKit

def flatI (b m : Nat → Value) : Nat → List Value
  | 0 => []
  | n + 1 => flatI b m n ++ [b n, m n]
theorem flatI_len (b m : Nat → Value) : ∀ n, (flatI b m n).length = n * 2
  | 0 => rfl
  | n + 1 => by show (flatI b m n ++ [b n, m n]).length = _; rw [List.length_append, flatI_len b m n]; simp; omega
theorem flatI_at (b m : Nat → Value) : ∀ n i, i < n → (flatI b m n)[i * 2]? = some (b i) ∧ (flatI b m n)[i * 2 + 1]? = some (m i)
  | 0, _, h => absurd h (by omega)
  | n + 1, i, h => by
    have hl := flatI_len b m n
    show (flatI b m n ++ [b n, m n])[i * 2]? = _ ∧ (flatI b m n ++ [b n, m n])[i * 2 + 1]? = _
    by_cases e : i = n
    · subst e
      rw [List.getElem?_append_right (by omega), List.getElem?_append_right (by omega), hl]
      simp
    · rw [List.getElem?_append_left (by omega), List.getElem?_append_left (by omega)]
      exact flatI_at b m n i (by omega)
theorem flatI_congr {b m b' m' : Nat → Value} : ∀ {n}, (∀ i, i < n → b i = b' i ∧ m i = m' i) → flatI b m n = flatI b' m' n
  | 0, _ => rfl
  | n + 1, h => by
    show flatI b m n ++ [b n, m n] = flatI b' m' n ++ [b' n, m' n]
    rw [flatI_congr (n := n) (fun i hi => h i (by omega)), (h n (by omega)).1, (h n (by omega)).2]

/-- the value v is a list of n integers X in cells of the call's own, from base on; their words lie in memory that w0 has -/
def OwnI (w0 w : World) (base : Nat) (v : Value) (n : Nat) (X : Nat → Raw) : Prop :=
  ∃ M : Nat → Value, w.ownsRow base 56 2 v n (flatI (fun i => .bool (X i).neg) M n) ∧ ∀ i, i < n → RdW w0 (M i) (X i).n (X i).f

theorem OwnI.start (w0 w : World) (base : Nat) (X : Nat → Raw) : OwnI w0 w base (.slice none 0 0) 0 X := ⟨fun _ => .slice none 0 0, ⟨rfl, Or.inl ⟨rfl, rfl⟩⟩, fun i hi => absurd hi (by omega)⟩
theorem OwnI.slice {w0 w : World} {base : Nat} {v : Value} {n : Nat} {X : Nat → Raw} (h : OwnI w0 w base v n X) : ∃ a c, v = .slice a n c := by
  obtain ⟨M, h, -⟩ := h
  exact own_slice h
theorem OwnI.below {w0 w w' : World} {base : Nat} {v : Value} {n : Nat} {X : Nat → Raw} (h : OwnI w0 w base v n X) (hb : Below w.heap.size w w') : OwnI w0 w' base v n X := by
  obtain ⟨M, h1, h2⟩ := h
  exact ⟨M, own_below h1 hb, h2⟩
theorem OwnI.congr {w0 w : World} {base : Nat} {v : Value} {n : Nat} {X Y : Nat → Raw} (h : OwnI w0 w base v n X) (e : ∀ i, i < n → X i = Y i) : OwnI w0 w base v n Y := by
  obtain ⟨M, h1, h2⟩ := h
  refine ⟨M, ?_, fun i hi => by rw [← e i hi]; exact h2 i hi⟩
  rw [flatI_congr (b' := fun i => .bool (X i).neg) (m' := M) (fun i hi => ⟨by rw [e i hi], rfl⟩)]
  exact h1
theorem OwnI.read {w0 w : World} {base : Nat} {v : Value} {n : Nat} {X : Nat → Raw} (h : OwnI w0 w base v n X) (hb : Below w0.heap.size w0 w) (hn : n ≤ 4398046511104) : RdL w v n X := by
  obtain ⟨M, ⟨h0, h1⟩, h2⟩ := h
  rcases h1 with ⟨rfl, rfl⟩ | ⟨g, cap, cur, rfl, -, h3, h4, -, -, h5⟩
  · exact ⟨none, 0, rfl, Nat.le_refl _, hn, fun h => absurd h (by omega)⟩
  · refine ⟨some ⟨g, 0, none⟩, cap, rfl, h4, hn, fun _ => ⟨g, 0, rfl, fun i hi => ⟨M i, ?_, ?_, (h2 i hi).below hb⟩⟩⟩
    · have := (flatI_at (fun i => Value.bool (X i).neg) M n i hi).1
      rw [← h5, List.getElem?_take, if_pos (by omega)] at this
      rw [Nat.zero_add, cell_of_row _ _ _ _ _ _ h3]; simpa using this
    · have := (flatI_at (fun i => Value.bool (X i).neg) M n i hi).2
      rw [← h5, List.getElem?_take, if_pos (by omega)] at this
      rw [Nat.zero_add, cell_of_row _ _ _ _ _ _ h3]; simpa using this

theorem adn (b o i : Nat) : (⟨b, o, none⟩ : Addr).add i = ⟨b, o + i, none⟩ := by
  unfold Addr.add; split <;> simp_all
end Go.Proofs.Ytdlpemmoobbgnaa

namespace Go.Proofs.Ytdlpemmoobbgnaa
open laF

theorem ph_zero_eq {q : Nat} [NeZero q] {y : Int} (h0 : 0 ≤ y) (h1 : y < q) (h : (ph y : Fin q) = 0) : y = 0 := by
  rw [ph_zero_iff, Int.emod_eq_of_lt h0 h1] at h; exact h
section
variable {R C : Nat} {xa xt : Nat → Raw}

end
end Go.Proofs.Ytdlpemmoobbgnaa

namespace Go.Proofs.Ytdlpemmoobbgnaa
open Go.RowKit

end Go.Proofs.Ytdlpemmoobbgnaa
