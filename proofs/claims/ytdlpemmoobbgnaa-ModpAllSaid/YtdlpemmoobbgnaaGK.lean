/- A region that draws its order, holds one call that makes memory and ends with a store, some addresses being reckoned beside the call: what only reads in front of the call runs in one order, then the call and what is behind it. The walk of the law's stairs, where it answers yes. The walk of trellisref09.VecMul. A list of integers that the call fills by append. Plain: what stands behind ModpKernels: stairs, ranks, the kernel's rows, the rows as combinations of the echelon's. The walk of the law ModpKernels. -/
import Derived.StillTail
import Derived.StillTactics
import Derived.Test.YtdlpemmoobbgnaaGI
import Derived.Test.YtdlpemmoobbgnaaGG
import Derived.Test.YtdlpemmoobbgnaaGF
set_option linter.unusedVariables false
set_option linter.unusedSimpArgs false
namespace Go.Proofs.Ytdlpemmoobbgnaa
open Go

section
variable {P : Program} {ops : Array Oper} {md : Region.Mode} {w : World}

/-- every way through the operations of H (they only read) comes to L -/
def wpHead (P : Program) (md : Region.Mode) (ops : Array Oper) (w : World) (H : Nat → Bool) (L : Array Bool → Act → Prop) : Nat → Array Bool → Act → Prop
  | 0, l, a => L l a
  | f + 1, l, a => Region.ready md ops l ≠ [] ∧ ∀ i ∈ Region.ready md ops l, H i = true ∧ stOp P ops w i (wpHead P md ops w H L f (l.setIfInBounds i true)) a

theorem wpHead_any {H : Nat → Bool} {g : Nat} {L : Array Bool → Act → Prop} {Q' : Exit → Act → World → Prop} (hL : ∀ l a, L l a → wpAny P md ops Q' g l a w) :
    ∀ (f : Nat) (l : Array Bool) (a : Act), wpHead P md ops w H L f l a → wpAny P md ops Q' (f + g) l a w
  | 0, l, a, h => by rw [Nat.zero_add]; exact hL _ _ h
  | f + 1, l, a, h => by
    rw [Nat.add_right_comm]
    exact ⟨fun h0 => absurd h0 h.1, fun i hi => wpOp_of_stOp (fun a' h' => wpHead_any hL f _ a' h') (h.2 i hi).2⟩

/-- op c is the gate: what is of H leads to it, what is not of H waits for it (or is listed from the first) -/
def gateB (md : Region.Mode) (ops : Array Oper) (H : Nat → Bool) (c : Nat) (L0 : Array Bool) : Bool :=
  !H c && !L0.getD c true && decide (L0.size = ops.size) &&
  (List.range ops.size).all (fun i => !H i || (decide (i < c) && (List.range (c + 1)).any fun j => decide (i < j) && (H j || j == c) && Region.waitsFor md ops j i)) &&
  (List.range ops.size).all (fun t => H t || t == c || L0.getD t true || Region.waitsFor md ops t c) &&
  (List.range ops.size).all (fun j => !L0.getD j false || (match ops[j]? with | some o => o.after.all fun e => !Region.binds md e || L0.getD e.on false | none => true))

structure Gate (md : Region.Mode) (ops : Array Oper) (H : Nat → Bool) (L0 l : Array Bool) : Prop where
  size : l.size = ops.size
  closed : ∀ j oj, ops[j]? = some oj → l.getD j false = true → ∀ e ∈ oj.after, Region.binds md e = true → l.getD e.on false = true
  rest : ∀ t, H t = false → l.getD t true = L0.getD t true

theorem off_both {l : Array Bool} {i : Nat} (h : l.getD i true = false) : l.getD i false = false := by
  rcases Nat.lt_or_ge i l.size with h' | h'
  · simp [h'] at h ⊢; exact h
  · simp [Array.getElem?_eq_none h'] at h
theorem off_in {l : Array Bool} {i : Nat} (hi : i < l.size) (h : l.getD i false = false) : l.getD i true = false := by
  simp [hi] at h ⊢; exact h

theorem Gate.start {H : Nat → Bool} {c : Nat} {L0 : Array Bool} (hB : gateB md ops H c L0 = true) : Gate md ops H L0 L0 := by
  unfold gateB at hB
  simp only [Bool.and_eq_true, List.all_eq_true, List.mem_range, decide_eq_true_eq] at hB
  refine ⟨hB.1.1.1.2, fun j oj hj hl e he hb => ?_, fun _ _ => rfl⟩
  have h := hB.2 j (Array.getElem?_eq_some_iff.1 hj).1
  rw [hl, hj] at h
  simp only [Bool.not_true, Bool.false_or, Array.all_eq_true_iff_forall_mem] at h
  have := h e he
  simpa [hb] using this

theorem Gate.set {H : Nat → Bool} {L0 l : Array Bool} {i : Nat} (h : Gate md ops H L0 l) (hi : i ∈ Region.ready md ops l) (hH : H i = true) : Gate md ops H L0 (l.setIfInBounds i true) := by
  obtain ⟨_, oi, hoi, hall⟩ := mem_ready.1 hi
  refine ⟨by simp [h.size], fun j oj hj hl e he hb => ?_, fun t ht => ?_⟩
  · by_cases hij : i = j
    · subst hij
      obtain rfl : oj = oi := Option.some.inj (hj.symm.trans hoi)
      exact getD_set_true (hall e he hb)
    · rw [getD_set_ne false hij] at hl
      exact getD_set_true (h.closed j oj hj hl e he hb)
  · rw [getD_set_ne true (fun e => by rw [e, ht] at hH; cases hH)]; exact h.rest t ht

/-- as long as something of H is open, nothing else can come up -/
theorem Gate.only {H : Nat → Bool} {c : Nat} {L0 l : Array Bool} (hB : gateB md ops H c L0 = true) (h : Gate md ops H L0 l) :
    ∀ (d i : Nat), c - i = d → H i = true → i < ops.size → l.getD i true = false → ∀ t ∈ Region.ready md ops l, H t = true := by
  have hB' := hB
  unfold gateB at hB'
  simp only [Bool.and_eq_true, List.all_eq_true, List.mem_range, decide_eq_true_eq, Bool.not_eq_true', Bool.or_eq_true, List.any_eq_true, beq_iff_eq] at hB'
  obtain ⟨⟨⟨⟨⟨g1, g2⟩, -⟩, g3⟩, g4⟩, -⟩ := hB'
  have hc : l.getD c true = false := by rw [h.rest c g1]; exact g2
  intro d
  induction d using Nat.strongRecOn with
  | _ d ih =>
    intro i hd hi his hun t ht
    cases hHt : H t with
    | true => rfl
    | false =>
      exfalso
      obtain ⟨hun', ot, hot, hall⟩ := mem_ready.1 ht
      have hts := (Array.getElem?_eq_some_iff.1 hot).1
      have wait : ∀ k, Region.waitsFor md ops t k = true → l.getD k false = true := fun k hk => by
        obtain ⟨o', ho', e, he, hb, hon⟩ := Region.waitsFor_spec hk
        obtain rfl : o' = ot := Option.some.inj (ho'.symm.trans hot)
        rw [← hon]; exact hall e he hb
      by_cases htc : t = c
      · subst htc
        rcases g3 i his with g | ⟨hic, j, hj, ⟨hij, hjH⟩, hw⟩
        · rw [hi] at g; cases g
        · by_cases hjt : j = t
          · subst hjt
            have := wait i hw
            rw [off_both hun] at this; cases this
          · have hjH : H j = true := hjH.resolve_right hjt
            have hjs : j < ops.size := by omega
            obtain ⟨oj, hoj, e, he, hb, hon⟩ := Region.waitsFor_spec hw
            cases hl : l.getD j false with
            | true =>
              have := h.closed j oj hoj hl e he hb
              rw [hon, off_both hun] at this; cases this
            | false =>
              have := ih (t - j) (by omega) j rfl hjH hjs (off_in (by rw [h.size]; exact hjs) hl) t ht
              rw [hHt] at this; cases this
      · rcases g4 t hts with ((g | g) | g) | g
        · rw [hHt] at g; cases g
        · exact htc g
        · rw [h.rest t hHt, g] at hun'; cases hun'
        · have := wait c g
          rw [off_both hc] at this; cases this

theorem wpHead_first {H : Nat → Bool} {c i : Nat} {L0 : Array Bool} {oi : Oper} {v : Value} {L : Array Bool → Act → Prop} (hi : ops[i]? = some oi) (hsel : ∀ (j : Nat) (o : Oper) cs b, ops[j]? = some o → o.op ≠ .select cs b)
    (hB : gateB md ops H c L0 = true) (hH : H i = true) (hdone : ∀ l a, L l a → ∀ j ∈ Region.ready md ops l, H j = false) :
    ∀ (f : Nat) (l : Array Bool) (a : Act), Gate md ops H L0 l →
      (∀ j oj, ops[j]? = some oj → j ≠ i → l.getD j true = false → (∀ e ∈ oj.after, Region.binds md e = true → e.on ≠ i) → oi.apart ops oj = true) →
      i ∈ Region.ready md ops l → YieldsAt P ops w oi v a →
      wpHead P md ops w H L f (l.setIfInBounds i true) (a.put oi.dst v) → wpHead P md ops w H L (f + 1) l a := by
  have his := (Array.getElem?_eq_some_iff.1 hi).1
  intro f
  induction f with
  | zero =>
    intro l a hg _ hr hy h
    have hun := (mem_ready.1 hr).1
    refine ⟨fun e => (by rw [e] at hr; cases hr), fun j hj => ⟨hg.only hB _ i rfl hH his hun j hj, ?_⟩⟩
    by_cases hji : j = i
    · subst hji; exact hy.stOp hi h
    · have := hdone _ _ h j (ready_mono hj hji)
      rw [hg.only hB _ i rfl hH his hun j hj] at this; cases this
  | succ f ih =>
    intro l a hg hfree hr hy h
    have hun := (mem_ready.1 hr).1
    refine ⟨fun e => (by rw [e] at hr; cases hr), fun j hj => ?_⟩
    have hjH := hg.only hB _ i rfl hH his hun j hj
    refine ⟨hjH, ?_⟩
    by_cases hji : j = i
    · subst hji; exact hy.stOp hi h
    · have h1 := (h.2 j (ready_mono hj hji)).2
      obtain ⟨hjun, oj, hoj, hall⟩ := mem_ready.1 hj
      have hnot : ∀ e ∈ oj.after, Region.binds md e = true → e.on ≠ i := fun e he hb heq => by
        have h1 := hall e he hb
        rw [heq, off_both hun] at h1; cases h1
      have h2 := stOp_put hoj (hfree j oj hoj hji hjun hnot) (fun cs b => hsel i oi cs b hi) (fun cs b => hsel j oj cs b hoj) hy h1
      refine stOp_mono (fun a' h3 => ih (l.setIfInBounds j true) a' (hg.set hj hjH) (fun k ok hk hki hku hno => hfree k ok hk hki ?_ hno) (ready_mono hr (Ne.symm hji)) h3.1 ?_) h2
      · by_cases hjk : j = k
        · subst hjk; exact hjun
        · rw [getD_set_ne true hjk] at hku; exact hku
      · rw [Array.setIfInBounds_comm _ _ hji]
        exact h3.2

/-- the operations at these places -/
def pick (l : List Oper) : List Nat → List Oper
  | [] => []
  | k :: ks => match l[k]? with
    | some o => o :: pick l ks
    | none => []

/-- the places can come up in this order and no other -/
def seqI (md : Region.Mode) (ops : Array Oper) : List Nat → Array Bool → Bool
  | [], l => (Region.ready md ops l).isEmpty
  | k :: ks, l => decide (Region.ready md ops l = [k]) && decide (k < ops.size) && seqI md ops ks (l.setIfInBounds k true)
/-- the places can come up in this order, each apart from what is still open; behind them the others, in one order -/
def lexI (md : Region.Mode) (ops : Array Oper) (H : Nat → Bool) (tl : List Nat) : List Nat → Array Bool → Bool
  | [], l => seqI md ops tl l && (match tl with | [] => true | t :: _ => !H t)
  | k :: ks, l => (Region.ready md ops l).contains k && Region.free md ops l k && H k && decide (k < ops.size) && lexI md ops H tl ks (l.setIfInBounds k true)

theorem wpAny_seqI {ls : List Oper} {Q' : Exit → Act → World → Prop} : ∀ (ks : List Nat) (l : Array Bool) (a : Act) (w : World),
    seqI md ls.toArray ks l = true → wpList P ls.toArray Q' (pick ls ks) a w → wpAny P md ls.toArray Q' ks.length l a w
  | [], _, _, _, hB, h => ⟨by simpa [seqI] using hB, h⟩
  | k :: ks, l, a, w, hB, h => by
    simp only [seqI, Bool.and_eq_true, decide_eq_true_eq] at hB
    obtain ⟨⟨h1, h2⟩, h3⟩ := hB
    have hk : k < ls.length := by simpa using h2
    have hk' : ls[k]? = some ls[k] := List.getElem?_eq_getElem hk
    simp only [pick, hk'] at h
    refine ⟨fun e => (by rw [h1] at e; cases e), fun i hi => ?_⟩
    rw [h1] at hi
    obtain rfl : i = k := by simpa using hi
    have hw : wpOp P ls.toArray Q' i (wpList P ls.toArray Q' (pick ls ks)) a w := by
      unfold wpOp
      rw [show ls.toArray[i]? = some ls[i] by simp]
      exact h
    exact wpOp_mono (fun a' w' h' => wpAny_seqI ks _ a' w' h3 h') hw

theorem wpHead_lexI {ls : List Oper} {H : Nat → Bool} {c : Nat} {L0 : Array Bool} {tl : List Nat} {Lq : Act → Prop} (hsel : Region.noSelect ls.toArray = true) (hB : gateB md ls.toArray H c L0 = true) :
    ∀ (ks : List Nat) (l : Array Bool) (a : Act), Gate md ls.toArray H L0 l → lexI md ls.toArray H tl ks l = true → wpStill P ls.toArray w Lq (pick ls ks) a →
    wpHead P md ls.toArray w H (fun l' a' => (seqI md ls.toArray tl l' = true ∧ ∀ j ∈ Region.ready md ls.toArray l', H j = false) ∧ Lq a') ks.length l a
  | [], l, a, _, hL, h => by
    simp only [lexI, Bool.and_eq_true] at hL
    refine ⟨⟨hL.1, fun j hj => ?_⟩, h⟩
    cases tl with
    | nil =>
      have h1 := hL.1
      simp only [seqI, List.isEmpty_iff] at h1
      rw [h1] at hj; cases hj
    | cons t ts =>
      have h1 := hL.1
      simp only [seqI, Bool.and_eq_true, decide_eq_true_eq] at h1
      rw [h1.1.1] at hj
      obtain rfl : j = t := by simpa using hj
      simp at hL; exact hL.2
  | k :: ks, l, a, hg, hL, h => by
    simp only [lexI, Bool.and_eq_true, decide_eq_true_eq] at hL
    obtain ⟨⟨⟨⟨h1, h2⟩, h3⟩, h4⟩, h5⟩ := hL
    have hk : k < ls.length := by simpa using h4
    have hk' : ls[k]? = some ls[k] := List.getElem?_eq_getElem hk
    have hk2 : ls.toArray[k]? = some ls[k] := by simp
    simp only [pick, hk'] at h
    have hr : k ∈ Region.ready md ls.toArray l := by simpa using h1
    have hst : stOp P ls.toArray w k (wpStill P ls.toArray w Lq (pick ls ks)) a := by unfold stOp; rw [hk2]; exact h
    obtain ⟨v, hy, hK⟩ := yieldsAt_of_stOp hk2 hst
    exact wpHead_first hk2 (Region.noSelect_spec hsel) hB h3 (fun l' a' h' => h'.1.2) ks.length l a hg (Region.free_spec hk2 h2) hr hy (wpHead_lexI hsel hB ks _ _ (hg.set hr h3) h5 hK)

/-- from a place where some are listed: ks in one walk, then tl in its forced order -/
theorem wpAny_gate {ls : List Oper} {Q : Exit → Act → World → Prop} {L0 : Array Bool} {a : Act} {w : World} (ks tl : List Nat) (c f : Nat)
    (hB : (Region.noSelect ls.toArray && gateB .any ls.toArray (fun i => ks.contains i) c L0 && lexI .any ls.toArray (fun i => ks.contains i) tl ks L0 && decide (f = ks.length + tl.length)) = true)
    (h : wpStill P ls.toArray w (fun a' => wpList P ls.toArray Q (pick ls tl) a' w) (pick ls ks) a) : wpAny P .any ls.toArray Q f L0 a w := by
  simp only [Bool.and_eq_true, decide_eq_true_eq] at hB
  obtain ⟨⟨⟨h1, h2⟩, h3⟩, rfl⟩ := hB
  refine wpHead_any (fun l a' h' => ?_) _ _ _ (wpHead_lexI (tl := tl) h1 h2 ks L0 a (Gate.start h2) h3 h)
  exact wpAny_seqI tl l a' w h'.1.1 h'.2
end
end Go.Proofs.Ytdlpemmoobbgnaa

namespace Go.Proofs.Ytdlpemmoobbgnaa
open Go.RowKit

/-- the entries y of R rows of C are a reduced echelon form with the r pivots P 0, P 1, .. -/
structure Sta (R C : Nat) (y : Nat → Int) (r : Nat) (P : Nat → Nat) : Prop where
  le : r ≤ R
  lt : ∀ i, i < r → P i < C
  mono : ∀ i, i + 1 < r → P i < P (i + 1)
  lead : ∀ i j, i < r → j < P i → y (i * C + j) = 0
  one : ∀ i, i < r → y (i * C + P i) = 1
  col : ∀ i k, i < r → k < R → k ≠ i → y (k * C + P i) = 0
  rest : ∀ k, r * C ≤ k → k < R * C → y k = 0

theorem own_last {w : World} {base : Nat} {e : TypeId} {a : Option Addr} {i cap : Nat} {P : Nat → Nat} (h : w.ownsRow base e 1 (.slice a (i + 1) cap) (i + 1) ((List.range (i + 1)).map fun k => Value.int .i64 (P k))) :
    ∃ b o, a = some ⟨b, o, none⟩ ∧ w.cell? ⟨b, o + i, none⟩ = some (.int .i64 (P i)) := by
  rcases h.2 with ⟨e1, -⟩ | ⟨g, cap', cur, e1, -, h1, h2, -, h4, h5⟩
  · injection e1 with _ e1 _; omega
  · injection e1 with e1 _ e2
    subst e1; subst e2
    refine ⟨g, 0, rfl, ?_⟩
    rw [Nat.zero_add, cell_of_row _ _ _ _ _ _ h1]
    have : (cur.toList.take ((i + 1) * 1))[i]? = some (.int .i64 (P i)) := by
      rw [h5]; simp
    rw [List.getElem?_take] at this
    simp at this
    simpa using this

theorem rdl_at0 {w : World} {a : Option Addr} {n cap : Nat} {y : Nat → Int} (h : RdL w (.slice a n cap) n (fun q => small (y q))) {k : Nat} (hk : k < n) :
    ∃ b o ad cd, a = some ⟨b, o, none⟩ ∧ w.cell? ⟨b, o + k * 2, none⟩ = some (.bool false) ∧ w.cell? ⟨b, o + k * 2 + 1, none⟩ = some (.slice ad (w1 (y k)) cd) ∧ RdI w (.agg #[.bool false, .slice ad (w1 (y k)) cd]) (small (y k)) := by
  obtain ⟨b, o, e, m, c0, c1, c2⟩ := rdl_at h hk
  obtain ⟨ad, cd, rfl, -⟩ := c2.1
  exact ⟨b, o, ad, cd, e, c0, c1, _, rfl, c2⟩
theorem w1_zero : w1 0 = 0 := rfl
theorem w1_one : w1 1 = 1 := rfl

theorem own_below {w w' : World} {base : Nat} {e : TypeId} {size : Nat} {v : Value} {n : Nat} {xs : List Value} (h : w.ownsRow base e size v n xs) (hb : Below w.heap.size w w') : w'.ownsRow base e size v n xs := by
  refine h.kept (gb_below hb none) ?_
  cases hv : v.ownBlock with
  | none => exact Or.inl rfl
  | some k => exact Or.inr (by simp)
theorem one_boxed {wx w2 : World} {t : TypeId} {bo : Nat} (hb2 : Below (wx.alloc (.cells #[.bool false, .slice none 0 0] t)).heap.size (wx.alloc (.cells #[.bool false, .slice none 0 0] t)) w2) (hc2 : w2.cell? ⟨bo, 0, none⟩ = some (.int .u64 1)) :
    Below wx.heap.size wx ((w2.setCell ⟨wx.heap.size, 0, none⟩ (.bool false)).setCell ⟨wx.heap.size, 1, none⟩ (.slice (some ⟨bo, 0, none⟩) 1 1)) ∧
    ((w2.setCell ⟨wx.heap.size, 0, none⟩ (.bool false)).setCell ⟨wx.heap.size, 1, none⟩ (.slice (some ⟨bo, 0, none⟩) 1 1)).cell? ⟨wx.heap.size, 0, none⟩ = some (.bool false) ∧
    ((w2.setCell ⟨wx.heap.size, 0, none⟩ (.bool false)).setCell ⟨wx.heap.size, 1, none⟩ (.slice (some ⟨bo, 0, none⟩) 1 1)).cell? ⟨wx.heap.size, 1, none⟩ = some (.slice (some ⟨bo, 0, none⟩) 1 1) ∧
    RdI ((w2.setCell ⟨wx.heap.size, 0, none⟩ (.bool false)).setCell ⟨wx.heap.size, 1, none⟩ (.slice (some ⟨bo, 0, none⟩) 1 1)) (.agg #[.bool false, .slice (some ⟨bo, 0, none⟩) 1 1]) (small 1) := by
  obtain ⟨j0, j1, j2, j3⟩ := box_kept hb2
  obtain ⟨g0, g1⟩ := stored2_own (.bool false) (.slice (some ⟨bo, 0, none⟩) 1 1) j0 j1
  have hne : (⟨wx.heap.size, 0, none⟩ : Addr) ≠ ⟨bo, 0, none⟩ := fun e => by rw [← e, j0] at hc2; simp at hc2
  refine ⟨?_, g0, g1, _, rfl, ⟨_, 1, rfl, Nat.le_refl _, (by decide : (1 : Nat) ≤ 17592186044416), fun _ => ⟨bo, 0, rfl, fun i hi => ?_⟩⟩, fun _ _ => ⟨(by decide : (0 : Int) ≤ 1), (by decide : (1 : Int) ≤ 18446744073709551615)⟩⟩
  · have h1 : Below wx.heap.size wx (wx.alloc (.cells #[.bool false, .slice none 0 0] t)) := (Below.refl _ _).alloc (Nat.le_refl _) _
    exact ((h1.trans (hb2.mono h1.size)).setCell (p := ⟨_, 0, none⟩) (Nat.le_refl _) _).setCell (p := ⟨_, 1, none⟩) (Nat.le_refl _) _
  · have hi : i < 1 := hi
    obtain rfl : i = 0 := by omega
    rw [Nat.add_zero, World.cell?_setCell_other _ _ _ _ (by intro e; injection e with e1 e2 _; omega), World.cell?_setCell_other _ _ _ _ (fun e => by first | exact hne e | exact hne e.symm)]
    exact hc2
theorem zero_boxed (wx : World) (t : TypeId) : Below wx.heap.size wx (wx.alloc (.cells #[.bool false, .slice none 0 0] t)) ∧ (wx.alloc (.cells #[.bool false, .slice none 0 0] t)).cell? ⟨wx.heap.size, 0, none⟩ = some (.bool false) ∧ (wx.alloc (.cells #[.bool false, .slice none 0 0] t)).cell? ⟨wx.heap.size, 1, none⟩ = some (.slice none 0 0) ∧
    RdI (wx.alloc (.cells #[.bool false, .slice none 0 0] t)) (.agg #[.bool false, .slice none 0 0]) (small 0) := by
  have k := cells2 wx (.bool false) (.slice none 0 0) t
  exact ⟨(Below.refl _ _).alloc (Nat.le_refl _) _, (k 0 _ rfl).1, (k 1 _ rfl).1, _, rfl, ⟨none, 0, rfl, Nat.le_refl _, Nat.zero_le _, fun h => absurd h (by decide)⟩, fun i hi => absurd hi (Nat.not_lt_zero i)⟩

set_option maxHeartbeats 4000000 in
set_option maxRecDepth 100000 in
theorem stairs_yes (R C r : Nat) (hR : R ≤ 64) (hC : C ≤ 64) (P : Nat → Nat) (y : Nat → Int) (hs : Sta R C y r P) (s : Value) (w : World) (hx : RdL w s (R * C) (fun q => small (y q))) :
    Calls Try.prog 27 #[.agg #[.int .i64 R, .int .i64 C, s]] w fun e w' => ∃ pv, e = .returned (.tuple #[pv, .bool true]) ∧ w'.ownsRow w.heap.size 3 1 pv r ((List.range r).map fun k => Value.int .i64 (P k)) ∧ Below w.heap.size w w' := by
  obtain ⟨a, cap, rfl, hn⟩ := hx.slice
  obtain ⟨N, hN⟩ : ∃ N, N = R * C := ⟨_, rfl⟩
  have hN4 : N ≤ 4096 := by rw [hN]; exact Nat.mul_le_mul hR hC
  rw [← hN] at hx hn ⊢
  have hz := three_cells w (.int .i64 R) (.int .i64 C) (.slice a N cap) 34
  have hb0 : Below w.heap.size w (w.alloc (.cells #[.int .i64 R, .int .i64 C, .slice a N cap] 34)) := (Below.refl _ _).alloc (Nat.le_refl _) _
  have x0 := (hz 0 _ rfl).1
  have x1 := (hz 1 _ rfl).1
  have x2 := (hz 2 _ rfl).1
  have HX := Lib.hid (hx.below hb0)
  have HB0 := Lib.hid hb0
  have HN := Lib.hid hN
  have HSZ : Hid ((w.alloc (.cells #[.int .i64 R, .int .i64 C, .slice a N cap] 34)).heap.size = w.heap.size + 1) := by show _ = _; simp
  have HL := hs.le
  have HS := Lib.hid hs
  clear hz hx hb0 hN hs
  go_enter Try.func27, Try.ntmps27
  go_wp2_with fail
  generalize w.alloc (.cells #[.int .i64 R, .int .i64 C, .slice a N cap] 34) = wb at *
  go_loopw [4, 5] (fun pv iv wr => ∃ i : Nat, i ≤ r ∧ iv = .int .i64 i ∧ wr.ownsRow wb.heap.size 3 1 pv i ((List.range i).map fun k => Value.int .i64 (P k)) ∧ Below wb.heap.size wb wr) (fun _ iv _ => R - (intOf iv).toNat)
  case atStart => exact ⟨0, by omega, rfl, ⟨rfl, Or.inl ⟨rfl, rfl⟩⟩, Below.refl _ _⟩
  case round =>
    obtain ⟨i, i1, rfl, hown, hbel⟩ := hrel
    replace x0 := cell_stays hbel x0
    replace x1 := cell_stays hbel x1
    replace x2 := cell_stays hbel x2
    obtain ⟨pa, pc, rfl⟩ := own_slice hown
    have HO := Lib.hid hown
    have HBL := Lib.hid hbel
    clear hown hbel
    by_cases hi : i < R
    · by_cases hr : i < r
      · have hPC := HS.out.lt i hr
        go_wp2_with fail
        go_loop [6] (fun cv => ∃ c : Nat, c ≤ P i ∧ cv = .int .i64 c) (fun cv => P i - (intOf cv).toNat)
        case atStart => exact ⟨0, Nat.zero_le _, rfl⟩
        case round =>
          obtain ⟨c, c1, rfl⟩ := hrel
          obtain ⟨q, hq⟩ : ∃ q, q = i * C + c := ⟨_, rfl⟩
          have hqN : q < N := by rw [hq, HN.out]; exact prod_lt hi (by omega)
          obtain ⟨e3, e4⟩ := prod64 (r := i) (c := C) (by omega) (by omega)
          have e2 : (i : Int) * C + c = q := by rw [hq]; simp
          have g2 : IntKind.i64.wrap ((i : Int) * C) = (i : Int) * C := IntWalk.i64_in _ (by omega)
          have g3 : IntKind.i64.wrap ((q : Nat) : Int) = q := IntWalk.i64_in _ (by omega)
          have g4 : IntKind.i64.wrap ((i : Int) * C + c) = q := by rw [e2]; exact g3
          have g0 : (0 : Int) ≤ (q : Int) := by omega
          have g1 : (q : Int) < (N : Int) := by omega
          obtain ⟨b, o, ad, cd, rfl, d0, d1, d2⟩ := rdl_at0 (HX.out.below HBL.out) hqN
          have HQ := Lib.hid hq
          clear hq d2
          by_cases hc : c < P i
          · have hy : y q = 0 := by rw [HQ.out]; exact HS.out.lead i c hr hc
            rw [hy, w1_zero] at d1
            have HY := Lib.hid hy
            clear hy
            go_wp2_with fail
            go_round
            case rel => exact ⟨c + 1, by omega, by go_num⟩
            case measure => simp [intOf]; omega
          · obtain rfl : c = P i := by omega
            have hy : y q = 1 := by rw [HQ.out]; exact HS.out.one i hr
            rw [hy, w1_one] at d1
            have HY := Lib.hid hy
            clear hy
            have hrest : ∀ wx, Below wr.heap.size wr wx → Below wb.heap.size wb wx := fun wx h => HBL.out.trans (h.mono HBL.out.size)
            have HRT := Lib.hid hrest
            clear hrest
            have hb15 : i = 0 ∨ (0 < i ∧ P (i - 1) < P i) := by
              rcases Nat.eq_zero_or_pos i with e | e
              · exact Or.inl e
              · refine Or.inr ⟨e, ?_⟩
                have := HS.out.mono (i - 1) (by omega)
                rwa [show i - 1 + 1 = i by omega] at this
            obtain ⟨pi, hpi⟩ : ∃ z, z = P i := ⟨_, rfl⟩
            have HPI := Lib.hid hpi
            rw [← hpi] at hPC g4 e2 c1 hc hb15 ⊢
            clear hpi
            rcases hb15 with h0 | ⟨h0, hlt⟩
            case' inl =>
              have h0' : i ≤ 0 := by omega
              clear h0
              go_wp2_with fail
            case' inr =>
              obtain ⟨bl, ol, rfl, hl⟩ := own_last (i := i - 1) (by rw [show i - 1 + 1 = i by omega]; exact HO.out)
              go_wp2_with fail
            all_goals
              clear d0 d1 e2 g0 g1 g2 g3 g4 e3 e4 HQ hqN
              obtain ⟨wo, rfl⟩ : ∃ wo : World, wo = wr := ⟨_, rfl⟩
              go_loopw [8] (fun kv wr => ∃ k : Nat, k ≤ R ∧ kv = .int .i64 k ∧ Below wo.heap.size wo wr) (fun kv _ => R - (intOf kv).toNat)
              case atStart => exact ⟨0, by omega, rfl, Below.refl _ _⟩
              case round =>
                obtain ⟨k, k1, rfl, hbx⟩ := hrel
                replace x0 := cell_stays hbx x0
                replace x1 := cell_stays hbx x1
                replace x2 := cell_stays hbx x2
                by_cases hk : k < R
                · obtain ⟨q', hq'⟩ : ∃ q', q' = k * C + pi := ⟨_, rfl⟩
                  have hqN' : q' < N := by rw [hq', HN.out]; exact prod_lt hk (by omega)
                  obtain ⟨e3, e4⟩ := prod64 (r := k) (c := C) (by omega) (by omega)
                  have e2 : (k : Int) * C + pi = q' := by rw [hq']; simp
                  have g2 : IntKind.i64.wrap ((k : Int) * C) = (k : Int) * C := IntWalk.i64_in _ (by omega)
                  have g3 : IntKind.i64.wrap ((q' : Nat) : Int) = q' := IntWalk.i64_in _ (by omega)
                  have g4 : IntKind.i64.wrap ((k : Int) * C + pi) = q' := by rw [e2]; exact g3
                  have g0 : (0 : Int) ≤ (q' : Int) := by omega
                  have g1 : (q' : Int) < (N : Int) := by omega
                  obtain ⟨bb, oo, ad', cd', e', d0, d1, d2⟩ := rdl_at0 (HX.out.below (HRT.out _ hbx)) hqN'
                  injection e' with e'
                  injection e' with e5 e6 _
                  subst e5; subst e6
                  have HD2 := Lib.hid d2
                  have HBX := Lib.hid hbx
                  clear d2 hbx
                  by_cases hki : k = i
                  case' pos =>
                    have hv : y q' = 1 := by rw [hq', HPI.out, hki]; exact HS.out.one i hr
                    have hkb : ((k : Int) == i) = true := by simp [hki]
                    have HKI := Lib.hid hki
                    have HQ' := Lib.hid hq'
                    rw [hv] at d1 HD2
                    have HV := Lib.hid hv
                    clear hki hv hq' e2
                    go_wp2_with (go_at_call 37; refine (of_any 1 _).mono ?_; rintro e w2 ⟨bo, rfl, hc2, hb2⟩; obtain ⟨j0, j1, j2, j3⟩ := box_kept hb2)
                    obtain ⟨hb3, z0, z1, hz3⟩ := one_boxed hb2 hc2
                    generalize ((w2.setCell ⟨wr.heap.size, 0, none⟩ (.bool false)).setCell ⟨wr.heap.size, 1, none⟩ (.slice (some ⟨bo, 0, none⟩) 1 1)) = w3 at hb3 z0 z1 hz3 ⊢
                    clear j0 j1 j2 j3 hb2 hc2
                  case' neg =>
                    have hv : y q' = 0 := by rw [hq', HPI.out]; exact HS.out.col i k hr hk hki
                    have hkb : ((k : Int) == i) = false := beq_eq_false_iff_ne.2 (by omega)
                    have HKI := Lib.hid hki
                    have HQ' := Lib.hid hq'
                    rw [hv] at d1 HD2
                    have HV := Lib.hid hv
                    clear hki hv hq' e2
                    go_wp2_with fail
                    obtain ⟨hb3, z0, z1, hz3⟩ := zero_boxed wr 56
                    generalize (wr.alloc (.cells #[.bool false, .slice none 0 0] 56)) = w3 at hb3 z0 z1 hz3 ⊢
                  all_goals
                    have d0 := cell_stays hb3 d0
                    have d1 := cell_stays hb3 d1
                    have x0 := cell_stays hb3 x0
                    have x1 := cell_stays hb3 x1
                    have x2 := cell_stays hb3 x2
                    have hal := alike_yes _ _ _ _ w3.drew ((HD2.out.below hb3).below (Below.refl w3.heap.size w3).drew) (hz3.below (Below.refl w3.heap.size w3).drew) (RawEq.refl _)
                    have HAL := Lib.hid hal
                    have HB3 := Lib.hid (HBX.out.trans (hb3.mono HBX.out.size))
                    clear hal hz3 hb3
                    refine wp_region_still_tail 11 (by kernel_rfl) (by kernel_rfl) ?_
                    simp only [List.take_succ_cons, List.take_zero, List.drop_succ_cons, List.drop_zero]
                    repeat still_step
                    refine wpStill_nil ?_
                    change wpList _ _ _ _ _ w3.drew
                    go_wp2_with (go_at_call 54; (with_reducible refine HAL.out.mono ?_); rintro e w5 ⟨rfl, hb5⟩)
                    have HB5 := Lib.hid (HB3.out.trans (((Below.refl w3.heap.size w3).drew.trans hb5).mono HB3.out.size))
                    go_roundw
                    case rel => exact ⟨k + 1, by omega, by go_num, HB5.out⟩
                    case measure => simp [intOf]; omega
                · have hsz : wb.heap.size ≤ wr.heap.size := (HRT.out _ hbx).size
                  have HO2 := Lib.hid (own_below HO.out hbx)
                  have HBX := Lib.hid (HRT.out _ hbx)
                  clear hbx
                  go_wp2_with (at_builtin; refine wp_push rfl _ _ 45 rfl Try.underlying45 infoN rfl HO2.out rfl rfl rfl hsz (by omega) ?_)
                  intro v' w2 hown' hb2
                  have HO3 := Lib.hid hown'
                  have HB2 := Lib.hid (HBX.out.trans hb2)
                  clear hown' hb2
                  go_wp2_with fail
                  go_roundw
                  case rel => exact ⟨i + 1, by omega, by go_num, by rw [map_snoc, ← HPI.out]; exact HO3.out, HB2.out⟩
                  case measure => simp [intOf]; omega
      · obtain rfl : i = r := by omega
        go_wp2_with fail
        go_loop [6] (fun cv => ∃ c : Nat, c ≤ C ∧ cv = .int .i64 c) (fun cv => C - (intOf cv).toNat)
        case atStart => exact ⟨0, Nat.zero_le _, rfl⟩
        case round =>
          obtain ⟨c, c1, rfl⟩ := hrel
          by_cases hc : c < C
          · obtain ⟨q, hq⟩ : ∃ q, q = i * C + c := ⟨_, rfl⟩
            have hqN : q < N := by rw [hq, HN.out]; exact prod_lt hi hc
            obtain ⟨e3, e4⟩ := prod64 (r := i) (c := C) (by omega) (by omega)
            have e2 : (i : Int) * C + c = q := by rw [hq]; simp
            have g2 : IntKind.i64.wrap ((i : Int) * C) = (i : Int) * C := IntWalk.i64_in _ (by omega)
            have g3 : IntKind.i64.wrap ((q : Nat) : Int) = q := IntWalk.i64_in _ (by omega)
            have g4 : IntKind.i64.wrap ((i : Int) * C + c) = q := by rw [e2]; exact g3
            have g0 : (0 : Int) ≤ (q : Int) := by omega
            have g1 : (q : Int) < (N : Int) := by omega
            obtain ⟨b, o, ad, cd, rfl, d0, d1, d2⟩ := rdl_at0 (HX.out.below HBL.out) hqN
            have hy : y q = 0 := by rw [hq]; exact HS.out.rest _ (by omega) (by rw [← hq, ← HN.out]; exact hqN)
            rw [hy, w1_zero] at d1
            have HQ := Lib.hid hq
            have HY := Lib.hid hy
            clear hq hy d2
            go_wp2_with fail
            go_round
            case rel => exact ⟨c + 1, by omega, by go_num⟩
            case measure => simp [intOf]; omega
          · obtain rfl : c = C := by omega
            obtain ⟨e3, e4⟩ := prod64 (r := i) (c := c) (by omega) (by omega)
            obtain ⟨q, hq⟩ : ∃ q, q = i * c := ⟨_, rfl⟩
            have e2 : (i : Int) * c = q := by rw [hq]; simp
            have HQ := Lib.hid hq
            clear hq
            go_wp2_with fail
            go_loop [7] (fun kv => ∃ k : Nat, q ≤ k ∧ k ≤ N ∧ kv = .int .i64 k) (fun kv => N - (intOf kv).toNat)
            case atStart => exact ⟨q, by omega, by rw [HQ.out, HN.out]; exact Nat.mul_le_mul_right _ HL, by rw [← e2]⟩
            case round =>
              clear e2 e3 e4
              obtain ⟨k, k0, k1, rfl⟩ := hrel
              by_cases hk : k < N
              · obtain ⟨b, o, ad, cd, rfl, d0, d1, d2⟩ := rdl_at0 (HX.out.below HBL.out) hk
                have hy : y k = 0 := HS.out.rest _ (by rw [← HQ.out]; exact k0) (by rw [← HN.out]; exact hk)
                rw [hy, w1_zero] at d1
                have HY := Lib.hid hy
                clear hy d2
                go_wp2_with fail
                go_round
                case rel => exact ⟨k + 1, by omega, by omega, by go_num⟩
                case measure => simp [intOf]; omega
              · go_wp2_with fail
                go_ret2
                exact ⟨_, rfl, own_mono HO.out (by rw [HSZ.out]; omega), HB0.out.trans (HBL.out.mono (by rw [HSZ.out]; omega))⟩
    · obtain rfl : i = r := by omega
      go_wp2_with fail
      go_ret2
      exact ⟨_, rfl, own_mono HO.out (by rw [HSZ.out]; omega), HB0.out.trans (HBL.out.mono (by rw [HSZ.out]; omega))⟩
end Go.Proofs.Ytdlpemmoobbgnaa

namespace Go.Proofs.Ytdlpemmoobbgnaa
open Go.RowKit

theorem mk_list (C : Nat) (hC : C ≤ 64) (u : World) : (Instr.makeSlice 32 (.int .i64 (C : Int)) (.int .i64 (C : Int))).run Try.prog u =
    .ok (.slice (some ⟨u.heap.size, 0, none⟩) C C) (u.alloc (.cells (madeCells #[.bool false, .slice none 0 0] (C * 2)) 56)) := by
  have h := mk_full 1 C (by omega) hC u
  simpa using h

/-- what the walk keeps: the matrix's box, the row that is being filled -/
structure VS (w wr : World) (R C : Nat) (s : Value) (lb : Nat) (z : Nat → Int) : Prop where
  zg : ZG 56 wr (w.heap.size + 1) (lb + 1) lb C z
  bel : Below w.heap.size w wr
  lt : lb < wr.heap.size
  x : wr.cell? ⟨w.heap.size, 0, none⟩ = some (.int .i64 R) ∧ wr.cell? ⟨w.heap.size, 1, none⟩ = some (.int .i64 C) ∧ wr.cell? ⟨w.heap.size, 2, none⟩ = some s

section
variable {w wr w' : World} {R C : Nat} {s : Value} {lb : Nat} {z z' : Nat → Int}
theorem VS.congr (h : VS w wr R C s lb z) (e : ∀ q, q < C → z q = z' q) : VS w wr R C s lb z' := { h with zg := h.zg.congr e }
theorem VS.below (h : VS w wr R C s lb z) (hb : Below wr.heap.size wr w') : VS w w' R C s lb z :=
  ⟨h.zg.below hb, h.bel.trans (hb.mono h.bel.size), Nat.lt_of_lt_of_le h.lt hb.size, three_stay hb h.x⟩
theorem VS.put (h : VS w wr R C s lb z) {k : Nat} (hk : k < C) {y : Int} {base : Nat} {a : Option Addr} {m c : Nat} (hz : FrZ wr base (.agg #[.bool (decide (y < 0)), .slice a m c]) y) (hbase : lb + 1 ≤ base)
    (hz' : ∀ q, q < C → (if q = k then y else z q) = z' q) : VS w ((wr.setCell ⟨lb, k * 2, none⟩ (.bool (decide (y < 0)))).setCell ⟨lb, k * 2 + 1, none⟩ (.slice a m c)) R C s lb z' := by
  have hg : wr.grownBy ((wr.setCell ⟨lb, k * 2, none⟩ (.bool (decide (y < 0)))).setCell ⟨lb, k * 2 + 1, none⟩ (.slice a m c)) (some lb) := gb_trans (gb_set _ _ _) (gb_set _ _ _)
  have l1 := h.zg.own
  have hc : ∀ {o : Nat} {v : Value}, wr.cell? ⟨w.heap.size, o, none⟩ = some v → ((wr.setCell ⟨lb, k * 2, none⟩ (.bool (decide (y < 0)))).setCell ⟨lb, k * 2 + 1, none⟩ (.slice a m c)).cell? ⟨w.heap.size, o, none⟩ = some v := fun hv => hg.cell hv (by intro e; injection e with e; simp at e; omega)
  exact ⟨(h.zg.put hk (hz.mono hbase)).congr hz', (h.bel.setCell (by show w.heap.size ≤ lb; omega) _).setCell (by show w.heap.size ≤ lb; omega) _, Nat.lt_of_lt_of_le h.lt hg.size, hc h.x.1, hc h.x.2.1, hc h.x.2.2⟩
end

/-- the entries before j are done, the entry j has its first k terms -/
def vecZ (x z : Nat → Int) (R C j k : Nat) : Nat → Int := fun q => if q < j then dotZ x (fun i => z (i * C + q)) R else if q = j then dotZ x (fun i => z (i * C + q)) k else 0
theorem vec_put {x z : Nat → Int} {R C j k : Nat} (q : Nat) : (if q = j then x k * z (k * C + j) + vecZ x z R C j k j else vecZ x z R C j k q) = vecZ x z R C j (k + 1) q := by
  unfold vecZ
  by_cases e : q = j
  · subst e; rw [if_pos rfl, if_neg (by omega), if_pos rfl, if_neg (by omega), if_pos rfl]; rfl
  · rw [if_neg e]
    by_cases h : q < j
    · rw [if_pos h, if_pos h]
    · rw [if_neg h, if_neg e, if_neg h, if_neg e]
theorem vec_row {x z : Nat → Int} {R C j : Nat} (q : Nat) : vecZ x z R C j R q = vecZ x z R C (j + 1) 0 q := by
  unfold vecZ
  by_cases e : q = j
  · subst e; rw [if_neg (by omega), if_pos rfl, if_pos (by omega)]
  · by_cases h : q < j
    · rw [if_pos h, if_pos (by omega)]
    · rw [if_neg h, if_neg e, if_neg (by omega)]
      by_cases e2 : q = j + 1
      · rw [if_pos e2]; rfl
      · rw [if_neg e2]

set_option maxHeartbeats 4000000 in
set_option maxRecDepth 100000 in
theorem VecMul_any (R C : Nat) (hR : R ≤ 64) (hC : C ≤ 64) (s1 s2 : Value) (u z : Nat → Int) (S1 S2 : Nat) (hS : S1 + S2 + 1 ≤ 274877906944) (w : World) (h1 : RdN w s1 R u S1) (h2 : RdN w s2 (R * C) z S2) :
    Calls Try.prog 28 #[s1, .agg #[.int .i64 R, .int .i64 C, s2]] w fun e w' => ∃ lb, e = .returned (.tuple #[.slice (some ⟨lb, 0, none⟩) C C, .int .i64 0]) ∧
      RdN w' (.slice (some ⟨lb, 0, none⟩) C C) C (fun j => dotZ u (fun i => z (i * C + j)) R) (S1 + S2 + 1) ∧ Below w.heap.size w w' := by
  obtain ⟨a, cap, rfl, hn⟩ := h1.slice
  obtain ⟨b, cap', rfl, hn'⟩ := h2.slice
  obtain ⟨N, hN⟩ : ∃ N, N = R * C := ⟨_, rfl⟩
  rw [← hN] at h2 hn'
  have hcheck := fun W => Check09_any R C b N cap' hn' W (by omega) (by omega) (by rw [hN]; simp)
  have mk := mk_list C hC
  have hbox := box_mat w (.int .i64 R) (.int .i64 C) (.slice b N cap') 34
  have hsz : (w.alloc (.cells #[.int .i64 R, .int .i64 C, .slice b N cap'] 34)).heap.size = w.heap.size + 1 := by simp
  have HR1 := Lib.hid h1
  have HR2 := Lib.hid h2
  have HC := Lib.hid hcheck
  have HN := Lib.hid hN
  have HBX := Lib.hid hbox
  have HSZ := Lib.hid hsz
  obtain ⟨-, x0, x1, x2⟩ := hbox
  rw [← hN]
  clear h1 h2 hcheck hN hsz
  go_enter Try.func28, Try.ntmps28
  go_wp2_with fail
  refine (HC.out _).mono ?_
  rintro e w2 ⟨rfl, hb2⟩
  have hx := three_stay hb2 HBX.out.2
  have hb := HBX.out.1.trans (hb2.mono HBX.out.1.size)
  have hs2 := hb2.size
  rw [HSZ.out] at hs2
  have hz0 : VS w (w2.alloc (.cells (madeCells #[.bool false, .slice none 0 0] (C * 2)) 56)) R C (.slice b N cap') w2.heap.size (vecZ u z R C 0 0) := by
    have hba : Below w2.heap.size w2 (w2.alloc (.cells (madeCells #[.bool false, .slice none 0 0] (C * 2)) 56)) := (Below.refl _ _).alloc (Nat.le_refl _) _
    exact ⟨(ZG.start w2 hs2 (Nat.lt_succ_self _) C).congr fun q _ => by unfold vecZ; rw [if_neg (by omega)]; split <;> rfl, hb.trans (hba.mono hb.size), by simp, three_stay hba hx⟩
  clear x0 x1 x2
  obtain ⟨x0, x1, x2⟩ := hx
  have HZ0 := Lib.hid hz0
  have HB := Lib.hid hb
  have HS2 := Lib.hid hs2
  clear hz0 hb hb2 hs2
  go_wp2_with fail
  generalize w2.alloc (.cells (madeCells #[.bool false, .slice none 0 0] (C * 2)) 56) = w4 at *
  generalize w2.heap.size = lb at *
  clear x0 x1 x2
  go_loopw [8] (fun jv wr => ∃ j : Nat, j ≤ C ∧ jv = .int .i64 j ∧ VS w wr R C (.slice b N cap') lb (vecZ u z R C j 0)) (fun jv _ => C - (intOf jv).toNat)
  case atStart => exact ⟨0, by omega, rfl, HZ0.out⟩
  case round =>
    clear HZ0
    obtain ⟨j, j1, rfl, h⟩ := hrel
    obtain ⟨x0, x1, x2⟩ := h.x
    have H := Lib.hid h
    clear h
    by_cases hj : j < C
    · go_wp2_with fail
      go_loopw [9] (fun kv wr => ∃ k : Nat, k ≤ R ∧ kv = .int .i64 k ∧ VS w wr R C (.slice b N cap') lb (vecZ u z R C j k)) (fun kv _ => R - (intOf kv).toNat)
      case atStart => exact ⟨0, by omega, rfl, H.out⟩
      case round =>
        clear H x0 x1 x2
        obtain ⟨k, k1, rfl, h⟩ := hrel
        obtain ⟨x0, x1, x2⟩ := h.x
        by_cases hk : k < R
        · obtain ⟨q, hq⟩ : ∃ q, q = k * C + j := ⟨_, rfl⟩
          have hqN : q < N := by rw [hq, HN.out]; exact prod_lt hk hj
          obtain ⟨e3, e4⟩ := prod64 (r := k) (c := C) (by omega) (by omega)
          have e2 : (k : Int) * C + j = q := by rw [hq]; simp
          have g2 : IntKind.i64.wrap ((k : Int) * C) = (k : Int) * C := IntWalk.i64_in _ (by omega)
          have g3 : IntKind.i64.wrap ((q : Nat) : Int) = q := IntWalk.i64_in _ (by omega)
          have g4 : IntKind.i64.wrap ((k : Int) * C + j) = q := by rw [e2]; exact g3
          have g0 : (0 : Int) ≤ (q : Int) := by omega
          have g1 : (q : Int) < (N : Int) := by omega
          have g5 : (0 : Int) ≤ (j : Int) := by omega
          have g6 : (j : Int) < (C : Int) := by omega
          have g7 : (0 : Int) ≤ (k : Int) := by omega
          have g8 : (k : Int) < (R : Int) := by omega
          obtain ⟨b1, o1, s1, am, nm, cm, rfl, c1, c2, c3, c4⟩ := (HR1.out.below h.bel).at (by omega) hk
          obtain ⟨b2, o2, s2, al, nl, cl, rfl, d1, d2, d3, d4⟩ := (HR2.out.below h.bel).at (by omega) hqN
          obtain ⟨t0, t1, t2, f1, f2, f3⟩ := h.zg.cells j hj
          have f4 := h.zg.froz (i := j * 2) (by omega)
          have f5 := h.zg.froz (i := j * 2 + 1) (by omega)
          have hzb : ZB (S1 + S2 + 1) (vecZ u z R C j k j) := by
            unfold vecZ; rw [if_neg (by omega), if_pos rfl]
            exact dotZ_zb (by omega) (fun i hi => HR1.out.zb (by omega)) (fun i hi => HR2.out.zb (by rw [HN.out]; exact prod_lt (by omega) hj))
          have hdw : Below wr.heap.size wr wr.drew := (Below.refl _ _).drew
          have hma := MulAdd05_any _ _ _ _ _ _ (S1 + S2) (by omega) (c4.mul d4) _ (c3.below hdw) (d3.below hdw) ((f3.below hdw).rd hzb (by omega))
          have hput : ∀ q', q' < C → (if q' = j then u k * z q + vecZ u z R C j k j else vecZ u z R C j k q') = vecZ u z R C j (k + 1) q' := fun q' _ => by rw [hq]; exact vec_put q'
          have hlt := h.lt
          have HMA := Lib.hid hma
          have HP := Lib.hid hput
          have HV := Lib.hid h
          clear hq e2 c3 c4 d3 d4 f3 hzb hma hput h
          generalize vecZ u z R C j k j = v0 at *
          go_wp2_with fail
          refine wp_region_any (by kernel_rfl) ?_
          change wpAny _ _ _ _ _ _ _ (World.drew _)
          refine wpAny_take (i := 0) (v := ?v0) rfl (by kernel_rfl) (by kernel_rfl) (by kernel_rfl) (fun _ _ _ h => h) (Or.inl ⟨by rfl, ?y0⟩) ?_
          case y0 => intro w; go_simp; with_reducible rfl
          refine wpAny_take (i := 1) (v := ?v1) rfl (by kernel_rfl) (by kernel_rfl) (by kernel_rfl) (fun _ _ _ h => h) (Or.inl ⟨by rfl, ?y1⟩) ?_
          case y1 => intro w; go_simp; with_reducible rfl
          refine wpAny_gate [2, 3, 4, 5, 6, 7, 8, 9, 10, 11, 12, 13, 14, 15, 16, 17, 18, 19] [20, 21, 22] 20 _ (by kernel_rfl) ?_
          repeat still_step
          refine wpStill_nil ?_
          change wpList _ _ _ (_ :: _ :: _ :: []) _ wr.drew
          go_wp2_with (go_at_call 40; (with_reducible refine HMA.out.mono ?_); rintro e w6 ⟨v, rfl, ⟨m6, n6, f6, rfl, p6, q6⟩, hb6⟩; obtain ⟨a6, c6, rfl⟩ := p6.slice; have hb7 := hdw.trans (hb6.mono hdw.size); have j0 := cell_stays hb7 f1; have j1 := cell_stays hb7 f2; have j2 := froz_stays hb7 f1 f4; have j3 := froz_stays hb7 f2 f5)
          have HP2 := Lib.hid ((HV.out.below hb7).put (k := j) hj (base := wr.drew.heap.size) ⟨_, n6, f6, rfl, p6, q6⟩ hlt HP.out)
          clear hb7 hb6 p6 q6
          go_wp2_with fail
          go_roundw
          case rel => exact ⟨k + 1, by omega, by go_num, HP2.out⟩
          case measure => simp [intOf]; omega
        · obtain rfl : k = R := by omega
          have HV := Lib.hid h
          clear h
          go_wp2_with fail
          go_roundw
          case rel => exact ⟨j + 1, by omega, by go_num, HV.out.congr fun q _ => vec_row q⟩
          case measure => simp [intOf]; omega
    · obtain rfl : j = C := by omega
      go_wp2_with fail
      have hzg := H.out.zg
      have hrd := hzg.read (by omega) (S := S1 + S2 + 1) hS (fun q hq => by
        unfold vecZ; rw [if_pos hq]
        exact dotZ_zb (by omega) (fun i hi => HR1.out.zb (by omega)) (fun i hi => HR2.out.zb (by rw [HN.out]; exact prod_lt (by omega) hq)))
      go_ret2
      exact ⟨lb, rfl, RdN.congr hrd fun q hq => by unfold vecZ; rw [if_pos hq], H.out.bel⟩
end Go.Proofs.Ytdlpemmoobbgnaa

namespace Go.Proofs.Ytdlpemmoobbgnaa
open Go.RowKit

def flatI (b m : Nat → Value) : Nat → List Value
  | 0 => []
  | n + 1 => flatI b m n ++ [b n, m n]
theorem flatI_len (b m : Nat → Value) : ∀ n, (flatI b m n).length = n * 2
  | 0 => rfl
  | n + 1 => by show (flatI b m n ++ [b n, m n]).length = _; rw [List.length_append, flatI_len b m n]; simp; omega
theorem flatI_at (b m : Nat → Value) : ∀ n i, i < n → (flatI b m n)[i * 2]? = some (b i) ∧ (flatI b m n)[i * 2 + 1]? = some (m i)
  | 0, _, h => absurd h (by omega)
  | n + 1, i, h => by
    have hl := flatI_len b m n
    show (flatI b m n ++ [b n, m n])[i * 2]? = _ ∧ (flatI b m n ++ [b n, m n])[i * 2 + 1]? = _
    by_cases e : i = n
    · subst e
      rw [List.getElem?_append_right (by omega), List.getElem?_append_right (by omega), hl]
      simp
    · rw [List.getElem?_append_left (by omega), List.getElem?_append_left (by omega)]
      exact flatI_at b m n i (by omega)
theorem flatI_congr {b m b' m' : Nat → Value} : ∀ {n}, (∀ i, i < n → b i = b' i ∧ m i = m' i) → flatI b m n = flatI b' m' n
  | 0, _ => rfl
  | n + 1, h => by
    show flatI b m n ++ [b n, m n] = flatI b' m' n ++ [b' n, m' n]
    rw [flatI_congr (n := n) (fun i hi => h i (by omega)), (h n (by omega)).1, (h n (by omega)).2]

/-- the value v is a list of n integers X in cells of the call's own, from base on; their words lie in memory that w0 has -/
def OwnI (w0 w : World) (base : Nat) (v : Value) (n : Nat) (X : Nat → Raw) : Prop :=
  ∃ M : Nat → Value, w.ownsRow base 56 2 v n (flatI (fun i => .bool (X i).neg) M n) ∧ ∀ i, i < n → RdW w0 (M i) (X i).n (X i).f

theorem OwnI.start (w0 w : World) (base : Nat) (X : Nat → Raw) : OwnI w0 w base (.slice none 0 0) 0 X := ⟨fun _ => .slice none 0 0, ⟨rfl, Or.inl ⟨rfl, rfl⟩⟩, fun i hi => absurd hi (by omega)⟩
theorem OwnI.slice {w0 w : World} {base : Nat} {v : Value} {n : Nat} {X : Nat → Raw} (h : OwnI w0 w base v n X) : ∃ a c, v = .slice a n c := by
  obtain ⟨M, h, -⟩ := h
  exact own_slice h
theorem OwnI.below {w0 w w' : World} {base : Nat} {v : Value} {n : Nat} {X : Nat → Raw} (h : OwnI w0 w base v n X) (hb : Below w.heap.size w w') : OwnI w0 w' base v n X := by
  obtain ⟨M, h1, h2⟩ := h
  exact ⟨M, own_below h1 hb, h2⟩
theorem OwnI.congr {w0 w : World} {base : Nat} {v : Value} {n : Nat} {X Y : Nat → Raw} (h : OwnI w0 w base v n X) (e : ∀ i, i < n → X i = Y i) : OwnI w0 w base v n Y := by
  obtain ⟨M, h1, h2⟩ := h
  refine ⟨M, ?_, fun i hi => by rw [← e i hi]; exact h2 i hi⟩
  rw [flatI_congr (b' := fun i => .bool (X i).neg) (m' := M) (fun i hi => ⟨by rw [e i hi], rfl⟩)]
  exact h1
theorem OwnI.read {w0 w : World} {base : Nat} {v : Value} {n : Nat} {X : Nat → Raw} (h : OwnI w0 w base v n X) (hb : Below w0.heap.size w0 w) (hn : n ≤ 4398046511104) : RdL w v n X := by
  obtain ⟨M, ⟨h0, h1⟩, h2⟩ := h
  rcases h1 with ⟨rfl, rfl⟩ | ⟨g, cap, cur, rfl, -, h3, h4, -, -, h5⟩
  · exact ⟨none, 0, rfl, Nat.le_refl _, hn, fun h => absurd h (by omega)⟩
  · refine ⟨some ⟨g, 0, none⟩, cap, rfl, h4, hn, fun _ => ⟨g, 0, rfl, fun i hi => ⟨M i, ?_, ?_, (h2 i hi).below hb⟩⟩⟩
    · have := (flatI_at (fun i => Value.bool (X i).neg) M n i hi).1
      rw [← h5, List.getElem?_take, if_pos (by omega)] at this
      rw [Nat.zero_add, cell_of_row _ _ _ _ _ _ h3]; simpa using this
    · have := (flatI_at (fun i => Value.bool (X i).neg) M n i hi).2
      rw [← h5, List.getElem?_take, if_pos (by omega)] at this
      rw [Nat.zero_add, cell_of_row _ _ _ _ _ _ h3]; simpa using this

theorem adn (b o i : Nat) : (⟨b, o, none⟩ : Addr).add i = ⟨b, o + i, none⟩ := by
  unfold Addr.add; split <;> simp_all
/-- one integer more: 'append(l, x)' -/
theorem wp_pushI {w0 wr : World} {ops : Array Oper} {rest : List Oper} {o : Oper} {a : Act} {Q : Exit → Act → World → Prop} (hgd : o.guard = none) (s x : Operand) (t : TypeId)
    (ho : o.op = .call { callee := .builtin .append, args := #[s, x], argTypes := #[t, t] }) (ht : Try.prog.underlying t = some (.slice 56))
    {base : Nat} {v : Value} {n : Nat} {X : Nat → Raw} (hown : OwnI w0 wr base v n X) (hs : a.eval s = v) {g : Bool} {ad : Option Addr} {nd cd : Nat} {nb : Nat} (hx : a.eval x = .slice (some ⟨nb, 0, none⟩) 1 1) (hnb : nb = wr.heap.size) (hb : base ≤ wr.heap.size) (hn : n ≤ 1048576) (r : Raw) (hg : r.neg = g) (hm : RdW w0 (.slice ad nd cd) r.n r.f)
    (h : ∀ v' w', OwnI w0 w' base v' (n + 1) (fun i => if i = n then r else X i) → Below base wr w' → wpList Try.prog ops Q rest (a.put o.dst v') w') : wpList Try.prog ops Q (o :: rest) a (wr.alloc (.cells #[.bool g, .slice ad nd cd] 56)) := by
  subst hnb
  obtain ⟨i0, hi, hz0, hz1, hz2⟩ := info_parts infoI
  obtain ⟨M, h1, h2⟩ := hown
  have hc := cells2 wr (.bool g) (.slice ad nd cd) 56
  refine wpList_append_own _ hgd s x t ho base 56 i0 _ 2 32 ht hi hz0 hz1 hz2 rfl (by omega) v n _ hs (h1.alloc _) ⟨wr.heap.size, 0, none⟩ 1 1 [.bool g, .slice ad nd cd] hx rfl ?_ ?_ (by unfold maxLen; omega) (by omega) (by simp; omega) fun v' w' g1 g2 _ => h v' w' ?_ ?_
  · intro j u hj
    rw [adn, Nat.zero_add]
    exact (hc j u hj).1
  · intro u hu
    simp at hu
    rcases hu with rfl | rfl <;> rfl
  · refine ⟨fun i => if i = n then .slice ad nd cd else M i, ?_, fun i hi => ?_⟩
    · show w'.ownsRow base _ 2 v' (n + 1) (flatI _ _ n ++ [_, _])
      rw [flatI_congr (b' := fun i => .bool (X i).neg) (m' := M) (fun i hi => ⟨by simp only [if_neg (Nat.ne_of_lt hi)], by simp only [if_neg (Nat.ne_of_lt hi)]⟩)]
      simp only [if_true, hg]
      exact g1
    · show RdW w0 (if i = n then _ else _) (if i = n then r else X i).n (if i = n then r else X i).f
      by_cases e : i = n
      · simp only [if_pos e]; exact hm
      · simp only [if_neg e]; exact h2 i (by omega)
  · exact ((Below.refl _ _).alloc hb _).grown g2 (by simp; omega) fun k hk => (h1.lt k hk).1
end Go.Proofs.Ytdlpemmoobbgnaa

namespace Go.Proofs.Ytdlpemmoobbgnaa
open laF

theorem ph_zero_eq {q : Nat} [NeZero q] {y : Int} (h0 : 0 ≤ y) (h1 : y < q) (h : (ph y : Fin q) = 0) : y = 0 := by
  rw [ph_zero_iff, Int.emod_eq_of_lt h0 h1] at h; exact h
theorem ph_one_eq {q : Nat} [NeZero q] (hq : 2 ≤ q) {y : Int} (h0 : 0 ≤ y) (h1 : y < q) (h : (ph y : Fin q) = 1) : y = 1 := by
  rw [← ph_one] at h
  exact ph_inj h0 h1 (by omega) (by omega) h

/-- a reduced echelon form of residues, as numbers -/
theorem sta_of {q : Nat} [NeZero q] (hq : 2 ≤ q) {m n r : Nat} {P : Nat → Nat} {G : Nat → Nat → Int} (h : Rref m n r P (phG q G)) (hres : Res q m n G) : Sta m n (fun t => G (t / n) (t % n)) r P := by
  have hm := h.le
  have at' : ∀ i j, j < n → G ((i * n + j) / n) ((i * n + j) % n) = G i j := fun i j hj => by
    obtain ⟨e1, e2⟩ := div_mod_lt (j := i) hj
    rw [e1, e2]
  refine ⟨hm, h.lt, fun i hi => h.mono i (i + 1) (by omega) hi, fun i j hi hj => ?_, fun i hi => ?_, fun i k hi hk hne => ?_, fun k h1 h2 => ?_⟩
  · have hl := h.lt i hi
    rw [at' i j (by omega)]
    have b := hres i j (by omega) (by omega)
    exact ph_zero_eq b.1 b.2 (h.lead i j hi hj)
  · have hl := h.lt i hi
    rw [at' i _ hl]
    have b := hres i (P i) (by omega) hl
    exact ph_one_eq hq b.1 b.2 (h.one i hi)
  · have hl := h.lt i hi
    rw [at' k _ hl]
    have b := hres k (P i) hk hl
    exact ph_zero_eq b.1 b.2 (h.col k i hk hi hne)
  · obtain ⟨g1, g2⟩ := mul_idx (K := n) h2
    have b := hres _ _ g1 g2
    refine ph_zero_eq b.1 b.2 (h.rest (k / n) (k % n) ?_ g1 g2)
    rw [Nat.le_div_iff_mul_le (by omega)]; exact h1

section
variable {R C : Nat} {xa xt : Nat → Raw}

theorem ech_sta {p : Int} (hp : primeB p = true) (R C : Nat) (xa : Nat → Raw) : Sta R C (fun t => (redS p R C (resG p C xa) C).G (t / C) (t % C)) (redS p R C (resG p C xa) C).P.length (fun i => (redS p R C (resG p C xa) C).P.getD i 0) := by
  obtain ⟨q, rfl, hq, hz⟩ := prime_nat hp
  have h2 := isPB_ge q hq
  exact sta_of h2 (RS.run_ok hq (resG_res q (by omega) R C C xa) (1 % (q : Int)) C (Nat.le_refl C)).1 (redS_res (by omega) (resG_res q (by omega) R C C xa) C)

theorem ker_sta {p : Int} (hp : primeB p = true) (R C : Nat) (xa : Nat → Raw) : Sta (R - kerR p R C xa) R (fun t => (kerS p R C xa).G (t / R) (t % R)) (R - kerR p R C xa) (fun i => (kerS p R C xa).P.getD i 0) := by
  obtain ⟨q, rfl, hq, hz⟩ := prime_nat hp
  have h2 := isPB_ge q hq
  have h := (kerS_ok hq R C xa).1
  rw [ker_full hq] at h
  exact sta_of h2 h (kerS_res q (by omega) R C xa)

/-- the rank is that of the elimination with the unit matrix beside -/
theorem ker_rank {p : Int} (hp : primeB p = true) (R C : Nat) (xa : Nat → Raw) : kerR p R C xa = (redS p R C (resG p C xa) C).P.length := by
  obtain ⟨q, rfl, hq, hz⟩ := prime_nat hp
  have h2 := isPB_ge q hq
  obtain ⟨r1, s1⟩ := besS_ok hq R C xa
  obtain ⟨r2, s2⟩ := RS.run_ok hq (resG_res q (by omega) R C C xa) (1 % (q : Int)) C (Nat.le_refl C)
  have s3 := (s1.left (n' := C) (by omega)).symm.trans ((SpanEq.rows fun i j hi hj => (bes_rows i hi).1 j hj).trans s2)
  exact (Rref.unique (one_ne h2) r1 r2 (fun i hi => s3.1 i (by have := r1.le; omega)) (fun i hi => s3.2 i (by have := r2.le; omega))).1

/-- the transpose has the same rank -/
theorem turn_rank {p : Int} (hp : primeB p = true) (ht : ∀ t, t < C * R → (xt t).val = (xa (t % R * C + t / R)).val) : (redS p C R (resG p R xt) R).P.length = (redS p R C (resG p C xa) C).P.length := by
  obtain ⟨q, rfl, hq, hz⟩ := prime_nat hp
  have h2 := isPB_ge q hq
  obtain ⟨r1, s1⟩ := RS.run_ok hq (resG_res q (by omega) R C C xa) (1 % (q : Int)) C (Nat.le_refl C)
  obtain ⟨r2, s2⟩ := RS.run_ok hq (resG_res q (by omega) C R R xt) (1 % (q : Int)) R (Nat.le_refl R)
  have e : ∀ j i, j < C → i < R → phG q (resG q R xt) j i = phG q (resG q C xa) i j := fun j i hj hi => by
    obtain ⟨e1, e2⟩ := div_mod_lt (j := j) hi
    rw [phG_resG (by omega), phG_resG (by omega), ht _ (prod_lt hj hi), e1, e2]
  refine Nat.le_antisymm ?_ ?_
  · exact rank_turn hq r1 s1 r2 ((SpanEq.rows fun j i hj hi => (e j i hj hi).symm).trans s2)
  · exact rank_turn hq r2 s2 r1 ((SpanEq.rows fun i j hi hj => e j i hj hi).trans s1)

/-- the kernel's rows times the matrix -/
theorem ker_zero {p : Int} (hp : primeB p = true) (R C : Nat) (xa : Nat → Raw) : ∀ t, t < (R - kerR p R C xa) * C → mulF (fun t => (kerS p R C xa).G (t / R) (t % R)) (fun t => (xa t).val) R C t % p = 0 := by
  obtain ⟨q, rfl, hq, hz⟩ := prime_nat hp
  intro t ht
  obtain ⟨g1, g2⟩ := mul_idx (K := C) ht
  refine ph_zero_iff.1 ?_
  show (ph (dotZ _ _ R) : Fin q) = 0
  rw [ph_dotZ]
  refine Eq.trans (sm_congr fun k hk => ?_) (kerS_zero hq (x := xa) g1 g2)
  obtain ⟨e1, e2⟩ := div_mod_lt (j := t / C) hk
  dsimp only
  rw [e1, e2]

/-- a row hangs on the echelon's rows, with its entries at the pivots -/
theorem row_hangs {p : Int} (hp : primeB p = true) (R C : Nat) (xa : Nat → Raw) {i j : Nat} (hi : i < R) (hj : j < C) (c : Nat → Int)
    (hc : ∀ k, k < R → c k = if k < (redS p R C (resG p C xa) C).P.length then (xa (i * C + (redS p R C (resG p C xa) C).P.getD k 0)).val else 0) :
    (dotZ c (fun k => (redS p R C (resG p C xa) C).G ((k * C + j) / C) ((k * C + j) % C)) R - (xa (i * C + j)).val) % p = 0 := by
  obtain ⟨q, rfl, hq, hz⟩ := prime_nat hp
  have h2 := isPB_ge q hq
  obtain ⟨r1, s1⟩ := RS.run_ok hq (resG_res q (by omega) R C C xa) (1 % (q : Int)) C (Nat.le_refl C)
  have hle := r1.le
  refine ph_zero_iff.1 ?_
  rw [ph_sub, ph_dotZ, ← phG_resG (q := q) (by omega) C xa i j, r1.exp (s1.1 i hi) hj]
  obtain ⟨S, hS⟩ : ∃ S, S = redS q R C (resG q C xa) C := ⟨_, rfl⟩
  have hS' : RS.run q R C ⟨resG q C xa, [], 1 % (q : Int)⟩ C = S := hS.symm
  rw [hS'] at hle ⊢
  rw [← hS] at hc ⊢
  rw [show sm R (fun k => (ph (c k) : Fin q) * ph (S.G ((k * C + j) / C) ((k * C + j) % C))) = sm (S.P.length + (R - S.P.length)) (fun k => (ph (c k) : Fin q) * ph (S.G ((k * C + j) / C) ((k * C + j) % C))) by rw [Nat.add_sub_cancel' hle], sm_split]
  rw [sm_zero (n := R - S.P.length) (fun k hk => by rw [hc _ (by omega), if_neg (by omega), ph_zero]; grind)]
  rw [sm_congr (n := S.P.length) (g := fun k => phG q (resG q C xa) i (S.P.getD k 0) * phG q S.G k j) (fun k hk => by
    obtain ⟨e1, e2⟩ := div_mod_lt (j := k) hj
    rw [hc k (by omega), if_pos hk, e1, e2, phG_resG (by omega)]; rfl)]
  grind
end
end Go.Proofs.Ytdlpemmoobbgnaa

namespace Go.Proofs.Ytdlpemmoobbgnaa
open Go.RowKit

theorem Rank_rd (R C : Nat) (p : Int) (hR : R ≤ 64) (hC : C ≤ 64) (hp : primeB p = true) (s : Value) (x : Nat → Raw) (w : World) (hr : RdL w s (R * C) x) :
    Calls Try.prog 31 #[.agg #[.int .i64 R, .int .i64 C, s], .int .u64 p] w fun e w' => e = .returned (.tuple #[.int .i64 ((redS p R C (resG p C x) C).P.length : Nat), .int .i64 0]) ∧ Below w.heap.size w w' := by
  obtain ⟨p0, p1⟩ := primeB_bd hp
  refine (Rank_any R C p (by omega) s (R * C) x w hr).mono ?_
  unfold rankV
  rw [openE_good hR hC rfl hp, if_pos rfl, Int.toNat_natCast, Int.toNat_natCast]
  rintro e w' ⟨rfl, hb⟩
  exact ⟨rfl, hb⟩

theorem Turn_rd (R C : Nat) (hR : R ≤ 64) (hC : C ≤ 64) (s : Value) (z : Nat → Int) (S : Nat) (hS : S ≤ 274877906944) (w : World) (hr : RdN w s (R * C) z S) :
    Calls Try.prog 17 #[.agg #[.int .i64 R, .int .i64 C, s]] w fun e w' => ∃ lb, e = .returned (.tuple #[.agg #[.int .i64 C, .int .i64 R, .slice (some ⟨lb, 0, none⟩) (C * R) (C * R)], .int .i64 0]) ∧
      RdN w' (.slice (some ⟨lb, 0, none⟩) (C * R) (C * R)) (C * R) (fun q => z (q % R * C + q / R)) S ∧ Below w.heap.size w w' := by
  refine (Turn_any R C hR hC s z S hS w hr).mono ?_
  rintro e w' ⟨lb, bm, rfl, hz, hb⟩
  refine ⟨lb, rfl, hz.read (Nat.le_trans (Nat.mul_le_mul hC hR) (by decide)) hS fun q hq => hr.zb ?_, hb⟩
  obtain ⟨g1, g2⟩ := mul_idx (K := C) hq
  exact prod_lt g2 g1

theorem Sub_rd (x y : Value) (a b : Int) (S : Nat) (hS : S ≤ 274877906944) (hz : ZB S (a - b)) (w : World) (hx : RdZ w x a) (hy : RdZ w y b) :
    Calls Try.prog 32 #[x, y] w fun e w' => ∃ bd ad nd cd, e = .returned (.agg #[.bool bd, .slice ad nd cd]) ∧ RdZ w' (.agg #[.bool bd, .slice ad nd cd]) (a - b) ∧ Below w.heap.size w w' := by
  refine (Sub05_any x y a b w hx hy).mono ?_
  rintro e w' ⟨v, rfl, hz', hb⟩
  have hrd := hz'.rd hz hS
  obtain ⟨m, n, f, rfl, h1, h2⟩ := hz'
  obtain ⟨a', c', rfl⟩ := h1.slice
  exact ⟨_, a', n, c', rfl, hrd, hb⟩
end Go.Proofs.Ytdlpemmoobbgnaa
