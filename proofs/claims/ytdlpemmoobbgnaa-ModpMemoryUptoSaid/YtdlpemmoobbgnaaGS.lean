/- append onto a row of the call's own: the old value still reads its elements. The walks of trellisref01's Roomy, Kept, sign, holds. The book of answered lists: what it keeps in memory; the walks of its Word, Row, Mat. Lists of words of the call's own, marked and grown: what the book's words keeps in memory. The walk of the book's words: every list of words has memory of its own. -/
import Derived.Test.YtdlpemmoobbgnaaGK
import Derived.Deep.AppendLies
import Derived.Test.YtdlpemmoobbgnaaGE
import Derived.Test.YtdlpemmoobbgnaaGP
import Derived.Test.YtdlpemmoobbgnaaGQ
set_option linter.unusedVariables false
set_option linter.unusedSimpArgs false
namespace Go.Proofs.Ytdlpemmoobbgnaa
open Go.RowKit

/-- a row of the call's own, from cell 0 of its block on (of its capacity nothing is asked but that it is there) -/
def OwnR (w : World) (base : Nat) (e : TypeId) (size : Nat) (v : Value) (n : Nat) (xs : List Value) : Prop :=
  xs.length = n * size ∧
  ((v = .slice none 0 0 ∧ n = 0) ∨ ∃ g cap cur, v = .slice (some ⟨g, 0, none⟩) n cap ∧ base ≤ g ∧ w.heap[g]? = some (.cells cur e (0, 0)) ∧ n ≤ cap ∧ cur.size = cap * size ∧ cur.toList.take (n * size) = xs)

section
variable {w w' : World} {base : Nat} {e : TypeId} {size n : Nat} {v : Value} {xs : List Value}
theorem OwnR.of (h : w.ownsRow base e size v n xs) : OwnR w base e size v n xs := by
  refine ⟨h.1, ?_⟩
  rcases h.2 with h2 | ⟨g, cap, cur, h1, h2, h3, h4, -, h6, h7⟩
  · exact Or.inl h2
  · exact Or.inr ⟨g, cap, cur, h1, h2, h3, h4, h6, h7⟩
theorem OwnR.nil (w : World) (base : Nat) (e : TypeId) (size : Nat) : OwnR w base e size (.slice none 0 0) 0 [] := ⟨by simp, Or.inl ⟨rfl, rfl⟩⟩
theorem OwnR.lt (h : OwnR w base e size v n xs) : ∀ k, v.ownBlock = some k → base ≤ k ∧ k < w.heap.size := fun k hk => by
  rcases h.2 with ⟨rfl, _⟩ | ⟨g, cap, cur, rfl, h2, h3, -⟩
  · simp [Value.ownBlock] at hk
  · simp [Value.ownBlock] at hk; subst hk; exact ⟨h2, lt_of_block h3⟩
theorem OwnR.kept (h : OwnR w base e size v n xs) {row : Option Nat} (hg : w.grownBy w' row) (hne : v.ownBlock = none ∨ v.ownBlock ≠ row) : OwnR w' base e size v n xs := by
  refine ⟨h.1, ?_⟩
  rcases h.2 with ⟨rfl, h0⟩ | ⟨g, cap, cur, rfl, h2, h3, h4, h5, h6⟩
  · exact Or.inl ⟨rfl, h0⟩
  · refine Or.inr ⟨g, cap, cur, rfl, h2, ?_, h4, h5, h6⟩
    rw [hg.block g (lt_of_block h3) (by rcases hne with e1 | e1; simp [Value.ownBlock] at e1; exact fun e2 => e1 (by simpa [Value.ownBlock] using e2))]
    exact h3
theorem OwnR.below (h : OwnR w base e size v n xs) (hb : Below w.heap.size w w') : OwnR w' base e size v n xs := h.kept (gb_below hb none) (by cases v.ownBlock <;> simp)
theorem OwnR.mono (h : OwnR w base e size v n xs) {base' : Nat} (hb : base' ≤ base) : OwnR w base' e size v n xs := by
  refine ⟨h.1, ?_⟩
  rcases h.2 with h2 | ⟨g, cap, cur, h1, h2, h3⟩
  · exact Or.inl h2
  · exact Or.inr ⟨g, cap, cur, h1, Nat.le_trans hb h2, h3⟩
theorem OwnR.slice (h : OwnR w base e size v n xs) : ∃ a c, v = .slice a n c := by
  rcases h.2 with ⟨rfl, rfl⟩ | ⟨g, cap, cur, rfl, -⟩
  · exact ⟨_, _, rfl⟩
  · exact ⟨_, _, rfl⟩
end

/-- every row stays that lies in another block than v's, or ends within the first m cells of it -/
def KeepsRows (w w' : World) (v : Value) (m : Nat) : Prop := ∀ (B : Nat) (e : TypeId) (z : Nat) (u : Value) (nu : Nat) (ys : List Value), OwnR w B e z u nu ys → (u.ownBlock = none ∨ u.ownBlock ≠ v.ownBlock ∨ nu * z ≤ m) → OwnR w' B e z u nu ys
theorem KeepsRows.of {w w' : World} (v : Value) (m : Nat) (h : ∀ row, w.grownBy w' row) : KeepsRows w w' v m := fun B e z u nu ys hu _ => hu.kept (h none) (by cases u.ownBlock <;> simp)

section
variable {P : Program} (w : World)
/-- THE LAW -/
theorem run_append_keeps (t ty : TypeId) (base : Nat) (e : TypeId) (i : TypeInfo) (z : Value) (size bytes : Nat) (ht : P.underlying t = some (.slice e)) (hi : P.info? e = some i) (hz : i.zero = some z)
    (hsize : i.size = size) (hby : i.bytes = bytes) (hzs : z.cells.size = size)
    (v : Value) (n : Nat) (xs : List Value) (hown : OwnR w base e size v n xs)
    (ad : Addr) (m c : Nat) (news : List Value) (hl : news.length = m * size) (hnews : ∀ j u, news[j]? = some u → w.cell? (ad.add j) = some u) (h1 : ∀ u ∈ news, u.oneCell' = true)
    (hm : 0 < m) (h63 : n + m ≤ maxLen) (hbytes : (n + m) * bytes ≤ 140737488355328) (hbase : base ≤ w.heap.size) (H : Nat) (hH : w.heap.size = H) :
    ∃ g cap w', (Builtin.append_ #[t, t] ty #[v, .slice (some ad) m c]).run P w = .ok (.slice (some ⟨g, 0, none⟩) (n + m) cap) w' ∧
      OwnR w' base e size (.slice (some ⟨g, 0, none⟩) (n + m) cap) (n + m) (xs ++ news) ∧ KeepsRows w w' v (n * size) ∧ w.grownBy w' v.ownBlock ∧ (v.ownBlock = some g ∨ g = H) ∧ g < w'.heap.size := by
  subst hsize
  subst hby
  subst hH
  have hsm : n + m ≤ 9223372036854775807 := by simp only [maxLen] at h63; omega
  have hlen : (xs ++ news).length = (n + m) * i.size := by rw [List.length_append, hown.1, hl, Nat.add_mul]
  have made : ∀ (k : Nat), n + m ≤ k →
      OwnR (w.drew.alloc (.cells (xs.toArray ++ news.toArray ++ Builtin.zeroCells z.cells (k - (n + m))) e)) base e i.size (.slice (some ⟨w.heap.size, 0, none⟩) (n + m) k) (n + m) (xs ++ news) ∧
      (∀ row, w.grownBy (w.drew.alloc (.cells (xs.toArray ++ news.toArray ++ Builtin.zeroCells z.cells (k - (n + m))) e)) row) := fun k hk => by
    refine ⟨⟨hlen, Or.inr ⟨w.heap.size, k, _, rfl, hbase, heap_alloc_new w.drew _, hk, ?_, ?_⟩⟩, fun row => ⟨rfl, rfl, rfl, by simp, fun b hb _ => heap_alloc_old w.drew _ hb⟩⟩
    · have e1 : (xs.toArray ++ news.toArray).size = (n + m) * i.size := by rw [Array.size_append, List.size_toArray, List.size_toArray, ← List.length_append, hlen]
      rw [Array.size_append, e1, size_zeroCells, hzs, ← Nat.add_mul]
      congr 1; omega
    · rw [Array.toList_append, Array.toList_append, List.take_append_of_le_length (by rw [List.length_append, ← List.length_append]; exact Nat.le_of_eq hlen.symm), ← hlen]
      exact List.take_length
  rcases hown.2 with ⟨rfl, rfl⟩ | ⟨g, cap, cur, rfl, hbg, hg, hnc, hcs, htake⟩
  · have hx : xs = [] := List.eq_nil_of_length_eq_zero (by simpa using hown.1)
    subst hx
    have hr := run_append_nil (P := P) w t ty e i z ht hi hz ad m c news hl hnews hm (by omega) (by rw [Nat.zero_add] at hbytes; omega)
    obtain ⟨g1, g2⟩ := made (grownCap w m 0 e) (by rw [Nat.zero_add]; exact grownCap_ge w m 0 e)
    simp only [Nat.zero_add, List.nil_append, Array.empty_append] at g1 g2 ⊢
    exact ⟨_, _, _, hr, g1, KeepsRows.of _ _ g2, g2 _, Or.inr rfl, by simp⟩
  · by_cases hroom : n + m ≤ cap
    · have hfit : n * i.size + news.length ≤ cur.size := by rw [hl, hcs, ← Nat.add_mul]; exact Nat.mul_le_mul_right _ hroom
      have hr := run_append_room (P := P) w t ty e i ht hi g n cap cur hg ad m c news hl hnews h1 hroom hfit
      have hset := setRow_heap w g cur (cur.toList.take (n * i.size) ++ news ++ cur.toList.drop (n * i.size + news.length)).toArray e (0, 0) hg
      have hsz : (cur.toList.take (n * i.size) ++ news ++ cur.toList.drop (n * i.size + news.length)).toArray.size = cap * i.size := by
        simp only [List.size_toArray, List.length_append, List.length_take, List.length_drop, Array.length_toList]; omega
      have hgb : w.grownBy (w.setRow g (cur.toList.take (n * i.size) ++ news ++ cur.toList.drop (n * i.size + news.length)).toArray) (Value.ownBlock (.slice (some ⟨g, 0, none⟩) n cap)) := ⟨rfl, rfl, rfl, by simp, fun k _ hk => setRow_other w g k _ (fun e => hk (by simp [Value.ownBlock, e]))⟩
      refine ⟨_, _, _, hr, ⟨hlen, Or.inr ⟨g, cap, _, rfl, hbg, hset, hroom, hsz, ?_⟩⟩, ?_, hgb, Or.inl rfl, ?_⟩
      · rw [htake, ← hlen]; exact List.take_left
      · intro B2 e2 z2 u nu ys hu hside
        by_cases hue : u.ownBlock = some g
        · rcases hu.2 with ⟨rfl, -⟩ | ⟨g', cap', cur', rfl, k2, k3, k4, k5, k6⟩
          · simp [Value.ownBlock] at hue
          · simp [Value.ownBlock] at hue
            subst hue
            rw [hg] at k3
            injection k3 with k3
            injection k3 with k3a k3b k3c
            subst k3a
            subst k3b
            have hle : nu * z2 ≤ n * i.size := by
              rcases hside with h | h | h
              · simp [Value.ownBlock] at h
              · exact absurd rfl h
              · exact h
            refine ⟨hu.1, Or.inr ⟨g', cap', _, rfl, k2, hset, k4, by rw [hsz, ← hcs, k5], ?_⟩⟩
            have hnl : n * i.size ≤ cur.toList.length := by rw [Array.length_toList, hcs]; exact Nat.mul_le_mul_right _ hnc
            show List.take (nu * z2) (List.take (n * i.size) cur.toList ++ news ++ _) = ys
            rw [List.append_assoc, List.take_append_of_le_length (by rw [List.length_take]; omega), List.take_take, Nat.min_eq_left hle]
            exact k6
        · exact hu.kept hgb (by
            cases hb : u.ownBlock with
            | none => exact Or.inl rfl
            | some b => right; rw [← hb]; simpa [Value.ownBlock] using hue)
      · simpa using lt_of_block hg
    · have holds : ∀ j u, xs[j]? = some u → w.cell? ((⟨g, 0, none⟩ : Addr).add j) = some u := fun j u hj => by
        rw [Addr.add_lit, cell_of_row _ _ _ _ _ _ hg]
        have hjl : j < n * i.size := by rw [← hown.1]; exact (List.getElem?_eq_some_iff.1 hj).1
        rw [← htake, List.getElem?_take, if_pos hjl] at hj
        simpa using hj
      have hr := run_append_grow (P := P) w t ty e i z ht hi hz ⟨g, 0, none⟩ n cap xs hown.1 holds ad m c news hl hnews (by omega) (by omega) (growslice_fits (by omega) hbytes)
      obtain ⟨g1, g2⟩ := made (grownCap w (n + m) cap e) (grownCap_ge w (n + m) cap e)
      exact ⟨_, _, _, hr, g1, KeepsRows.of _ _ g2, g2 _, Or.inr rfl, by simp⟩

/-- at the operation -/
theorem wp_append_keeps {o : Oper} {a : Act} {K : Act → World → Prop} {Q : Exit → Act → World → Prop} (s x : Operand) (t : TypeId)
    (ho : o.op = .call { callee := .builtin .append, args := #[s, x], argTypes := #[t, t] })
    (base : Nat) (e : TypeId) (i : TypeInfo) (z : Value) (size bytes : Nat) (ht : P.underlying t = some (.slice e)) (hi : P.info? e = some i) (hz : i.zero = some z)
    (hsize : i.size = size) (hby : i.bytes = bytes) (hzs : z.cells.size = size)
    (v : Value) (n : Nat) (xs : List Value) (hs : a.eval s = v) (hown : OwnR w base e size v n xs)
    (ad : Addr) (m c : Nat) (news : List Value) (hx : a.eval x = .slice (some ad) m c) (hl : news.length = m * size) (hnews : ∀ j u, news[j]? = some u → w.cell? (ad.add j) = some u) (h1 : ∀ u ∈ news, u.oneCell' = true)
    (hm : 0 < m) (h63 : n + m ≤ maxLen) (hbytes : (n + m) * bytes ≤ 140737488355328) (hbase : base ≤ w.heap.size) (H : Nat) (hH : w.heap.size = H)
    (h : ∀ g cap w', OwnR w' base e size (.slice (some ⟨g, 0, none⟩) (n + m) cap) (n + m) (xs ++ news) → KeepsRows w w' v (n * size) → w.grownBy w' v.ownBlock → (v.ownBlock = some g ∨ g = H) → g < w'.heap.size → K (a.put o.dst (.slice (some ⟨g, 0, none⟩) (n + m) cap)) w') : o.wp P a w K Q := by
  obtain ⟨g, cap, w', hr, h2, h3, h4, h5, h6⟩ := run_append_keeps (P := P) w t o.type base e i z size bytes ht hi hz hsize hby hzs v n xs hown ad m c news hl hnews h1 hm h63 hbytes hbase H hH
  unfold Oper.wp execOp
  simp only [ho, resolve, invoke, builtin, Sem.run_bind, Sem.run_pure, Result.andThen_ok, List.map_toArray, List.map_cons, List.map_nil, hs, hx, hr]
  exact h g cap w' h2 h3 h4 h5 h6

/-- at the list of a plain region's operations -/
theorem wpList_append_keeps {ops : Array Oper} {rest : List Oper} {o : Oper} {a : Act} {Q : Exit → Act → World → Prop} (hgd : o.guard = none) (s x : Operand) (t : TypeId)
    (ho : o.op = .call { callee := .builtin .append, args := #[s, x], argTypes := #[t, t] })
    (base : Nat) (e : TypeId) (i : TypeInfo) (z : Value) (size bytes : Nat) (ht : P.underlying t = some (.slice e)) (hi : P.info? e = some i) (hz : i.zero = some z)
    (hsize : i.size = size) (hby : i.bytes = bytes) (hzs : z.cells.size = size)
    (v : Value) (n : Nat) (xs : List Value) (hs : a.eval s = v) (hown : OwnR w base e size v n xs)
    (ad : Addr) (m c : Nat) (news : List Value) (hx : a.eval x = .slice (some ad) m c) (hl : news.length = m * size) (hnews : ∀ j u, news[j]? = some u → w.cell? (ad.add j) = some u) (h1 : ∀ u ∈ news, u.oneCell' = true)
    (hm : 0 < m) (h63 : n + m ≤ maxLen) (hbytes : (n + m) * bytes ≤ 140737488355328) (hbase : base ≤ w.heap.size) (H : Nat) (hH : w.heap.size = H)
    (h : ∀ g cap w', OwnR w' base e size (.slice (some ⟨g, 0, none⟩) (n + m) cap) (n + m) (xs ++ news) → KeepsRows w w' v (n * size) → w.grownBy w' v.ownBlock → (v.ownBlock = some g ∨ g = H) → g < w'.heap.size →
      wpList P ops Q rest (a.put o.dst (.slice (some ⟨g, 0, none⟩) (n + m) cap)) w') : wpList P ops Q (o :: rest) a w :=
  wpList_plain hgd fun _ hK => wp_append_keeps w s x t ho base e i z size bytes ht hi hz hsize hby hzs v n xs hs hown ad m c news hx hl hnews h1 hm h63 hbytes hbase H hH fun g cap w' h2 h3 h4 h5 h6 => hK _ _ (h g cap w' h2 h3 h4 h5 h6)
end

/-- the blocks of S may be written, all else stays -/
structure GrownS (S : Nat → Prop) (w w' : World) : Prop where
  os : w'.os = w.os
  tape : w'.tape = w.tape
  output : w'.output = w.output
  size : w.heap.size ≤ w'.heap.size
  block : ∀ k, k < w.heap.size → ¬ S k → w'.heap[k]? = w.heap[k]?
theorem GrownS.refl (S : Nat → Prop) (w : World) : GrownS S w w := ⟨rfl, rfl, rfl, Nat.le_refl _, fun _ _ _ => rfl⟩
theorem GrownS.trans {S : Nat → Prop} {w w1 w2 : World} (h : GrownS S w w1) (g : GrownS S w1 w2) : GrownS S w w2 :=
  ⟨g.os.trans h.os, g.tape.trans h.tape, g.output.trans h.output, Nat.le_trans h.size g.size, fun k hk hs => (g.block k (Nat.lt_of_lt_of_le hk h.size) hs).trans (h.block k hk hs)⟩
theorem GrownS.step {S : Nat → Prop} {w w1 w2 : World} {r : Option Nat} (h : GrownS S w w1) (g : w1.grownBy w2 r) (hr : ∀ k, r = some k → S k ∨ w.heap.size ≤ k) : GrownS S w w2 :=
  ⟨g.os.trans h.os, g.tape.trans h.tape, g.output.trans h.output, Nat.le_trans h.size g.size, fun k hk hs => (g.block k (Nat.lt_of_lt_of_le hk h.size) (fun e => by rcases hr k e.symm with h1 | h1; exact hs h1; omega)).trans (h.block k hk hs)⟩
theorem GrownS.below {S : Nat → Prop} {w w1 w2 : World} (h : GrownS S w w1) (g : Below w1.heap.size w1 w2) : GrownS S w w2 := h.step (gb_below g none) (fun k hk => by cases hk)
theorem GrownS.mono {S S' : Nat → Prop} {w w1 : World} (h : GrownS S w w1) (g : ∀ k, S k → S' k) : GrownS S' w w1 := { h with block := fun k hk hs => h.block k hk fun h' => hs (g k h') }
theorem GrownS.toBelow {S : Nat → Prop} {w w1 : World} {B : Nat} (h : GrownS S w w1) (hB : B ≤ w.heap.size) (hS : ∀ k, S k → B ≤ k) : Below B w w1 :=
  ⟨h.os, h.tape, h.output, h.size, fun k hk => h.block k (by omega) fun hs => by have := hS k hs; omega⟩
theorem GrownS.drew {S : Nat → Prop} {w w1 : World} (h : GrownS S w w1) : GrownS S w w1.drew := ⟨h.os, h.tape, h.output, h.size, h.block⟩
theorem OwnR.keptS {w w' : World} {base : Nat} {e : TypeId} {size n : Nat} {v : Value} {xs : List Value} {S : Nat → Prop} (h : OwnR w base e size v n xs) (g : GrownS S w w') (hu : ∀ k, v.ownBlock = some k → ¬ S k) : OwnR w' base e size v n xs := by
  refine ⟨h.1, ?_⟩
  rcases h.2 with ⟨rfl, h0⟩ | ⟨b, cap, cur, rfl, h2, h3, h4, h5, h6⟩
  · exact Or.inl ⟨rfl, h0⟩
  · exact Or.inr ⟨b, cap, cur, rfl, h2, by rw [g.block b (lt_of_block h3) (hu b rfl)]; exact h3, h4, h5, h6⟩
theorem OwnR.drew {w : World} {base : Nat} {e : TypeId} {size n : Nat} {v : Value} {xs : List Value} (h : OwnR w base e size v n xs) : OwnR w.drew base e size v n xs := h
end Go.Proofs.Ytdlpemmoobbgnaa

namespace Go.Proofs.Ytdlpemmoobbgnaa
open Go.RowKit

theorem mk_wordsL (n : Nat) (hn : n ≤ 35184372088832) (u : World) : (Instr.makeSlice 54 (.int .i64 n) (.int .i64 n)).run Try.prog u =
    .ok (.slice (some ⟨u.heap.size, 0, none⟩) n n) (u.alloc (.cells (madeCells #[.int .u64 0] n) 22)) := by
  obtain ⟨i0, hi, hz0, hz1, hz2⟩ := info_parts infoW
  have h := run_make (P := Try.prog) u 54 22 i0 (.int .u64 0) Try.underlying54 hi hz0 .i64 .i64 (n : Int) (n : Int) (by omega) (Int.le_refl _) (by rw [hz2]; omega) (by omega)
  simpa [hz1, Value.cells] using h

/-- n numbers with 80 marks behind -/
def roomF (n : Nat) (f : Nat → Int) : Nat → Int := fun i => if i < n then f i else 6510516211317473280 + (i : Int)

set_option maxHeartbeats 1000000 in
set_option maxRecDepth 100000 in
theorem Roomy_any (v : Value) (n : Nat) (f : Nat → Int) (w : World) (hr : RdA .u64 w v n f) :
    Calls Try.prog 91 #[v] w fun e w' => e = .returned (.slice (some ⟨w.heap.size, 0, none⟩) (n + 80) (n + 80)) ∧ Blk w' w.heap.size (n + 80) 22 ∧ RowAt .u64 w' w.heap.size 0 (n + 80) (roomF n f) ∧ Below w.heap.size w w' := by
  obtain ⟨a, cap, rfl, g1, g2, g3⟩ := hr
  have G3 := Lib.hid g3
  have m1 := mk_wordsL (n + 80) (by omega)
  have e1 : (n : Int) + 80 = ((n + 80 : Nat) : Int) := by omega
  have e2 : IntKind.i64.wrap ((n + 80 : Nat) : Int) = ((n + 80 : Nat) : Int) := IntWalk.i64_in _ (by omega)
  obtain ⟨L, hL⟩ : ∃ L, L = n + 80 := ⟨_, rfl⟩
  rw [← hL] at m1 e1 e2 ⊢
  have hLa : L ≤ n + 80 := by omega
  have hLb : n + 80 ≤ L := by omega
  have hst : Blk (w.alloc (.cells (madeCells #[.int .u64 0] L) 22)) w.heap.size L 22 ∧ RowAt .u64 (w.alloc (.cells (madeCells #[.int .u64 0] L) 22)) w.heap.size 0 L (fun _ => 0) ∧ Below w.heap.size w (w.alloc (.cells (madeCells #[.int .u64 0] L) 22)) :=
    ⟨Blk.made w _ L _, CellsAt.row (f := fun _ => 0) (CellsAt.made w _ L _), (Below.refl _ _).alloc (Nat.le_refl _) _⟩
  have HST := Lib.hid hst
  clear g3 hL hst
  go_enter Try.func91, Try.ntmps91
  go_wp2_with fail
  generalize w.alloc (.cells (madeCells #[.int .u64 0] L) 22) = W0 at HST ⊢
  go_loopw [4] (fun iv wr => ∃ i : Nat, i ≤ L ∧ iv = .int .i64 i ∧ Blk wr w.heap.size L 22 ∧ RowAt .u64 wr w.heap.size 0 L (fun c => if c < i then roomF n f c else 0) ∧ Below w.heap.size w wr) (fun iv _ => L - (intOf iv).toNat)
  case atStart => exact ⟨0, by omega, rfl, HST.out.1, HST.out.2.1.congr fun c _ => (if_neg (by omega)).symm, HST.out.2.2⟩
  case round =>
    clear HST W0
    obtain ⟨i, i1, rfl, hblk, hrow, hb⟩ := hrel
    by_cases hi : i < L
    · obtain ⟨c1, c2⟩ := hrow.get0 hi (x := 0) (if_neg (by omega))
      have HB := Lib.hid hb
      have HK := Lib.hid hblk
      have HR := Lib.hid hrow
      have next : ∀ y, roomF n f i = y → Blk (wr.setCell ⟨w.heap.size, i, none⟩ (.int .u64 y)) w.heap.size L 22 ∧ RowAt .u64 (wr.setCell ⟨w.heap.size, i, none⟩ (.int .u64 y)) w.heap.size 0 L (fun c => if c < i + 1 then roomF n f c else 0) ∧ Below w.heap.size w (wr.setCell ⟨w.heap.size, i, none⟩ (.int .u64 y)) := fun y hy =>
        ⟨HK.out.set _ _, (HR.out.set0 hi y).congr fun c _ => by
          by_cases e : c = i
          · rw [if_pos e, if_pos (by omega), e, hy]
          · rw [if_neg e]
            by_cases e' : c < i
            · rw [if_pos e', if_pos (by omega)]
            · rw [if_neg e', if_neg (by omega)], HB.out.setCell (Nat.le_refl _) _⟩
      have NX := Lib.hid next
      clear next hb hblk hrow
      have g5 : (0 : Int) ≤ (i : Int) := by omega
      have g6 : (i : Int) < (L : Int) := by omega
      by_cases hin : i < n
      · obtain ⟨b, o, rfl, hc⟩ := G3.out (by omega)
        have d1 := cell_stays HB.out (hc i hin)
        have g7 : (i : Int) < (n : Int) := by omega
        have hn := NX.out (f i) (if_pos hin)
        have HN := Lib.hid hn
        generalize f i = y at d1 HN
        clear hn hc
        go_wp2_with fail
        go_roundw
        case rel => exact ⟨i + 1, by omega, by go_num, HN.out⟩
        case measure => simp [intOf]; omega
      · have g7 : ¬ ((i : Int) < (n : Int)) := by omega
        have hn := NX.out (6510516211317473280 + (i : Int)) (if_neg hin)
        have HN := Lib.hid hn
        have e3 : IntKind.u64.wrap (i : Int) = i := IntWalk.u64_in _ (by omega)
        have e4 : IntKind.u64.wrap (6510516211317473280 + (i : Int)) = 6510516211317473280 + (i : Int) := IntWalk.u64_in _ (by omega)
        clear hn
        go_wp2_with fail
        go_roundw
        case rel => exact ⟨i + 1, by omega, by go_num, HN.out⟩
        case measure => simp [intOf]; omega
    · obtain rfl : L = i := by omega
      go_wp2_with fail
      go_ret
      exact ⟨rfl, hblk, hrow.congr fun c hc => if_pos hc, hb⟩

set_option maxHeartbeats 1000000 in
set_option maxRecDepth 100000 in
theorem Kept_yes (v u : Value) (n : Nat) (f g : Nat → Int) (w : World) (hl : RdA .u64 w v (n + 80) g) (hr : RdA .u64 w u n f) (hg : ∀ i, i < n + 80 → g i = roomF n f i) :
    Calls Try.prog 92 #[v, u] w fun e w' => e = .returned (.bool true) ∧ Below w.heap.size w w' := by
  obtain ⟨a, cap, rfl, g1, g2, g3⟩ := hr
  obtain ⟨al, capl, rfl, l1, l2, l3⟩ := hl
  have G3 := Lib.hid g3
  have L3 := Lib.hid l3
  have HG := Lib.hid hg
  have e1 : (n : Int) + 80 = ((n + 80 : Nat) : Int) := by omega
  have e2 : IntKind.i64.wrap ((n + 80 : Nat) : Int) = ((n + 80 : Nat) : Int) := IntWalk.i64_in _ (by omega)
  obtain ⟨L, hL⟩ : ∃ L, L = n + 80 := ⟨_, rfl⟩
  rw [← hL] at e1 e2 L3 HG ⊢
  have hLa : L ≤ n + 80 := by omega
  have hLb : n + 80 ≤ L := by omega
  have e0 : ((L : Int) != (L : Int)) = false := by simp
  clear g3 l3 hL hg l1 l2
  go_enter Try.func92, Try.ntmps92
  go_wp2_with fail
  go_loopw [5] (fun iv wr => ∃ i : Nat, i ≤ L ∧ iv = .int .i64 i ∧ Below w.heap.size w wr) (fun iv _ => L - (intOf iv).toNat)
  case atStart => exact ⟨0, by omega, rfl, Below.refl _ _⟩
  case round =>
    obtain ⟨i, i1, rfl, hb⟩ := hrel
    by_cases hi : i < L
    · obtain ⟨b', o', rfl, hc'⟩ := L3.out (by omega)
      have c1 := cell_stays hb (hc' i hi)
      rw [HG.out i hi] at c1
      have HB := Lib.hid hb
      clear hb hc'
      have g5 : (0 : Int) ≤ (i : Int) := by omega
      have g6 : (i : Int) < (L : Int) := by omega
      by_cases hin : i < n
      · obtain ⟨b, o, rfl, hc⟩ := G3.out (by omega)
        have d1 := cell_stays HB.out (hc i hin)
        have g7 : (i : Int) < (n : Int) := by omega
        have g8 : ¬ ((n : Int) ≤ (i : Int)) := by omega
        rw [show roomF n f i = f i from if_pos hin] at c1
        generalize f i = y at d1 c1
        have c1' : wr.drew.cell? _ = _ := c1
        have d1' : wr.drew.cell? _ = _ := d1
        have e0 : (y != y) = false := by simp
        clear hc
        go_wp2_with fail
        go_region
        all_goals
          go_wp2_with fail
          try go_region
          all_goals
            try go_wp2_with fail
            go_roundw
            case rel => exact ⟨i + 1, by omega, by go_num, by first | exact HB.out.drew.drew | exact HB.out.drew⟩
            case measure => simp [intOf]; omega
      · have g7 : ¬ ((i : Int) < (n : Int)) := by omega
        have g8 : (n : Int) ≤ (i : Int) := by omega
        rw [show roomF n f i = 6510516211317473280 + (i : Int) from if_neg hin] at c1
        have e3 : IntKind.u64.wrap (i : Int) = i := IntWalk.u64_in _ (by omega)
        have e4 : IntKind.u64.wrap (6510516211317473280 + (i : Int)) = 6510516211317473280 + (i : Int) := IntWalk.u64_in _ (by omega)
        have e0 : (6510516211317473280 + (i : Int) != 6510516211317473280 + (i : Int)) = false := by simp
        go_wp2_with fail
        go_region
        all_goals
          go_wp2_with fail
          try go_region
          all_goals
            try go_wp2_with fail
            go_roundw
            case rel => exact ⟨i + 1, by omega, by go_num, by first | exact HB.out.drew.drew | exact HB.out.drew⟩
            case measure => simp [intOf]; omega
    · obtain rfl : L = i := by omega
      go_wp2_with fail
      go_ret
      exact ⟨rfl, hb⟩

/-- the mark of the place j of the list with the number i -/
def mkS (i j : Nat) : Int := 4323455642275676160 + (i : Int) * 1048576 + (j : Int)

set_option maxHeartbeats 1000000 in
theorem sign_any (i j : Nat) (hi : i ≤ 16777216) (hj : j ≤ 35184372088832) (w : World) :
    Calls Try.prog 121 #[.int .i64 i, .int .i64 j] w fun e w' => e = .returned (.int .u64 (mkS i j)) ∧ w = w' := by
  have e1 : IntKind.u64.wrap (i : Int) = i := IntWalk.u64_in _ (by omega)
  have e2 : IntKind.u64.wrap (j : Int) = j := IntWalk.u64_in _ (by omega)
  have e3 : IntKind.u64.wrap ((i : Int) * 1048576) = (i : Int) * 1048576 := IntWalk.u64_in _ (by omega)
  have e4 : IntKind.u64.wrap (4323455642275676160 + (i : Int) * 1048576) = 4323455642275676160 + (i : Int) * 1048576 := IntWalk.u64_in _ (by omega)
  have e5 : IntKind.u64.wrap (4323455642275676160 + (i : Int) * 1048576 + (j : Int)) = 4323455642275676160 + (i : Int) * 1048576 + (j : Int) := IntWalk.u64_in _ (by omega)
  go_enter Try.func121, Try.ntmps121
  go_wp2_with fail
  go_ret
  exact ⟨by first | rfl | (unfold mkS; rfl), rfl⟩

set_option maxHeartbeats 2000000 in
set_option maxRecDepth 100000 in
/-- is the grown list what was written? yes -/
theorem holds_yes (k n : Nat) (hk : k ≤ 16777216) (v u : Value) (w : World) (hl : RdA .u64 w v n (fun j => mkS k j)) (hr : RdA .u64 w u (n + 80) (fun j => mkS k j)) :
    Calls Try.prog 122 #[.int .i64 k, v, u] w fun e w' => e = .returned (.bool true) ∧ Below w.heap.size w w' := by
  obtain ⟨al, capl, rfl, l1, l2, l3⟩ := hl
  obtain ⟨a, cap, rfl, g1, g2, g3⟩ := hr
  have G3 := Lib.hid g3
  have L3 := Lib.hid l3
  have e1 : (n : Int) + 80 = ((n + 80 : Nat) : Int) := by omega
  have e2 : IntKind.i64.wrap ((n + 80 : Nat) : Int) = ((n + 80 : Nat) : Int) := IntWalk.i64_in _ (by omega)
  obtain ⟨L, hL⟩ : ∃ L, L = n + 80 := ⟨_, rfl⟩
  rw [← hL] at e1 e2 G3 g2 ⊢
  have e0 : ((L : Int) != (L : Int)) = false := by simp
  have hsg := fun j hj W => sign_any k j hk hj W
  have HSG := Lib.hid hsg
  clear g3 l3 hL g1 l1 hsg
  go_enter Try.func122, Try.ntmps122
  go_wp2_with fail
  go_loopw [7] (fun iv wr => ∃ i : Nat, i ≤ n ∧ iv = .int .i64 i ∧ Below w.heap.size w wr) (fun iv _ => n - (intOf iv).toNat)
  case atStart => exact ⟨0, by omega, rfl, Below.refl _ _⟩
  case round =>
    obtain ⟨i, i1, rfl, hb⟩ := hrel
    by_cases hi : i < n
    · obtain ⟨b, o, rfl, hc⟩ := L3.out (by omega)
      have d1 := cell_stays hb (hc i hi)
      have HB := Lib.hid hb
      have HS := Lib.hid (HSG.out i (by omega))
      clear hb hc
      generalize mkS k i = y at d1 HS
      have e0 : (y != y) = false := by simp
      have g5 : (0 : Int) ≤ (i : Int) := by omega
      have g6 : (i : Int) < (n : Int) := by omega
      go_wp2_with fail
      go_region_with (go_at_call 121; (with_reducible refine (HS.out wr.drew).mono ?_); rintro e w' ⟨rfl, rfl⟩)
      all_goals
        go_wp2_with fail
        go_roundw
        case rel => exact ⟨i + 1, by omega, by go_num, HB.out.drew⟩
        case measure => simp [intOf]; omega
    · obtain rfl : n = i := by omega
      have HB := Lib.hid hb
      clear hb
      go_wp2_with fail
      go_loopw [8] (fun iv wr => ∃ i : Nat, i ≤ L ∧ iv = .int .i64 i ∧ Below w.heap.size w wr) (fun iv _ => L - (intOf iv).toNat)
      case atStart => exact ⟨0, by omega, rfl, HB.out⟩
      case round =>
        clear HB
        obtain ⟨i, i1, rfl, hb⟩ := hrel
        by_cases hi : i < L
        · obtain ⟨b, o, rfl, hc⟩ := G3.out (by omega)
          have d1 := cell_stays hb (hc i hi)
          have HB := Lib.hid hb
          have HS := Lib.hid (HSG.out i (by omega))
          clear hb hc
          generalize mkS k i = y at d1 HS
          have e0 : (y != y) = false := by simp
          have g5 : (0 : Int) ≤ (i : Int) := by omega
          have g6 : (i : Int) < (L : Int) := by omega
          go_wp2_with fail
          go_region_with (go_at_call 121; (with_reducible refine (HS.out wr.drew).mono ?_); rintro e w' ⟨rfl, rfl⟩)
          all_goals
            go_wp2_with fail
            go_roundw
            case rel => exact ⟨i + 1, by omega, by go_num, HB.out.drew⟩
            case measure => simp [intOf]; omega
        · obtain rfl : L = i := by omega
          go_wp2_with fail
          go_ret
          exact ⟨rfl, hb⟩
end Go.Proofs.Ytdlpemmoobbgnaa

namespace Go.Proofs.Ytdlpemmoobbgnaa
open Go.RowKit

theorem infoBW : (Try.prog.info? 54).map (fun i => (i.zero, i.size, i.bytes)) = some (some (.slice none 0 0), 1, 24) := by kernel_rfl
theorem infoBI : (Try.prog.info? 32).map (fun i => (i.zero, i.size, i.bytes)) = some (some (.slice none 0 0), 1, 24) := by kernel_rfl
theorem tagWI : 54 ≠ 32 := by decide

/-- the book in the block bk, its own rows behind it: nW lists of words, nI lists of integers, none of numbers -/
structure BookR (w : World) (bk : Nat) (vW : Value) (nW : Nat) (W : Nat → Value) (vI : Value) (nI : Nat) (I : Nat → Value) : Prop where
  c0 : w.cell? ⟨bk, 0, none⟩ = some vW ∧ w.frozen? ⟨bk, 0, none⟩ = false
  c1 : w.cell? ⟨bk, 1, none⟩ = some vI ∧ w.frozen? ⟨bk, 1, none⟩ = false
  c2 : w.cell? ⟨bk, 2, none⟩ = some (.slice none 0 0)
  oW : w.ownsRow (bk + 1) 54 1 vW nW ((List.range nW).map W)
  oI : w.ownsRow (bk + 1) 32 1 vI nI ((List.range nI).map I)

theorem own_tags {w : World} {B B' : Nat} {e e' : TypeId} {z z' : Nat} {u v : Value} {n n' : Nat} {xs ys : List Value} (hu : w.ownsRow B e z u n xs) (hv : w.ownsRow B' e' z' v n' ys) (he : e ≠ e') : u.ownBlock = none ∨ u.ownBlock ≠ v.ownBlock := by
  rcases hu.2 with ⟨rfl, -⟩ | ⟨g, cap, cur, rfl, -, hg, -⟩
  · exact Or.inl rfl
  · right
    have := own_tag hv hg he
    exact fun e2 => this e2.symm

section
variable {w w1 w2 w' : World} {bk nW nI : Nat} {vW vI v vW' : Value} {W I : Nat → Value}
theorem BookR.lt (h : BookR w bk vW nW W vI nI I) : bk < w.heap.size := World.block_lt_of_cell? w _ h.c0.1
theorem BookR.below (h : BookR w bk vW nW W vI nI I) (hb : Below w.heap.size w w') : BookR w' bk vW nW W vI nI I :=
  ⟨⟨cell_stays hb h.c0.1, froz_stays hb h.c0.1 h.c0.2⟩, ⟨cell_stays hb h.c1.1, froz_stays hb h.c1.1 h.c1.2⟩, cell_stays hb h.c2, own_below h.oW hb, own_below h.oI hb⟩
theorem BookR.grown (h : BookR w bk vW nW W vI nI I) {r : Option Nat} (hg : w.grownBy w' r) (h0 : some bk ≠ r) (h1 : vW.ownBlock = none ∨ vW.ownBlock ≠ r) (h2 : vI.ownBlock = none ∨ vI.ownBlock ≠ r) : BookR w' bk vW nW W vI nI I :=
  ⟨⟨hg.cell h.c0.1 h0, (hg.frozen_far _ h.lt h0).trans h.c0.2⟩, ⟨hg.cell h.c1.1 h0, (hg.frozen_far _ h.lt h0).trans h.c1.2⟩, hg.cell h.c2 h0, h.oW.kept hg h1, h.oI.kept hg h2⟩
/-- a list of words more: behind the append, and the store into the book -/
theorem BookR.pushW (h : BookR w bk vW nW W vI nI I) (hb : Below w.heap.size w w1) (hg : w1.grownBy w2 vW.ownBlock) (ho : w2.ownsRow (bk + 1) 54 1 vW' (nW + 1) ((List.range nW).map W ++ [v])) :
    w2.cell? ⟨bk, 0, none⟩ = some vW ∧ w2.frozen? ⟨bk, 0, none⟩ = false ∧ (∀ W', (∀ k, k < nW → W' k = W k) → W' nW = v → BookR (w2.setCell ⟨bk, 0, none⟩ vW') bk vW' (nW + 1) W' vI nI I) ∧ Below bk w (w2.setCell ⟨bk, 0, none⟩ vW') := by
  have h1 := h.below hb
  have hne : some bk ≠ vW.ownBlock := fun e => by have := (h.oW.lt bk e.symm).1; omega
  have hc0 := hg.cell h1.c0.1 hne
  have hf0 := (hg.frozen_far ⟨bk, 0, none⟩ h1.lt hne).trans h1.c0.2
  have hlt : (bk : Nat) < w1.heap.size := h1.lt
  have gs := gb_set w2 ⟨bk, 0, none⟩ vW'
  have hI2 := h1.oI.kept hg (own_tags h1.oI h1.oW (fun e => tagWI e.symm))
  refine ⟨hc0, hf0, fun W' hW1 hW2 => ⟨⟨World.cell?_setCell_same _ _ _ hc0, by rw [World.frozen?_setCell]; exact hf0⟩, ⟨?_, ?_⟩, ?_, ?_, ?_⟩, ?_⟩
  · rw [World.cell?_setCell_other _ _ _ _ (by intro e; injection e with _ e3 _; omega)]; exact hg.cell h1.c1.1 hne
  · rw [World.frozen?_setCell]; exact (hg.frozen_far ⟨bk, 1, none⟩ hlt hne).trans h1.c1.2
  · rw [World.cell?_setCell_other _ _ _ _ (by intro e; injection e with _ e3 _; omega)]; exact hg.cell h1.c2 hne
  · have e : (List.range (nW + 1)).map W' = (List.range nW).map W ++ [v] := by
      rw [List.range_succ, List.map_append, List.map_congr_left (g := W) (fun k hk => hW1 k (by simpa using hk))]
      simp [hW2]
    rw [e]
    exact ho.kept gs (own_block ho (by show bk < bk + 1; omega))
  · exact hI2.kept gs (own_block hI2 (by show bk < bk + 1; omega))
  · have hl0 := h.lt
    have hs0 := hb.size
    have hb1 : Below bk w w1 := hb.mono (Nat.le_of_lt hl0)
    have hb2 : Below bk w w2 := hb1.grown hg (by omega) (fun k hk => by have := (h.oW.lt k hk).1; omega)
    exact hb2.setCell (p := ⟨bk, 0, none⟩) (Nat.le_refl _) vW'
/-- a list of integers more -/
theorem BookR.pushI {vI' : Value} (h : BookR w bk vW nW W vI nI I) (hb : Below w.heap.size w w1) (hg : w1.grownBy w2 vI.ownBlock) (ho : w2.ownsRow (bk + 1) 32 1 vI' (nI + 1) ((List.range nI).map I ++ [v])) :
    w2.cell? ⟨bk, 1, none⟩ = some vI ∧ w2.frozen? ⟨bk, 1, none⟩ = false ∧ (∀ I', (∀ k, k < nI → I' k = I k) → I' nI = v → BookR (w2.setCell ⟨bk, 1, none⟩ vI') bk vW nW W vI' (nI + 1) I') ∧ Below bk w (w2.setCell ⟨bk, 1, none⟩ vI') := by
  have h1 := h.below hb
  have hne : some bk ≠ vI.ownBlock := fun e => by have := (h.oI.lt bk e.symm).1; omega
  have hc1 := hg.cell h1.c1.1 hne
  have hf1 := (hg.frozen_far ⟨bk, 1, none⟩ h1.lt hne).trans h1.c1.2
  have hlt : (bk : Nat) < w1.heap.size := h1.lt
  have gs := gb_set w2 ⟨bk, 1, none⟩ vI'
  have hW2 := h1.oW.kept hg (own_tags h1.oW h1.oI tagWI)
  refine ⟨hc1, hf1, fun I' hI1 hI2 => ⟨⟨?_, ?_⟩, ⟨World.cell?_setCell_same _ _ _ hc1, by rw [World.frozen?_setCell]; exact hf1⟩, ?_, ?_, ?_⟩, ?_⟩
  · rw [World.cell?_setCell_other _ _ _ _ (by intro e; injection e with _ e3 _; omega)]; exact hg.cell h1.c0.1 hne
  · rw [World.frozen?_setCell]; exact (hg.frozen_far ⟨bk, 0, none⟩ hlt hne).trans h1.c0.2
  · rw [World.cell?_setCell_other _ _ _ _ (by intro e; injection e with _ e3 _; omega)]; exact hg.cell h1.c2 hne
  · exact hW2.kept gs (own_block hW2 (by show bk < bk + 1; omega))
  · have e : (List.range (nI + 1)).map I' = (List.range nI).map I ++ [v] := by
      rw [List.range_succ, List.map_append, List.map_congr_left (g := I) (fun k hk => hI1 k (by simpa using hk))]
      simp [hI2]
    rw [e]
    exact ho.kept gs (own_block ho (by show bk < bk + 1; omega))
  · have hl0 := h.lt
    have hs0 := hb.size
    have hb1 : Below bk w w1 := hb.mono (Nat.le_of_lt hl0)
    have hb2 : Below bk w w2 := hb1.grown hg (by omega) (fun k hk => by have := (h.oI.lt k hk).1; omega)
    exact hb2.setCell (p := ⟨bk, 1, none⟩) (Nat.le_refl _) vI'
end

theorem tagAW : 92 ≠ 54 := by decide
theorem tagAI : 92 ≠ 32 := by decide
/-- blocks of answers stay, but for the block bk -/
def KeepT (bk : Nat) (w w' : World) : Prop := ∀ b cs fr, b ≠ bk → w.heap[b]? = some (.cells cs 92 fr) → w'.heap[b]? = some (.cells cs 92 fr)
theorem KeepT.trans {bk : Nat} {w w1 w2 : World} (h : KeepT bk w w1) (g : KeepT bk w1 w2) : KeepT bk w w2 := fun b cs fr hb hc => g b cs fr hb (h b cs fr hb hc)
theorem KeepT.below {bk : Nat} {w w' : World} (h : Below w.heap.size w w') : KeepT bk w w' := fun b cs fr _ hc => by rw [h.block b (lt_of_block hc)]; exact hc
theorem KeepT.push {bk : Nat} {w w1 w2 : World} {B n z : Nat} {e : TypeId} {v : Value} {xs : List Value} (hb : Below w.heap.size w w1) (ho : w1.ownsRow B e z v n xs) (he : 92 ≠ e) (hg : w1.grownBy w2 v.ownBlock) (o : Nat) (u : Value) : KeepT bk w (w2.setCell ⟨bk, o, none⟩ u) := fun b cs fr hbk hc => by
  have h1 : w1.heap[b]? = some (.cells cs 92 fr) := by rw [hb.block b (lt_of_block hc)]; exact hc
  have hne := own_tag ho h1 he
  have h2 : w2.heap[b]? = w1.heap[b]? := hg.block b (lt_of_block h1) (fun e => hne e.symm)
  rw [(gb_set w2 ⟨bk, o, none⟩ u).block b (lt_of_block (h2.trans h1)) (by intro e; injection e with e; exact hbk e), h2]
  exact h1

set_option maxHeartbeats 1000000 in
set_option maxRecDepth 100000 in
theorem Word_any (bk : Nat) (vW : Value) (nW : Nat) (W : Nat → Value) (vI : Value) (nI : Nat) (I : Nat → Value) (a : Option Addr) (l c : Nat) (hn : nW ≤ 16777216) (w : World) (h : BookR w bk vW nW W vI nI I) (W' : Nat → Value) (hW1 : ∀ k, k < nW → W' k = W k) (hW2 : W' nW = .slice a l c) :
    Calls Try.prog 67 #[.pointer (some ⟨bk, 0, none⟩), .slice a l c] w fun e w' => e = .returned (.tuple #[]) ∧ (∃ vW', BookR w' bk vW' (nW + 1) W' vI nI I) ∧ Below bk w w' ∧ KeepT bk w w' := by
  obtain ⟨i0, hi, hz0, hz1, hz2⟩ := info_parts infoBW
  have HI := Lib.hid (And.intro hi (And.intro hz0 (And.intro hz1 hz2)))
  obtain ⟨c0, f0⟩ := h.c0
  obtain ⟨va, vc, rfl⟩ := own_slice h.oW
  have hown := h.oW
  have hlt := h.lt
  have HB := Lib.hid h
  have H1 := Lib.hid hW1
  have H2 := Lib.hid hW2
  clear hi hz0 hz1 hz2 h hW1 hW2
  go_enter Try.func67, Try.ntmps67
  go_wp2_with (at_builtin; (refine wpList_append_lies _ rfl _ _ 75 rfl (bk + 1) 54 i0 (.slice none 0 0) 1 24 Try.underlying75 HI.out.1 HI.out.2.1 HI.out.2.2.1 HI.out.2.2.2 rfl (by decide) _ _ _ rfl (hown.alloc _) ⟨w.heap.size, 0, none⟩ 1 1 [.slice a l c] rfl rfl (one_cell w _ _) ?c2 (by decide) ?c3 ?c4 ?c5 _ rfl ?_))
  case c2 => intro u hu; simp at hu; subst hu; rfl
  case c3 => unfold maxLen; omega
  case c4 => omega
  case c5 => simp; omega
  · intro g cap w2 ho hg _ _
    obtain ⟨k1, k2, k3, k4⟩ := HB.out.pushW (v := .slice a l c) ((Below.refl _ _).alloc (Nat.le_refl _) _) hg ho
    have K3 := Lib.hid (k3 W' H1.out H2.out)
    have K4 := Lib.hid (And.intro k4 (KeepT.push (bk := bk) ((Below.refl w.heap.size w).alloc (Nat.le_refl _) _) (hown.alloc _) tagAW hg 0 (.slice (some ⟨g, 0, none⟩) (nW + 1) cap)))
    clear k3 k4 hown ho hg
    go_wp2_with fail
    go_end0
    exact ⟨rfl, ⟨_, K3.out⟩, K4.out⟩

/-- a list of integers whose words are the values M, all below the block bk -/
def RdMs (w : World) (bk : Nat) (v : Value) (n : Nat) (M : Nat → Value) : Prop :=
  ∃ a cap, v = .slice a n cap ∧ (∀ i, i < n → ∃ x l c, M i = .slice x l c) ∧ (0 < n → ∃ b o, a = some ⟨b, o, none⟩ ∧ b < bk ∧ ∀ i, i < n → w.cell? ⟨b, o + i * 2 + 1, none⟩ = some (M i))

set_option maxHeartbeats 1000000 in
set_option maxRecDepth 100000 in
theorem Row_any (bk : Nat) (vW : Value) (nW : Nat) (W : Nat → Value) (vI : Value) (nI : Nat) (I : Nat → Value) (v : Value) (n : Nat) (M : Nat → Value) (hn : n ≤ 1048576) (hnW : nW ≤ 8388608) (hnI : nI ≤ 8388608) (w : World) (h : BookR w bk vW nW W vI nI I) (hv : RdMs w bk v n M)
    (W' I' : Nat → Value) (hW1 : ∀ k, k < nW → W' k = W k) (hW2 : ∀ i, i < n → W' (nW + i) = M i) (hI1 : ∀ k, k < nI → I' k = I k) (hI2 : I' nI = v) :
    Calls Try.prog 66 #[.pointer (some ⟨bk, 0, none⟩), v] w fun e w' => e = .returned (.tuple #[]) ∧ (∃ vW' vI', BookR w' bk vW' (nW + n) W' vI' (nI + 1) I') ∧ Below bk w w' ∧ KeepT bk w w' := by
  obtain ⟨a, l, rfl, hM, hc⟩ := hv
  obtain ⟨i0, hi, hz0, hz1, hz2⟩ := info_parts infoBI
  have HI := Lib.hid (And.intro hi (And.intro hz0 (And.intro hz1 hz2)))
  obtain ⟨j0, hj, hj0, hj1, hj2⟩ := info_parts infoBW
  have HJ := Lib.hid (And.intro hj (And.intro hj0 (And.intro hj1 hj2)))
  obtain ⟨c1, f1⟩ := h.c1
  obtain ⟨va, vc, rfl⟩ := own_slice h.oI
  have hown := h.oI
  have hlt := h.lt
  have HB := Lib.hid h
  have H1 := Lib.hid hW1
  have H2 := Lib.hid hW2
  have H3 := Lib.hid hI1
  have H4 := Lib.hid hI2
  have HC := Lib.hid hc
  have HM := Lib.hid hM
  clear hi hz0 hz1 hz2 hj hj0 hj1 hj2 h hW1 hW2 hI1 hI2 hc hM
  go_enter Try.func66, Try.ntmps66
  go_wp2_with (at_builtin; refine wpList_append_lies _ rfl _ _ 99 rfl (bk + 1) 32 i0 (.slice none 0 0) 1 24 Try.underlying99 HI.out.1 HI.out.2.1 HI.out.2.2.1 HI.out.2.2.2 rfl (by decide) _ _ _ rfl (hown.alloc _) ⟨w.heap.size, 0, none⟩ 1 1 [.slice a n l] rfl rfl (one_cell w _ _) ?c2 (by decide) ?c3 ?c4 ?c5 _ rfl ?_)
  case c2 => intro u hu; simp at hu; subst hu; rfl
  case c3 => unfold maxLen; omega
  case c4 => omega
  case c5 => simp; omega
  · intro g cap w2 ho hg _ _
    obtain ⟨k1, k2, k3, k4⟩ := HB.out.pushI (v := .slice a n l) ((Below.refl _ _).alloc (Nat.le_refl _) _) hg ho
    have hst : BookR _ bk vW nW W' _ (nI + 1) I' := { k3 I' H3.out H4.out with oW := by rw [List.map_congr_left (g := W) (fun k hk => H1.out k (by simpa using hk))]; exact (k3 I' H3.out H4.out).oW }
    have K3 := Lib.hid hst
    have K4 := Lib.hid (And.intro k4 (KeepT.push (bk := bk) ((Below.refl w.heap.size w).alloc (Nat.le_refl _) _) (hown.alloc _) tagAI hg 1 (.slice (some ⟨g, 0, none⟩) (nI + 1) cap)))
    clear k3 k4 hown ho hg hst c1 f1
    go_wp2_with fail
    generalize w2.setCell ⟨bk, 1, none⟩ (.slice (some ⟨g, 0, none⟩) (nI + 1) cap) = W3 at K3 K4 ⊢
    clear k1 k2
    go_loopw [4] (fun iv wr => ∃ (i : Nat) (vW : Value), i ≤ n ∧ iv = .int .i64 i ∧ BookR wr bk vW (nW + i) W' (.slice (some ⟨g, 0, none⟩) (nI + 1) cap) (nI + 1) I' ∧ Below bk w wr ∧ KeepT bk w wr) (fun iv _ => n - (intOf iv).toNat)
    case atStart => exact ⟨0, vW, by omega, rfl, K3.out, K4.out⟩
    case round =>
      clear K3 K4
      obtain ⟨i, vW, i1, rfl, hbk, hbel, hkt⟩ := hrel
      by_cases hi : i < n
      · obtain ⟨b, o, rfl, hbb, hc⟩ := HC.out (by omega)
        obtain ⟨mx, ml, mc, hm⟩ := HM.out i hi
        have d1 := (World.cell?_of_block (w := w) (a := ⟨b, o + i * 2 + 1, none⟩) (hbel.block b hbb)).trans (hc i hi)
        rw [hm] at d1
        obtain ⟨q0, q1⟩ := hbk.c0
        obtain ⟨wa, wc, rfl⟩ := own_slice hbk.oW
        have hown := hbk.oW
        have hltr := hbk.lt
        have HK := Lib.hid hbk
        have HL := Lib.hid hbel
        have HKT := Lib.hid hkt
        have HMI := Lib.hid hm
        obtain ⟨nw, hnw⟩ : ∃ nw, nw = nW + i := ⟨_, rfl⟩
        rw [← hnw] at q0 hown HK
        have HNW := Lib.hid hnw
        have hnw2 : nw ≤ 9437184 := by omega
        have hnews := one_cell wr.drew (.slice mx ml mc) 54
        clear hbk hbel hc hm hnw hkt
        have g5 : (0 : Int) ≤ (i : Int) := by omega
        have g6 : (i : Int) < (n : Int) := by omega
        go_wp2_with fail
        go_region_law (refine step_append_lies _ rfl (.tmp 25) (.tmp 31) 75 rfl (bk + 1) 54 j0 (.slice none 0 0) 1 24 Try.underlying75 HJ.out.1 HJ.out.2.1 HJ.out.2.2.1 HJ.out.2.2.2 rfl (by decide) (.slice wa nw wc) nw _ (by simp [Act.eval, Act.put]) (hown.drew.alloc _) ⟨wr.heap.size, 0, none⟩ 1 1 [.slice mx ml mc] (by simp [Act.eval, Act.put]) rfl hnews (by intro u hu; simp at hu; subst hu; rfl) (by decide) (by unfold maxLen; omega) (by omega) (by simp; omega) _ rfl ?_; intro g2 cap2 w8 o8 gg8 o9 o10; obtain ⟨k1, k2, k3, k4⟩ := HK.out.pushW (v := .slice mx ml mc) ((Below.refl _ _).drew.alloc (Nat.le_refl _) _) gg8 o8)
        all_goals
          have hN := k3 W' (fun _ _ => rfl) (by rw [HNW.out, H2.out i hi, HMI.out])
          have HN := Lib.hid hN
          have HBL := Lib.hid (And.intro (HL.out.trans k4) (HKT.out.trans (KeepT.push (bk := bk) ((Below.refl wr.heap.size wr).drew.alloc (Nat.le_refl _) _) (hown.drew.alloc _) tagAW gg8 0 (.slice (some ⟨g2, 0, none⟩) (nw + 1) cap2))))
          clear hN k1 k2 k3 k4 hown o8 gg8 o9 o10 hnews q0 q1 d1
          try clear Q
          go_wp2_with fail
          go_roundw
          case rel => exact ⟨i + 1, _, by omega, by go_num, by rw [show nW + (i + 1) = nw + 1 by have := HNW.out; omega]; exact HN.out, HBL.out⟩
          case measure => simp [intOf]; omega
      · obtain rfl : n = i := by omega
        go_wp2_with fail
        go_end0
        exact ⟨rfl, ⟨_, _, hbk⟩, hbel, hkt⟩

theorem RdMs.below {w w' : World} {bk n : Nat} {v : Value} {M : Nat → Value} (h : RdMs w bk v n M) (hb : Below w.heap.size w w') : RdMs w' bk v n M := by
  obtain ⟨a, cap, rfl, hM, hc⟩ := h
  exact ⟨a, cap, rfl, hM, fun h0 => by
    obtain ⟨b, o, rfl, hbb, hc⟩ := hc h0
    exact ⟨b, o, rfl, hbb, fun i hi => cell_stays hb (hc i hi)⟩⟩
theorem RdMs.slice {w : World} {bk n : Nat} {v : Value} {M : Nat → Value} (h : RdMs w bk v n M) : ∃ a c, v = .slice a n c := by
  obtain ⟨a, cap, rfl, -⟩ := h
  exact ⟨_, _, rfl⟩

set_option maxHeartbeats 1000000 in
theorem Mat_any (bk : Nat) (vW : Value) (nW : Nat) (W : Nat → Value) (vI : Value) (nI : Nat) (I : Nat → Value) (rr cc : Int) (v : Value) (n : Nat) (M : Nat → Value) (hn : n ≤ 1048576) (hnW : nW ≤ 8388608) (hnI : nI ≤ 8388608) (w : World) (h : BookR w bk vW nW W vI nI I) (hv : RdMs w bk v n M)
    (W' I' : Nat → Value) (hW1 : ∀ k, k < nW → W' k = W k) (hW2 : ∀ i, i < n → W' (nW + i) = M i) (hI1 : ∀ k, k < nI → I' k = I k) (hI2 : I' nI = v) :
    Calls Try.prog 65 #[.pointer (some ⟨bk, 0, none⟩), .agg #[.int .i64 rr, .int .i64 cc, v]] w fun e w' => e = .returned (.tuple #[]) ∧ (∃ vW' vI', BookR w' bk vW' (nW + n) W' vI' (nI + 1) I') ∧ Below bk w w' ∧ KeepT bk w w' := by
  obtain ⟨a, cap, rfl⟩ := hv.slice
  have hbx := box_mat w (.int .i64 rr) (.int .i64 cc) (.slice a n cap) 34
  have hr := Row_any bk vW nW W vI nI I (.slice a n cap) n M hn hnW hnI _ (h.below hbx.1) (hv.below hbx.1) W' I' hW1 hW2 hI1 hI2
  have x2 := hbx.2.2.2
  have hbb : Below bk w (w.alloc (.cells #[.int .i64 rr, .int .i64 cc, .slice a n cap] 34)) := hbx.1.mono (Nat.le_of_lt h.lt)
  have HR := Lib.hid hr
  have HB := Lib.hid (And.intro hbb (KeepT.below (bk := bk) hbx.1))
  clear hr hbx h hv hW1 hW2 hI1 hI2 hbb
  go_enter Try.func65, Try.ntmps65
  go_wp2_with fail
  refine HR.out.mono ?_
  rintro e w1 ⟨rfl, hbk, hb, hkt⟩
  go_wp2_with fail
  go_end0
  exact ⟨rfl, hbk, HB.out.1.trans hb, HB.out.2.trans hkt⟩
end Go.Proofs.Ytdlpemmoobbgnaa

namespace Go.Proofs.Ytdlpemmoobbgnaa
open Go.RowKit

def wlst (F : Nat → Int) (n : Nat) : List Value := (List.range n).map fun j => .int .u64 (F j)
theorem wlst_len (F : Nat → Int) (n : Nat) : (wlst F n).length = n := by simp [wlst]
theorem wlst_congr {F G : Nat → Int} {n : Nat} (h : ∀ j, j < n → F j = G j) : wlst F n = wlst G n := List.map_congr_left fun j hj => by rw [h j (by simpa using hj)]
theorem wlst_snoc (F : Nat → Int) (n : Nat) : wlst F (n + 1) = wlst F n ++ [.int .u64 (F n)] := by unfold wlst; rw [List.range_succ, List.map_append]; rfl
theorem wlst_get (F : Nat → Int) {n j : Nat} (hj : j < n) : (wlst F n)[j]? = some (.int .u64 (F j)) := by unfold wlst; simp [hj]

/-- a list of n words of the call's own, holding F -/
def WL (w : World) (B : Nat) (v : Value) (n : Nat) (F : Nat → Int) : Prop := OwnR w B 22 1 v n (wlst F n)

section
variable {w w' : World} {B n : Nat} {v : Value} {F G : Nat → Int}
theorem WL.congr (h : WL w B v n F) (e : ∀ j, j < n → F j = G j) : WL w B v n G := by unfold WL; rw [← wlst_congr e]; exact h
theorem WL.cell (h : WL w B v n F) {j : Nat} (hj : j < n) : ∃ g cap, v = .slice (some ⟨g, 0, none⟩) n cap ∧ B ≤ g ∧ g < w.heap.size ∧ w.cell? ⟨g, j, none⟩ = some (.int .u64 (F j)) ∧ w.frozen? ⟨g, j, none⟩ = false := by
  rcases h.2 with ⟨rfl, h0⟩ | ⟨g, cap, cur, rfl, h2, h3, h4, h5, h6⟩
  · omega
  · refine ⟨g, cap, rfl, h2, lt_of_block h3, ?_, ?_⟩
    · rw [cell_of_row _ _ _ _ _ _ h3]
      have := wlst_get F hj
      rw [← h6, List.getElem?_take, if_pos (by omega)] at this
      simpa using this
    · unfold World.frozen?; simp only; rw [h3]; simp
theorem WL.set (h : WL w B v n F) {j g : Nat} (hv : v.ownBlock = some g) (y : Int) : WL (w.setCell ⟨g, j, none⟩ (.int .u64 y)) B v n (fun c => if c = j then y else F c) := by
  refine ⟨by rw [wlst_len, Nat.mul_one], ?_⟩
  rcases h.2 with ⟨rfl, h0⟩ | ⟨g', cap, cur, rfl, h2, h3, h4, h5, h6⟩
  · simp [Value.ownBlock] at hv
  · simp [Value.ownBlock] at hv
    subst hv
    refine Or.inr ⟨g', cap, _, rfl, h2, heap_setCell_same w g' j cur _ _ h3, h4, by simpa using h5, ?_⟩
    apply List.ext_getElem?
    intro i
    rw [List.getElem?_take]
    by_cases hi : i < n
    · rw [if_pos (by omega), wlst_get _ hi]
      have hc := wlst_get F hi
      rw [← h6, List.getElem?_take, if_pos (by omega)] at hc
      simp only [Array.getElem?_toList, Array.getElem?_setIfInBounds] at hc ⊢
      by_cases e : i = j
      · subst e
        have : i < cur.size := by omega
        simp [this]
      · rw [if_neg (fun e' => e e'.symm), hc, if_neg e]
    · rw [if_neg (by omega), List.getElem?_eq_none (by rw [wlst_len]; omega)]
theorem WL.read (h : WL w B v n F) (hn : n ≤ 17592186044416) : RdA .u64 w v n F := by
  rcases Nat.eq_zero_or_pos n with rfl | h0
  · obtain ⟨a, c, rfl⟩ := h.slice
    refine ⟨a, c, rfl, Nat.zero_le _, Nat.zero_le _, fun h => absurd h (by omega)⟩
  · obtain ⟨g, cap, rfl, -⟩ := h.cell h0
    have hnc : n ≤ cap := by
      rcases h.2 with ⟨e, -⟩ | ⟨g', cap', cur, e, -, -, h4, -⟩
      · simp at e
      · simp at e; omega
    refine ⟨_, cap, rfl, hnc, hn, fun _ => ⟨g, 0, rfl, fun i hi => ?_⟩⟩
    obtain ⟨g', cap', e, -, -, h1, -⟩ := h.cell hi
    simp at e
    rw [Nat.zero_add, e.1]; exact h1
theorem WL.below (h : WL w B v n F) (hb : Below w.heap.size w w') : WL w' B v n F := OwnR.below h hb
theorem WL.lt (h : WL w B v n F) : ∀ k, v.ownBlock = some k → B ≤ k ∧ k < w.heap.size := OwnR.lt h
theorem WL.kept (h : WL w B v n F) {r : Option Nat} (hg : w.grownBy w' r) (hne : v.ownBlock = none ∨ v.ownBlock ≠ r) : WL w' B v n F := OwnR.kept h hg hne
theorem WL.slice (h : WL w B v n F) : ∃ a c, v = .slice a n c := OwnR.slice h
end

theorem own_cell {w : World} {B : Nat} {e : TypeId} {v : Value} {n : Nat} {W : Nat → Value} (h : w.ownsRow B e 1 v n ((List.range n).map W)) {i : Nat} (hi : i < n) : ∃ g cap, v = .slice (some ⟨g, 0, none⟩) n cap ∧ w.cell? ⟨g, i, none⟩ = some (W i) := by
  rcases h.2 with ⟨rfl, h0⟩ | ⟨g, cap, cur, rfl, -, h3, h4, -, h6, h7⟩
  · omega
  · refine ⟨g, cap, rfl, ?_⟩
    rw [cell_of_row _ _ _ _ _ _ h3]
    have : (cur.toList.take (n * 1))[i]? = ((List.range n).map W)[i]? := by rw [h7]
    rw [List.getElem?_take, if_pos (by omega)] at this
    simpa [hi] using this

theorem mk_bw (n : Nat) (hn : n ≤ 16777216) (u : World) : (Instr.makeSlice 75 (.int .i64 n) (.int .i64 n)).run Try.prog u =
    .ok (.slice (some ⟨u.heap.size, 0, none⟩) n n) (u.alloc (.cells (madeCells #[.slice none 0 0] n) 54)) := by
  obtain ⟨i0, hi, hz0, hz1, hz2⟩ := info_parts infoBW
  have h := run_make (P := Try.prog) u 75 54 i0 (.slice none 0 0) Try.underlying75 hi hz0 .i64 .i64 (n : Int) (n : Int) (by omega) (Int.le_refl _) (by rw [hz2]; omega) (by omega)
  simpa [hz1, Value.cells] using h

/-- lists before i are marked, of list i the first j places -/
def stF (F : Nat → Nat → Int) (i j : Nat) : Nat → Nat → Int := fun k c => if k < i ∨ (k = i ∧ c < j) then mkS k c else F k c

/-- the blocks of the lists -/
def SW (nW : Nat) (W : Nat → Value) (b : Nat) : Prop := ∃ k, k < nW ∧ (W k).ownBlock = some b

/-- what words keeps: the book, the lists, all else -/
structure WsR (w wr : World) (B bk nW : Nat) (W : Nat → Value) (N : Nat → Nat) (vW vI : Value) (nI : Nat) (I : Nat → Value) (F : Nat → Nat → Int) : Prop where
  book : BookR wr bk vW nW W vI nI I
  ws : ∀ k, k < nW → WL wr B (W k) (N k) (F k)
  gr : GrownS (SW nW W) w wr
  low : ∀ k, k < nW → ∀ b, (W k).ownBlock = some b → b < bk
  ap : ∀ k l, k < nW → l < nW → k ≠ l → Value.apart (W k) (W l)

section
variable {w wr w' : World} {B bk nW : Nat} {W : Nat → Value} {N : Nat → Nat} {vW vI : Value} {nI : Nat} {I : Nat → Value} {F F' : Nat → Nat → Int}
theorem WsR.congr (h : WsR w wr B bk nW W N vW vI nI I F) (e : ∀ k c, k < nW → c < N k → F k c = F' k c) : WsR w wr B bk nW W N vW vI nI I F' :=
  { h with ws := fun k hk => (h.ws k hk).congr fun c hc => e k c hk hc }
theorem WsR.below (h : WsR w wr B bk nW W N vW vI nI I F) (hb : Below wr.heap.size wr w') : WsR w w' B bk nW W N vW vI nI I F :=
  { h with book := h.book.below hb, ws := fun k hk => (h.ws k hk).below hb, gr := h.gr.below hb }
theorem WsR.drew (h : WsR w wr B bk nW W N vW vI nI I F) : WsR w wr.drew B bk nW W N vW vI nI I F := h.below ((Below.refl _ _).drew)
theorem book_grown {w w' : World} {bk nW nI b : Nat} {vW vI : Value} {W I : Nat → Value} (h : BookR w bk vW nW W vI nI I) (hg : w.grownBy w' (some b)) (hb : b < bk) : BookR w' bk vW nW W vI nI I :=
  h.grown hg (by simp; omega) (own_block h.oW (by omega)) (own_block h.oI (by omega))
/-- one word written -/
theorem WsR.set (h : WsR w wr B bk nW W N vW vI nI I F) {i j g : Nat} (hi : i < nW) (hg : (W i).ownBlock = some g) (y : Int) :
    WsR w (wr.setCell ⟨g, j, none⟩ (.int .u64 y)) B bk nW W N vW vI nI I (fun k c => if k = i ∧ c = j then y else F k c) := by
  have gs := gb_set wr ⟨g, j, none⟩ (.int .u64 y)
  refine { h with book := book_grown h.book gs (h.low i hi g hg), ws := fun k hk => ?_, gr := h.gr.step gs (fun k hk => Or.inl ⟨i, hi, by injection hk with hk; rw [hg]; exact congrArg some hk⟩) }
  by_cases e : k = i
  · subst e
    exact ((h.ws k hk).set (j := j) hg y).congr fun c _ => by simp
  · refine ((h.ws k hk).kept gs ?_).congr fun c _ => by rw [if_neg (by omega)]
    cases hb : (W k).ownBlock with
    | none => exact Or.inl rfl
    | some b =>
      right
      intro e2
      injection e2 with e2
      exact h.ap k i hk hi e b hb (by rw [hg]; exact congrArg some e2.symm)
end

/-- what words keeps while the lists are grown: before i they are -/
structure GwR (w wr : World) (B bk nW : Nat) (W : Nat → Value) (N : Nat → Nat) (vW vI : Value) (nI : Nat) (I : Nat → Value) (gr i : Nat) (G : Nat → Value) : Prop where
  ws : WsR w wr B bk nW W N vW vI nI I mkS
  blk : Blk wr gr nW 54
  cells : ∀ k, k < nW → wr.cell? ⟨gr, k, none⟩ = some (if k < i then G k else .slice none 0 0)
  gs : ∀ k, k < i → WL wr B (G k) (N k + 80) (mkS k)
  side : ∀ k, k < i → ∀ b, (G k).ownBlock = some b → (W k).ownBlock = some b ∨ gr < b
  apG : ∀ k l, k < i → l < i → k ≠ l → Value.apart (G k) (G l)
  hi : ∀ b, vW.ownBlock = some b ∨ vI.ownBlock = some b → b < gr
  hb : bk < gr
  ge : w.heap.size ≤ gr
  lt : gr < wr.heap.size

section
variable {w wr w' : World} {B bk nW : Nat} {W : Nat → Value} {N : Nat → Nat} {vW vI : Value} {nI : Nat} {I : Nat → Value} {gr i j : Nat} {G : Nat → Value}
theorem GwR.start (h : WsR w wr B bk nW W N vW vI nI I mkS) : GwR w (wr.alloc (.cells (madeCells #[.slice none 0 0] nW) 54)) B bk nW W N vW vI nI I wr.heap.size 0 W := by
  have hb : Below wr.heap.size wr (wr.alloc (.cells (madeCells #[.slice none 0 0] nW) 54)) := (Below.refl _ _).alloc (Nat.le_refl _) _
  have hc := CellsAt.made wr (.slice none 0 0) nW 54
  refine ⟨h.below hb, Blk.made wr _ nW _, fun k hk => ?_, fun k hk => absurd hk (by omega), fun k hk => absurd hk (by omega), fun k l hk => absurd hk (by omega), fun b hb => ?_, h.book.lt, h.gr.size, by simp⟩
  · have := (hc k hk).1
    rw [Nat.zero_add] at this
    rw [this, if_neg (by omega)]
  · rcases hb with hb | hb
    · exact (h.book.oW.lt b hb).2
    · exact (h.book.oI.lt b hb).2
theorem GwR.below (h : GwR w wr B bk nW W N vW vI nI I gr i G) (hb : Below wr.heap.size wr w') : GwR w w' B bk nW W N vW vI nI I gr i G :=
  { h with ws := h.ws.below hb, blk := h.blk.grown (gb_below hb none) (by simp), cells := fun k hk => cell_stays hb (h.cells k hk), gs := fun k hk => (h.gs k hk).below hb, lt := Nat.lt_of_lt_of_le h.lt hb.size }
theorem GwR.drew (h : GwR w wr B bk nW W N vW vI nI I gr i G) : GwR w wr.drew B bk nW W N vW vI nI I gr i G := h.below ((Below.refl _ _).drew)

/-- the list i, grown by j places so far, is the value g -/
structure GjR (w wr : World) (B bk nW : Nat) (W : Nat → Value) (N : Nat → Nat) (vW vI : Value) (nI : Nat) (I : Nat → Value) (gr i : Nat) (G : Nat → Value) (j : Nat) (g : Value) : Prop where
  gw : GwR w wr B bk nW W N vW vI nI I gr i G
  own : WL wr B g (N i + j) (mkS i)
  side : ∀ b, g.ownBlock = some b → (W i).ownBlock = some b ∨ gr < b ∧ ∀ k, k < i → (G k).ownBlock ≠ some b
theorem GwR.grow (h : GwR w wr B bk nW W N vW vI nI I gr i G) (hi : i < nW) : GjR w wr B bk nW W N vW vI nI I gr i G 0 (W i) := ⟨h, h.ws.ws i hi, fun b hb => Or.inl hb⟩

theorem GwR.below2 {w w' wr : World} {B bk nW : Nat} {W : Nat → Value} {N : Nat → Nat} {vW vI : Value} {nI : Nat} {I : Nat → Value} {gr i j : Nat} {G : Nat → Value} {g : Value} (h : GjR w wr B bk nW W N vW vI nI I gr i G j g) (hb : Below wr.heap.size wr w') : GjR w w' B bk nW W N vW vI nI I gr i G j g :=
  ⟨h.gw.below hb, h.own.below hb, h.side⟩
/-- in which blocks the grown list and the others lie -/
theorem GjR.blocks {g : Value} (h : GjR w wr B bk nW W N vW vI nI I gr i G j g) (hi : i < nW) {b : Nat} (hb : g.ownBlock = some b) :
    (b < bk ∨ gr < b) ∧ (∀ k, k < nW → k ≠ i → (W k).ownBlock ≠ some b) ∧ (∀ k, k < i → (G k).ownBlock ≠ some b) := by
  have hbk := h.gw.hb
  rcases h.side b hb with e | ⟨e1, e2⟩
  · have hl := h.gw.ws.low i hi b e
    refine ⟨Or.inl hl, fun k hk hne e' => h.gw.ws.ap k i hk hi hne b e' e, fun k hk e' => ?_⟩
    rcases h.gw.side k hk b e' with e3 | e3
    · exact h.gw.ws.ap k i (by omega) hi (by omega) b e3 e
    · omega
  · exact ⟨Or.inr e1, fun k hk _ e' => by have := h.gw.ws.low k hk b e'; omega, e2⟩
theorem GjR.far {g : Value} (h : GjR w wr B bk nW W N vW vI nI I gr i G j g) (hi : i < nW) {b : Nat} (hb : b < bk → False) (hb2 : gr < b → False) : some b ≠ g.ownBlock := fun e => by
  rcases (h.blocks hi e.symm).1 with e1 | e1
  · exact hb e1
  · exact hb2 e1
theorem GjR.push {g : Value} {X : Obj} {w8 : World} {g8 cap : Nat} (h : GjR w wr B bk nW W N vW vI nI I gr i G j g) (hi : i < nW)
    (o8 : OwnR w8 B 22 1 (.slice (some ⟨g8, 0, none⟩) (N i + j + 1) cap) (N i + j + 1) (wlst (mkS i) (N i + j) ++ [.int .u64 (mkS i (N i + j))])) (hk : KeepsRows (wr.alloc X) w8 g ((N i + j) * 1))
    (hg : (wr.alloc X).grownBy w8 g.ownBlock) (hat : g.ownBlock = some g8 ∨ g8 = wr.heap.size + 1) : GjR w w8 B bk nW W N vW vI nI I gr i G (j + 1) (.slice (some ⟨g8, 0, none⟩) (N i + j + 1) cap) := by
  have hal : Below wr.heap.size wr (wr.alloc X) := (Below.refl _ _).alloc (Nat.le_refl _) _
  have h1 := GwR.below2 h hal
  have hbk := h.gw.hb
  have hlt := h.gw.lt
  have hge := h.gw.ge
  have e1 := h1.far hi (b := bk) (by omega) (by omega)
  have e2 := h1.far hi (b := gr) (by omega) (by omega)
  have eW : vW.ownBlock = none ∨ vW.ownBlock ≠ g.ownBlock := by
    cases hv : vW.ownBlock with
    | none => exact Or.inl rfl
    | some b =>
      right
      have l1 := (h.gw.ws.book.oW.lt b hv).1
      have l2 := h.gw.hi b (Or.inl hv)
      exact h1.far hi (by omega) (by omega)
  have eI : vI.ownBlock = none ∨ vI.ownBlock ≠ g.ownBlock := by
    cases hv : vI.ownBlock with
    | none => exact Or.inl rfl
    | some b =>
      right
      have l1 := (h.gw.ws.book.oI.lt b hv).1
      have l2 := h.gw.hi b (Or.inr hv)
      exact h1.far hi (by omega) (by omega)
  have hws : WsR w w8 B bk nW W N vW vI nI I mkS :=
    { h1.gw.ws with
      book := h1.gw.ws.book.grown hg e1 eW eI
      ws := fun k hkn => hk _ _ _ _ _ _ (h1.gw.ws.ws k hkn) (by
        by_cases e : k = i
        · subst e; right; right; omega
        · cases hv : (W k).ownBlock with
          | none => exact Or.inl rfl
          | some b => right; left; exact fun e' => (h1.blocks hi e'.symm).2.1 k hkn e hv)
      gr := h1.gw.ws.gr.step hg (fun k hkb => by
        rcases h.side k hkb with e | ⟨e, -⟩
        · exact Or.inl ⟨i, hi, e⟩
        · right; omega) }
  refine ⟨⟨hws, h1.gw.blk.grown hg e2, fun k hkn => hg.cell (h1.gw.cells k hkn) e2, fun k hki => hk _ _ _ _ _ _ (h1.gw.gs k hki) ?_, h.gw.side, h.gw.apG, h.gw.hi, hbk, hge, Nat.lt_of_lt_of_le h1.gw.lt hg.size⟩, ?_, fun b hb => ?_⟩
  · cases hv : (G k).ownBlock with
    | none => exact Or.inl rfl
    | some b => right; left; exact fun e' => (h1.blocks hi e'.symm).2.2 k hki hv
  · show OwnR w8 B _ 1 _ (N i + (j + 1)) (wlst (mkS i) (N i + (j + 1)))
    rw [← Nat.add_assoc, wlst_snoc]; exact o8
  · have hb : g8 = b := by simpa [Value.ownBlock] using hb
    subst hb
    rcases hat with e | e
    · exact h.side _ e
    · right
      exact ⟨by omega, fun k hki e' => by have := ((h.gw.gs k hki).lt _ e').2; omega⟩
theorem GwR.put {g : Value} (h : GjR w wr B bk nW W N vW vI nI I gr i G 80 g) (hi : i < nW) : GwR w (wr.setCell ⟨gr, i, none⟩ g) B bk nW W N vW vI nI I gr (i + 1) (fun k => if k = i then g else G k) := by
  have gs := gb_set wr ⟨gr, i, none⟩ g
  have hbk := h.gw.hb
  have hge := h.gw.ge
  have eW : vW.ownBlock = none ∨ vW.ownBlock ≠ some gr := by
    cases hv : vW.ownBlock with
    | none => exact Or.inl rfl
    | some b => right; have := h.gw.hi b (Or.inl hv); intro e; injection e with e; omega
  have eI : vI.ownBlock = none ∨ vI.ownBlock ≠ some gr := by
    cases hv : vI.ownBlock with
    | none => exact Or.inl rfl
    | some b => right; have := h.gw.hi b (Or.inr hv); intro e; injection e with e; omega
  have hws : WsR w (wr.setCell ⟨gr, i, none⟩ g) B bk nW W N vW vI nI I mkS :=
    { h.gw.ws with
      book := h.gw.ws.book.grown gs (by simp; omega) eW eI
      ws := fun k hkn => (h.gw.ws.ws k hkn).kept gs (by
        cases hv : (W k).ownBlock with
        | none => exact Or.inl rfl
        | some b => right; have := h.gw.ws.low k hkn b hv; intro e; injection e with e; simp at e; omega)
      gr := h.gw.ws.gr.step gs (fun k hkb => by injection hkb with hkb; simp at hkb; right; omega) }
  have hG : ∀ k, k < i → (if k = i then g else G k) = G k := fun k hk => if_neg (by omega)
  refine ⟨hws, h.gw.blk.set _ _, fun k hkn => ?_, fun k hki => ?_, fun k hki b hb => ?_, fun k l hk hl hne b hb => ?_, h.gw.hi, hbk, hge, by simpa using h.gw.lt⟩
  · by_cases e : k = i
    · subst e
      rw [if_pos (by omega), if_pos rfl]
      exact World.cell?_setCell_same _ _ _ (h.gw.cells k hkn)
    · rw [World.cell?_setCell_other _ _ _ _ (by intro e'; injection e' with _ e3 _; omega), h.gw.cells k hkn]
      by_cases e2 : k < i
      · rw [if_pos e2, if_pos (by omega), if_neg e]
      · rw [if_neg e2, if_neg (by omega)]
  · by_cases e : k = i
    · subst e
      simp only [if_true]
      refine h.own.kept gs ?_
      cases hv : g.ownBlock with
      | none => exact Or.inl rfl
      | some b => right; intro e'; injection e' with e'; simp at e'; have := (h.blocks hi hv).1; omega
    · rw [if_neg e]
      refine (h.gw.gs k (by omega)).kept gs ?_
      cases hv : (G k).ownBlock with
      | none => exact Or.inl rfl
      | some b =>
        right
        intro e'
        injection e' with e'
        simp at e'
        rcases h.gw.side k (by omega) b hv with e3 | e3
        · have := h.gw.ws.low k (by omega) b e3; omega
        · omega
  · by_cases e : k = i
    · subst e
      simp only [if_true] at hb
      rcases h.side b hb with e | ⟨e, -⟩
      · exact Or.inl e
      · exact Or.inr e
    · rw [if_neg e] at hb
      exact h.gw.side k (by omega) b hb
  · by_cases e : k = i
    · subst e
      simp only [if_true] at hb
      rw [if_neg (by omega)]
      exact (h.blocks hi hb).2.2 l (by omega)
    · rw [if_neg e] at hb
      by_cases e2 : l = i
      · subst e2
        simp only [if_true]
        exact fun e3 => (h.blocks hi e3).2.2 k (by omega) hb
      · rw [if_neg e2]
        exact h.gw.apG k l (by omega) (by omega) hne b hb
end
end Go.Proofs.Ytdlpemmoobbgnaa

namespace Go.Proofs.Ytdlpemmoobbgnaa
open Go.RowKit

theorem stF_next (F : Nat → Nat → Int) (i j k c : Nat) : (if k = i ∧ c = j then mkS i j else stF F i j k c) = stF F i (j + 1) k c := by
  unfold stF
  by_cases e : k = i ∧ c = j
  · rw [if_pos e, if_pos (Or.inr ⟨e.1, by omega⟩), e.1, e.2]
  · rw [if_neg e]
    by_cases e2 : k < i ∨ (k = i ∧ c < j)
    · rw [if_pos e2, if_pos (by omega)]
    · rw [if_neg e2, if_neg (by omega)]
theorem stF_row (F : Nat → Nat → Int) (i n k c : Nat) (h : k = i → c < n) : stF F i n k c = stF F (i + 1) 0 k c := by
  unfold stF
  by_cases e2 : k < i ∨ (k = i ∧ c < n)
  · rw [if_pos e2, if_pos (by omega)]
  · rw [if_neg e2, if_neg (by omega)]

set_option maxHeartbeats 2000000 in
set_option maxRecDepth 100000 in
theorem words_yes (B bk nW : Nat) (W : Nat → Value) (N : Nat → Nat) (vW vI : Value) (nI : Nat) (I : Nat → Value) (F : Nat → Nat → Int) (hnW : nW ≤ 16777216) (hN : ∀ k, k < nW → N k ≤ 17592186044000) (w : World) (h : WsR w w B bk nW W N vW vI nI I F) (hB : B ≤ w.heap.size) :
    Calls Try.prog 93 #[.pointer (some ⟨bk, 0, none⟩)] w fun e w' => e = .returned (.bool true) ∧ WsR w w' B bk nW W N vW vI nI I mkS := by
  obtain ⟨va, vc, rfl⟩ := own_slice h.book.oW
  obtain ⟨i0, hi, hz0, hz1, hz2⟩ := info_parts infoW
  have HI := Lib.hid (And.intro hi (And.intro hz0 (And.intro hz1 hz2)))
  have m1 := mk_bw nW hnW
  have HN := Lib.hid hN
  have H0 := Lib.hid h
  obtain ⟨q0, q1⟩ := h.book.c0
  clear hi hz0 hz1 hz2 h hN
  go_enter Try.func93, Try.ntmps93
  go_wp2_with fail
  clear q0 q1
  go_loopw [3] (fun iv wr => ∃ i : Nat, i ≤ nW ∧ iv = .int .i64 i ∧ WsR w wr B bk nW W N (.slice va nW vc) vI nI I (stF F i 0)) (fun iv _ => nW - (intOf iv).toNat)
  case atStart => exact ⟨0, by omega, rfl, H0.out.congr fun k c _ _ => (if_neg (by omega)).symm⟩
  case round =>
    clear H0
    obtain ⟨i, i1, rfl, hrel⟩ := hrel
    obtain ⟨q0, q1⟩ := hrel.book.c0
    by_cases hi : i < nW
    · obtain ⟨gW, cW, e, hc⟩ := own_cell hrel.book.oW hi
      injection e with e1 e2 e3
      subst e1
      subst e3
      obtain ⟨la, lc, hWi⟩ := (hrel.ws i hi).slice
      rw [hWi] at hc
      have hNi := HN.out i hi
      have HR := Lib.hid hrel
      have HWI := Lib.hid hWi
      clear hrel hWi
      have g5 : (0 : Int) ≤ (i : Int) := by omega
      have g6 : (i : Int) < (nW : Int) := by omega
      go_wp2_with fail
      clear hc q0 q1
      go_loopw [5] (fun jv wr => ∃ j : Nat, j ≤ N i ∧ jv = .int .i64 j ∧ WsR w wr B bk nW W N (.slice (some ⟨gW, 0, none⟩) nW vc) vI nI I (stF F i j)) (fun jv _ => N i - (intOf jv).toNat)
      case atStart => exact ⟨0, by omega, rfl, HR.out⟩
      case round =>
        clear HR
        obtain ⟨j, j1, rfl, hrel⟩ := hrel
        by_cases hj : j < N i
        · obtain ⟨g, cap, eg, -, -, c1, c2⟩ := (hrel.ws i hi).cell hj
          rw [HWI.out] at eg
          injection eg with eg1 eg2 eg3
          subst eg1
          subst eg3
          have hst := (hrel.set (j := j) hi (g := g) (by rw [HWI.out]; rfl) (mkS i j)).congr (F' := stF F i (j + 1)) fun k c _ _ => stF_next F i j k c
          have HST := Lib.hid hst
          have hsg := fun W => sign_any i j (by omega) (by omega) W
          have HSG := Lib.hid hsg
          clear hrel hst hsg
          have g7 : (0 : Int) ≤ (j : Int) := by omega
          have g8 : (j : Int) < (N i : Int) := by omega
          go_wp2_with (go_at_call 121; refine (HSG.out _).mono ?_; rintro e w' ⟨rfl, rfl⟩)
          go_roundw
          case rel => exact ⟨j + 1, by omega, by go_num, HST.out⟩
          case measure => simp [intOf]; omega
        · have ej : N i = j := by omega
          have hst := hrel.congr (F' := stF F (i + 1) 0) fun k c hk hc => stF_row F i j k c fun e => by rw [← ej, ← e]; exact hc
          have HST := Lib.hid hst
          clear hrel hst ej
          go_wp2_with fail
          go_roundw
          case rel => exact ⟨i + 1, by omega, by go_num, HST.out⟩
          case measure => simp [intOf]; omega
    · obtain rfl : nW = i := by omega
      have hms := hrel.congr (F' := mkS) fun k c hk _ => if_pos (Or.inl hk)
      have hst := GwR.start hms
      have hs0 := hms.gr.size
      have HST := Lib.hid hst
      clear hrel hms hst
      go_wp2_with fail
      clear q0 q1
      obtain ⟨gr, hgr⟩ : ∃ gr, gr = wr.heap.size := ⟨_, rfl⟩
      rw [← hgr] at HST ⊢
      have hgB : B ≤ gr := by omega
      generalize wr.alloc (.cells (madeCells #[.slice none 0 0] nW) 54) = W3 at HST ⊢
      clear hgr
      go_loopw [7] (fun iv wr => ∃ (i : Nat) (G : Nat → Value), i ≤ nW ∧ iv = .int .i64 i ∧ GwR w wr B bk nW W N (.slice va nW vc) vI nI I gr i G) (fun iv _ => nW - (intOf iv).toNat)
      case atStart => exact ⟨0, W, by omega, rfl, HST.out⟩
      case round =>
        clear HST
        obtain ⟨i, G, i1, rfl, hrel⟩ := hrel
        obtain ⟨q0, q1⟩ := hrel.ws.book.c0
        by_cases hi : i < nW
        · obtain ⟨gW, cW, e, hc⟩ := own_cell hrel.ws.book.oW hi
          injection e with e1 e2 e3
          subst e1
          subst e3
          obtain ⟨la, lc, hWi⟩ := (hrel.ws.ws i hi).slice
          rw [hWi] at hc
          have hNi := HN.out i hi
          have hgj := hrel.grow hi
          rw [hWi] at hgj
          have HGJ := Lib.hid hgj
          clear hrel hWi hgj
          have g5 : (0 : Int) ≤ (i : Int) := by omega
          have g6 : (i : Int) < (nW : Int) := by omega
          go_wp2_with fail
          clear hc q0 q1
          go_loopw [8, 9] (fun gv jv wr => ∃ j : Nat, j ≤ 80 ∧ jv = .int .i64 j ∧ GjR w wr B bk nW W N (.slice (some ⟨gW, 0, none⟩) nW vc) vI nI I gr i G j gv) (fun _ jv _ => 80 - (intOf jv).toNat)
          case atStart => exact ⟨0, by omega, rfl, HGJ.out⟩
          case round =>
            clear HGJ
            obtain ⟨j, j1, rfl, hrel⟩ := hrel
            obtain ⟨ga, gc, rfl⟩ := hrel.own.slice
            by_cases hj : j < 80
            · have hal : Below wr.heap.size wr (wr.alloc (.cells #[.int .u64 (mkS i (N i + j))] 22)) := (Below.refl _ _).alloc (Nat.le_refl _) _
              have hown := hrel.own.below hal
              have hwB : B ≤ (wr.alloc (.cells #[.int .u64 (mkS i (N i + j))] 22)).heap.size := by have := hrel.gw.lt; simp; omega
              have hpush := fun (w8 : World) (g8 cap : Nat) a b c d => hrel.push (X := .cells #[.int .u64 (mkS i (N i + j))] 22) (w8 := w8) (g8 := g8) (cap := cap) hi a b c d
              have hsg := fun W => sign_any i (N i + j) (by omega) (by omega) W
              obtain ⟨m, hm⟩ : ∃ m, m = N i + j := ⟨_, rfl⟩
              rw [← hm] at hown hwB hsg hpush
              have HPU := Lib.hid hpush
              have HSG := Lib.hid hsg
              have HOW := Lib.hid hown
              have hmb : m ≤ 17592186044080 := by omega
              have hnews := one_cell wr (.int .u64 (mkS i m)) 22
              rw [← hm]
              clear hpush hsg hown hrel hal hm
              go_wp2_with (first
                | (go_at_call 121; refine (HSG.out _).mono ?_; rintro e w' ⟨rfl, rfl⟩)
                | (at_builtin; refine wpList_append_keeps _ rfl _ _ 54 rfl B 22 i0 (.int .u64 0) 1 8 Try.underlying54 HI.out.1 HI.out.2.1 HI.out.2.2.1 HI.out.2.2.2 rfl _ _ _ rfl HOW.out ⟨wr.heap.size, 0, none⟩ 1 1 [.int .u64 (mkS i m)] rfl rfl hnews ?c2 (by decide) ?c3 ?c4 ?c5 _ rfl ?_))
              case c2 => intro u hu; simp at hu; subst hu; rfl
              case c3 => unfold maxLen; omega
              case c4 => omega
              case c5 => exact hwB
              · intro g8 cap w8 o8 hk hg hat hlt
                have hn := HPU.out _ _ _ o8 (by rw [Nat.mul_one]; exact hk) hg (by simpa using hat)
                have HNX := Lib.hid hn
                clear o8 hk hg hat hlt hn hnews HPU HSG HOW
                go_wp2_with fail
                go_roundw
                case rel => exact ⟨j + 1, by omega, by go_num, HNX.out⟩
                case measure => simp [intOf]; omega
            · obtain rfl : j = 80 := by omega
              have c1 := hrel.gw.cells i hi
              obtain ⟨-, c2⟩ := hrel.gw.blk.cell hi
              rw [if_neg (Nat.lt_irrefl i)] at c1
              have hput := GwR.put hrel hi
              have HPUT := Lib.hid hput
              clear hput hrel
              go_wp2_with fail
              go_roundw
              case rel => exact ⟨i + 1, _, by omega, by go_num, HPUT.out⟩
              case measure => simp [intOf]; omega
        · obtain rfl : nW = i := by omega
          have HR := Lib.hid hrel
          clear hrel
          go_wp2_with fail
          clear q0 q1
          go_loopw [10] (fun iv wr => ∃ i : Nat, i ≤ nW ∧ iv = .int .i64 i ∧ GwR w wr B bk nW W N (.slice va nW vc) vI nI I gr nW G) (fun iv _ => nW - (intOf iv).toNat)
          case atStart => exact ⟨0, by omega, rfl, HR.out⟩
          case round =>
            clear HR
            obtain ⟨i, i1, rfl, hrel⟩ := hrel
            obtain ⟨q0, q1⟩ := hrel.ws.book.c0
            by_cases hi : i < nW
            · obtain ⟨gW, cW, e, hc⟩ := own_cell hrel.ws.book.oW hi
              injection e with e1 e2 e3
              subst e1
              subst e3
              obtain ⟨la, lc, hWi⟩ := (hrel.ws.ws i hi).slice
              have c1 := hrel.cells i hi
              rw [if_pos hi] at c1
              obtain ⟨ga, gc, hGi⟩ := (hrel.gs i hi).slice
              rw [hWi] at hc
              rw [hGi] at c1
              have hNi := HN.out i hi
              have hl1 := ((hrel.ws.ws i hi).read (by omega)).below (Below.refl wr.heap.size wr).drew
              have hl2 := ((hrel.gs i hi).read (by omega)).below (Below.refl wr.heap.size wr).drew
              rw [hWi] at hl1
              rw [hGi] at hl2
              have hho := holds_yes i (N i) (by omega) _ _ _ hl1 hl2
              have HHO := Lib.hid hho
              have HR := Lib.hid hrel.drew
              clear hrel hWi hGi hl1 hl2 hho
              have g5 : (0 : Int) ≤ (i : Int) := by omega
              have g6 : (i : Int) < (nW : Int) := by omega
              go_wp2_with fail
              refine wp_region_still_tail 12 (by kernel_rfl) (by kernel_rfl) ?_
              simp only [List.take_succ_cons, List.take_zero, List.drop_succ_cons, List.drop_zero]
              repeat still_step
              refine wpStill_nil ?_
              change wpList _ _ _ _ _ wr.drew
              go_wp2_with fail
              refine HHO.out.mono ?_
              rintro e w4 ⟨rfl, hb4⟩
              have HR4 := Lib.hid (HR.out.below hb4)
              clear hb4 HR
              go_wp2_with fail
              go_roundw
              case rel => exact ⟨i + 1, by omega, by go_num, HR4.out⟩
              case measure => simp [intOf]; omega
            · obtain rfl : nW = i := by omega
              have HR := Lib.hid hrel
              clear hrel
              go_wp2_with fail
              go_ret
              exact ⟨rfl, HR.out.ws⟩
end Go.Proofs.Ytdlpemmoobbgnaa
