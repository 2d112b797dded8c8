/- The walks of nat.size, nat.own, nat.Least and zint.of, zint.Of. -/
import Derived.Test.YtdlpemmoobbgnaaMem
import Derived.Test.YtdlpemmoobbgnaaResid
import Derived.Laws.CopyOwn
set_option linter.unusedVariables false
set_option linter.unusedSimpArgs false
namespace Go.Proofs.Ytdlpemmoobbgnaa
open Go.RowKit

/-- how many words there are up to the highest that is not 0 -/
def sz (f : Nat → Int) : Nat → Nat
  | 0 => 0
  | n + 1 => if f n = 0 then sz f n else n + 1

theorem sz_le (f : Nat → Int) : ∀ n, sz f n ≤ n
  | 0 => Nat.le_refl _
  | n + 1 => by unfold sz; split; exact Nat.le_trans (sz_le f n) (by omega); omega
theorem sz_top (f : Nat → Int) : ∀ n, 0 < sz f n → f (sz f n - 1) ≠ 0
  | 0 => by intro h; simp [sz] at h
  | n + 1 => by
    unfold sz
    split
    · exact sz_top f n
    · intro _; simpa using by assumption
theorem sz_above (f : Nat → Int) : ∀ n i, sz f n ≤ i → i < n → f i = 0
  | 0, i => by intro _ h; omega
  | n + 1, i => by
    unfold sz
    split
    · rename_i h
      intro h1 h2
      by_cases e : i = n
      · subst e; exact h
      · exact sz_above f n i h1 (by omega)
    · intro h1 h2; omega

theorem wd_get {k : IntKind} {w : World} {v : Value} {n : Nat} {f : Nat → Int} (h : RdA k w v n f) : ∃ a cap, v = .slice a n cap ∧ n ≤ cap ∧ n ≤ 17592186044416 ∧
    (∀ i, i < n → ∃ b o, a = some ⟨b, o, none⟩ ∧ w.cell? ⟨b, o + i, none⟩ = some (.int k (f i))) := by
  obtain ⟨a, cap, e, h1, h2, h3⟩ := h
  refine ⟨a, cap, e, h1, h2, fun i hi => ?_⟩
  obtain ⟨b, o, e, h4⟩ := h3 (by omega)
  exact ⟨b, o, e, h4 i hi⟩

set_option maxHeartbeats 400000 in
theorem size_any (v : Value) (n : Nat) (f : Nat → Int) (w : World) (hr : RdA .u64 w v n f) :
    Calls Try.prog 130 #[v] w fun e w' => e = .returned (.int .i64 (sz f n)) ∧ w = w' := by
  obtain ⟨a, cap, rfl, h1, h2, h3⟩ := wd_get hr
  have H3 := Lib.hid h3
  clear h3 hr
  go_enter Try.func130, Try.ntmps130
  go_wp2_with fail
  go_loop [3] (fun kv => ∃ k : Nat, k ≤ n ∧ Hid (sz f k = sz f n) ∧ kv = .int .i64 k) (fun kv => (intOf kv).toNat)
  case atStart => exact ⟨n, Nat.le_refl _, rfl, rfl⟩
  case round =>
    obtain ⟨k, k1, k2, rfl⟩ := hrel
    rcases Nat.eq_zero_or_pos k with e | hk
    · subst e
      go_wp2_with fail
      go_ret
      exact ⟨by rw [← k2.out]; rfl, rfl⟩
    · obtain ⟨b, o, rfl, hc⟩ := H3.out (k - 1) (by omega)
      have hk' : (0 : Int) < (k : Int) := by omega
      obtain ⟨x, hx⟩ : ∃ x, x = f (k - 1) := ⟨_, rfl⟩
      rw [← hx] at hc
      obtain ⟨q, hq⟩ : ∃ q, q = k - 1 := ⟨_, rfl⟩
      rw [← hq] at hc
      have hq1 : (k : Int) - 1 = (q : Int) := by omega
      have hq2 : q < n := by omega
      have HQ := Lib.hid hq
      have HX := Lib.hid hx
      clear hq hx
      by_cases hz : x = 0
      · have hzb : (x == 0) = true := beq_iff_eq.2 hz
        have HZ := Lib.hid hz
        clear hz
        go_wp2_with fail
        go_round
        case rel =>
          refine ⟨q, by omega, ?_, rfl⟩
          show _ = _
          rw [← k2.out, show k = q + 1 by have := HQ.out; omega]
          show _ = if f q = 0 then sz f q else q + 1
          rw [if_pos (by rw [HQ.out, ← HX.out]; exact HZ.out)]
        case measure => simp [intOf]; omega
      · have hzb : (x == 0) = false := beq_eq_false_iff_ne.2 hz
        have hfin : Hid (sz f n = k) := by
          show _ = _
          rw [← k2.out, show k = q + 1 by have := HQ.out; omega]
          show (if f q = 0 then sz f q else q + 1) = _
          rw [if_neg (by rw [HQ.out, ← HX.out]; exact hz)]
        clear hz
        go_wp2_with fail
        go_ret
        exact ⟨by rw [hfin.out]; rfl, rfl⟩

theorem infoW1 : (Try.prog.info? 22).map (·.size) = some 1 := by kernel_rfl

set_option maxHeartbeats 1000000 in
set_option maxRecDepth 100000 in
theorem own_any (v : Value) (n : Nat) (f : Nat → Int) (w : World) (hr : RdA .u64 w v n f) :
    Calls Try.prog 125 #[v] w fun e w' => ∃ b, e = .returned (.slice (some ⟨b, 0, none⟩) (sz f n) (sz f n)) ∧ w.heap.size ≤ b ∧ Blk w' b (sz f n) 22 ∧ RowAt .u64 w' b 0 (sz f n) f ∧ Below w.heap.size w w' := by
  obtain ⟨a, cap, rfl, h1, h2, h3⟩ := wd_get hr
  have hle := sz_le f n
  have hs := size_any _ n f w hr
  obtain ⟨m, hm⟩ : ∃ m, m = sz f n := ⟨_, rfl⟩
  rw [← hm] at hle hs ⊢
  have mk := mk_words m (by omega)
  have H3 := Lib.hid h3
  have HS := Lib.hid hs
  clear h3 hr hm hs
  have k1 : (w.alloc (.cells (madeCells #[Value.int .u64 0] m) 22)).heap[w.heap.size]? = some (.cells (madeCells #[Value.int .u64 0] m).toList.toArray 22 (0, 0)) := by
    simpa using heap_alloc_new w (.cells (madeCells #[Value.int .u64 0] m) 22)
  have k2 : ((List.range m).map fun i => Value.int .u64 (f i)).length = Nat.min n m := by
    rw [List.length_map, List.length_range]; show m = min n m; omega
  have k3 : 0 < ((List.range m).map fun i => Value.int .u64 (f i)).length →
      ∃ ad, a = some ad ∧ ∀ j u, ((List.range m).map fun i => Value.int .u64 (f i))[j]? = some u → (w.alloc (.cells (madeCells #[Value.int .u64 0] m) 22)).cell? (ad.add j) = some u := by
    intro hp
    obtain ⟨b, o, rfl, _⟩ := H3.out 0 (by simp at hp; omega)
    refine ⟨⟨b, o, none⟩, rfl, fun j u hj => ?_⟩
    have hjm : j < m := by have := (List.getElem?_eq_some_iff.1 hj).1; simpa using this
    obtain ⟨b', o', e, hc⟩ := H3.out j (by omega)
    injection e with e; injection e with e1 e2 _; subst e1; subst e2
    rw [Addr.add_lit]
    have : u = .int .u64 (f j) := by simp [hjm] at hj; exact hj.symm
    rw [this]
    exact cell_stays ((Below.refl _ _).alloc (Nat.le_refl _) _) hc
  have k4 : 0 + ((List.range m).map fun i => Value.int .u64 (f i)).length ≤ (madeCells #[Value.int .u64 0] m).toList.length := by simp [madeCells]
  have k5 : ∀ u ∈ ((List.range m).map fun i => Value.int .u64 (f i)), u.oneCell' = true := by
    intro u hu
    obtain ⟨i, _, rfl⟩ := List.mem_map.1 hu
    rfl
  have k6 : Below w.heap.size w (w.alloc (.cells (madeCells #[Value.int .u64 0] m) 22)) := (Below.refl _ _).alloc (Nat.le_refl _) _
  have K1 := Lib.hid k1
  have K2 := Lib.hid k2
  have K3 := Lib.hid k3
  have K4 := Lib.hid k4
  have K5 := Lib.hid k5
  clear k1 k2 k3 k4 k5
  go_enter Try.func125, Try.ntmps125
  go_wp2_with (first
    | (go_at_call 130; refine HS.out.mono ?_; rintro e w' ⟨rfl, rfl⟩)
    | (with_reducible refine wpList_copy_splice (o := ⟨some 11, _, _, _, _, _⟩) rfl (.tmp 9) (.tmp 10) 54 54 rfl 22 Try.underlying54 infoW1 (some ⟨w.heap.size, 0, none⟩) a m m n cap rfl rfl w.heap.size 0 (madeCells #[Value.int .u64 0] m).toList 22 K1.out ((List.range m).map fun i => .int .u64 (f i)) K2.out (fun hp => ⟨rfl, K3.out hp⟩) K4.out K5.out w.heap.size w k6 (Nat.le_refl _) ?_))
  · clear K1 K2 K3 K4 K5
    intro w1 hw1 hb1
    have hcl : w1.heap[w.heap.size]? = some (.cells ((List.range m).map fun i => Value.int .u64 (f i)).toArray 22 (0, 0)) := by
      have := hw1.out
      rw [this]; congr 3
      simp [splice, madeCells]
    obtain ⟨c1, c2⟩ := cells_list hcl
    have C1 := Lib.hid c1
    have C2 := Lib.hid c2
    clear hw1 hcl c1 c2
    go_wp2_with fail
    go_ret
    exact ⟨w.heap.size, rfl, Nat.le_refl _, C1.out, C2.out, hb1⟩

theorem natLeast_any (v : Value) (n : Nat) (f : Nat → Int) (w : World) (hr : RdA .u64 w v n f) :
    Calls Try.prog 100 #[v] w fun e w' => ∃ b, e = .returned (.slice (some ⟨b, 0, none⟩) (sz f n) (sz f n)) ∧ w.heap.size ≤ b ∧ Blk w' b (sz f n) 22 ∧ RowAt .u64 w' b 0 (sz f n) f ∧ Below w.heap.size w w' := by
  have H := Lib.hid (own_any v n f w hr)
  clear hr
  go_enter Try.func100, Try.ntmps100
  go_wp2_with (go_at_call 125; refine H.out.mono ?_; rintro e w1 ⟨b, rfl, h1, h2, h3, h4⟩)
  go_ret
  exact ⟨b, rfl, h1, h2, h3, h4⟩

theorem zof_any (s : Bool) (a : Option Addr) (n cap : Nat) (w : World) :
    Calls Try.prog 99 #[.bool s, .slice a n cap] w fun e w' => e = .returned (.agg #[.bool (s && decide (0 < n)), .slice a n cap]) ∧ Below w.heap.size w w' := by
  cases s with
  | false =>
    go_enter Try.func99, Try.ntmps99
    go_wp2_with fail
    exact bodyPost_ret (v := .agg #[.bool false, .slice a n cap]) (by simp [results, Try.results99, go_sem]) rfl ⟨rfl, (Below.refl _ _).alloc (Nat.le_refl _) _⟩
  | true =>
    go_enter Try.func99, Try.ntmps99
    go_wp2_with fail
    exact bodyPost_ret (v := .agg #[.bool (decide (0 < n)), .slice a n cap]) (by simp [results, Try.results99, go_sem]) rfl ⟨rfl, (Below.refl _ _).alloc (Nat.le_refl _) _⟩

/-- how many words a small number has -/
def w1 (x : Int) : Nat := if x = 0 then 0 else 1
def small (x : Int) : Raw := ⟨false, w1 x, fun _ => x⟩

theorem sz_one (x : Int) : sz (fun _ => x) 1 = w1 x := by unfold sz w1; simp [sz]

/-- two cells just made -/
theorem two_cells (w : World) (u v : Value) (t : TypeId) : (w.alloc (.cells #[u, v] t)).cell? ⟨w.heap.size, 0, none⟩ = some u ∧ (w.alloc (.cells #[u, v] t)).cell? ⟨w.heap.size, 1, none⟩ = some v ∧
    (w.alloc (.cells #[u, v] t)).frozen? ⟨w.heap.size, 0, none⟩ = false ∧ (w.alloc (.cells #[u, v] t)).frozen? ⟨w.heap.size, 1, none⟩ = false := by
  have h := heap_alloc_new w (.cells #[u, v] t)
  refine ⟨by rw [cell_of_row _ _ _ _ _ _ h]; rfl, by rw [cell_of_row _ _ _ _ _ _ h]; rfl, ?_, ?_⟩ <;> (unfold World.frozen?; simp only; rw [h]; simp)

set_option maxHeartbeats 400000 in
theorem Of_any (x : Int) (h0 : 0 ≤ x) (h1 : x ≤ 9223372036854775807) (w : World) :
    Calls Try.prog 75 #[.int .i64 x] w fun e w' => ∃ b, e = .returned (.agg #[.bool false, .slice (some ⟨b, 0, none⟩) (w1 x) (w1 x)]) ∧ w.heap.size ≤ b ∧ Blk w' b (w1 x) 22 ∧ RowAt .u64 w' b 0 (w1 x) (fun _ => x) ∧ Below w.heap.size w w' := by
  obtain ⟨z0, z1, z2, z3⟩ := two_cells w (.bool false) (.slice none 0 0) 56
  have hb0 : Below w.heap.size w (w.alloc (.cells #[.bool false, .slice none 0 0] 56)) := (Below.refl _ _).alloc (Nat.le_refl _) _
  have hs0 : (w.alloc (.cells #[.bool false, .slice none 0 0] 56)).heap.size = w.heap.size + 1 := by simp
  have HB0 := Lib.hid hb0
  have Z := Lib.hid (And.intro z0 (And.intro z1 (And.intro z2 z3)))
  have HS0 := Lib.hid hs0
  clear hb0 hs0 z0 z1 z2 z3
  go_enter Try.func75, Try.ntmps75
  go_wp2_with fail
  obtain ⟨z0, z1, z2, z3⟩ := Z.out
  have hs0 := HS0.out
  rw [← hs0]
  have hb0 := HB0.out
  clear Z HS0 HB0
  generalize w.alloc (.cells #[.bool false, .slice none 0 0] 56) = W at z0 z1 z2 z3 hb0 hs0 ⊢
  have hr : RdA .u64 (W.alloc (.cells #[.int .u64 x] 22)) (.slice (some ⟨W.heap.size, 0, none⟩) 1 1) 1 (fun _ => x) := by
    refine ⟨_, 1, rfl, Nat.le_refl _, by omega, fun _ => ⟨W.heap.size, 0, rfl, fun i hi => ?_⟩⟩
    obtain rfl : i = 0 := by omega
    rw [cell_of_row _ _ _ _ _ _ (heap_alloc_new W _)]; rfl
  have hb1 : Below W.heap.size W (W.alloc (.cells #[.int .u64 x] 22)) := (Below.refl _ _).alloc (Nat.le_refl _) _
  refine (natLeast_any _ 1 _ _ hr).mono ?_
  rw [sz_one]
  rintro e w1 ⟨b, rfl, c1, c2, c3, c4⟩
  have hb2 : Below W.heap.size W w1 := hb1.trans (c4.mono (by simp))
  have y0 := cell_stays hb2 z0
  have y1 := cell_stays hb2 z1
  have y2 := froz_stays hb2 z0 z2
  have y3 := froz_stays hb2 z1 z3
  have hb3 : Below w.heap.size w w1 := hb0.trans (hb2.mono (by omega))
  have hbw : w.heap.size + 1 ≤ b := by rw [← hs0]; simp at c1; omega
  have C2 := Lib.hid c2
  have C3 := Lib.hid c3
  have HS0 := Lib.hid hs0
  clear hr hb1 c1 c2 c3 c4 hb0 hb2 z0 z1 z2 z3 hs0
  go_wp2_with (go_at_call 99; refine (zof_any false _ _ _ _).mono ?_; rintro e w3 ⟨rfl, d4⟩; have x0 := cell_stays d4 y0; have x1 := cell_stays d4 y1; have x2 := froz_stays d4 y0 y2; have x3 := froz_stays d4 y1 y3)
  have hg : w1.grownBy ((w3.setCell ⟨w.heap.size, 0, none⟩ (.bool false)).setCell ⟨w.heap.size, 1, none⟩ (.slice (some ⟨b, 0, none⟩) (Ytdlpemmoobbgnaa.w1 x) (Ytdlpemmoobbgnaa.w1 x))) (some w.heap.size) :=
    gb_trans (gb_below d4 _) (gb_trans (gb_set _ _ _) (gb_set _ _ _))
  refine bodyPost_ret (v := .agg #[.bool false, .slice (some ⟨b, 0, none⟩) (Ytdlpemmoobbgnaa.w1 x) (Ytdlpemmoobbgnaa.w1 x)]) ?_ rfl ⟨b, rfl, by omega, C2.out.grown hg (by simp; omega), C3.out.gb hg (by simp; omega), hb3.grown hg hb3.size (fun k hk => by injection hk with hk; omega)⟩
  simp [results, Try.results75, go_sem, x0, x1]
end Go.Proofs.Ytdlpemmoobbgnaa
