/- The walks of trellisref01.trim, Split, Join, Least. The walks of trellisref01.Join, Least; trellisref05.made, Least, Of, Neg, Abs. The walks of trellisref01.order, Cmp, at, Add, Sub. The walk of trellisref01.Sub. The walks of trellisref05.made, Least, Of, Abs, Sign, Add, Sub. The walks of trellisref05.Sub, Least, Abs, Sign, Of (numbers from 0 on). The walks of trellisref02.digits, words. The walks of trellisref02.words, Mul. The walks of trellisref05.Mul, MulAdd. Matrices of integers that a call fills entry by entry (layer 9's answers); the check of a shape, a matrix of zeros. -/
import Derived.Test.YtdlpemmoobbgnaaGA
import Derived.Test.YtdlpemmoobbgnaaGB
import Derived.Deep.DeepCutAuto
import Derived.BigRegion
import Derived.BigQuiet
import Derived.Deep.RegionWith
import Derived.Deep.Slices
set_option linter.unusedVariables false
set_option linter.unusedSimpArgs false
namespace Go.Proofs.Ytdlpemmoobbgnaa
open Go.RowKit

theorem infoN : (Try.prog.info? 3).map (fun i => (i.zero, i.size, i.bytes)) = some (some (.int .i64 0), 1, 8) := by kernel_rfl

/-- fresh digits of the number N to the base 2^16; fresh words of the number N in least form -/
def FrD (w : World) (base : Nat) (v : Value) (N : Int) : Prop := ∃ n f, FrA .i64 3 w base v n f ∧ Dig 65536 n f N
def FrN (w : World) (base : Nat) (v : Value) (N : Int) : Prop := ∃ n f, FrA .u64 22 w base v n f ∧ Dig 18446744073709551616 n f N

theorem mk_nums (l n : Nat) (hl : l ≤ n) (hn : n ≤ 17592186044416) (u : World) : (Instr.makeSlice 45 (.int .i64 l) (.int .i64 n)).run Try.prog u =
    .ok (.slice (some ⟨u.heap.size, 0, none⟩) l n) (u.alloc (.cells (madeCells #[.int .i64 0] n) 3)) := by
  obtain ⟨i0, hi, hz0, hz1, hz2⟩ := info_parts infoN
  have h := run_make (P := Try.prog) u 45 3 i0 (.int .i64 0) Try.underlying45 hi hz0 .i64 .i64 (l : Int) (n : Int) (by omega) (by omega) (by rw [hz2]; omega) (by omega)
  simpa [hz1, Value.cells] using h
theorem mk_wds (l n : Nat) (hl : l ≤ n) (hn : n ≤ 17592186044416) (u : World) : (Instr.makeSlice 54 (.int .i64 l) (.int .i64 n)).run Try.prog u =
    .ok (.slice (some ⟨u.heap.size, 0, none⟩) l n) (u.alloc (.cells (madeCells #[.int .u64 0] n) 22)) := by
  obtain ⟨i0, hi, hz0, hz1, hz2⟩ := info_parts infoW
  have h := run_make (P := Try.prog) u 54 22 i0 (.int .u64 0) Try.underlying54 hi hz0 .i64 .i64 (l : Int) (n : Int) (by omega) (by omega) (by rw [hz2]; omega) (by omega)
  simpa [hz1, Value.cells] using h

theorem mk_nums0 (n : Nat) (hn : n ≤ 17592186044416) (u : World) : (Instr.makeSlice 45 (.int .i64 0) (.int .i64 n)).run Try.prog u =
    .ok (.slice (some ⟨u.heap.size, 0, none⟩) 0 n) (u.alloc (.cells (madeCells #[.int .i64 0] n) 3)) := mk_nums 0 n (Nat.zero_le _) hn u
theorem mk_wds0 (n : Nat) (hn : n ≤ 17592186044416) (u : World) : (Instr.makeSlice 54 (.int .i64 0) (.int .i64 n)).run Try.prog u =
    .ok (.slice (some ⟨u.heap.size, 0, none⟩) 0 n) (u.alloc (.cells (madeCells #[.int .u64 0] n) 22)) := mk_wds 0 n (Nat.zero_le _) hn u
theorem own_made (w : World) (base : Nat) (z : Value) (n : Nat) (e : TypeId) (hb : base ≤ w.heap.size) (hn : n ≤ maxLen) :
    (w.alloc (.cells (madeCells #[z] n) e)).ownsRow base e 1 (.slice (some ⟨w.heap.size, 0, none⟩) 0 n) 0 [] :=
  ⟨by simp, Or.inr ⟨w.heap.size, n, madeCells #[z] n, rfl, hb, heap_alloc_new w _, by omega, hn, by simp [madeCells], by simp⟩⟩

theorem own_none {w : World} (base : Nat) (e : TypeId) (b cap : Nat) {c : Array Value} (hb : base ≤ b) (h : w.heap[b]? = some (.cells c e (0, 0))) (hc : c.size = cap) (hm : cap ≤ maxLen) : w.ownsRow base e 1 (.slice (some ⟨b, 0, none⟩) 0 cap) 0 [] :=
  ⟨by simp, Or.inr ⟨b, cap, c, rfl, hb, h, by omega, hm, by omega, by simp⟩⟩

/-- one number more behind a row of the call's own: 'append(l, x)' -/
theorem wp_push {P : Program} {wr : World} {ops : Array Oper} {rest : List Oper} {o : Oper} {a : Act} {Q : Exit → Act → World → Prop} (hgd : o.guard = none) (s x : Operand) (t : TypeId)
    (ho : o.op = .call { callee := .builtin .append, args := #[s, x], argTypes := #[t, t] }) {e : TypeId} {z : Value} (ht : P.underlying t = some (.slice e)) (hi : (P.info? e).map (fun i => (i.zero, i.size, i.bytes)) = some (some z, 1, 8)) (hz : z.cells.size = 1)
    {base : Nat} {v : Value} {n : Nat} {xs : List Value} (hown : wr.ownsRow base e 1 v n xs) (hs : a.eval s = v) {u : Value} (hx : a.eval x = .slice (some ⟨wr.heap.size, 0, none⟩) 1 1) (hu : u.oneCell' = true) (hb : base ≤ wr.heap.size) (hn : n ≤ 17592186044415)
    (h : ∀ v' w', w'.ownsRow base e 1 v' (n + 1) (xs ++ [u]) → Below base wr w' → wpList P ops Q rest (a.put o.dst v') w') : wpList P ops Q (o :: rest) a (wr.alloc (.cells #[u] e)) := by
  obtain ⟨i0, hi, hz0, hz1, hz2⟩ := info_parts hi
  refine wpList_append_own _ hgd s x t ho base e i0 z 1 8 ht hi hz0 hz1 hz2 hz (by omega) v n xs hs (hown.alloc _) ⟨wr.heap.size, 0, none⟩ 1 1 [u] hx rfl ?_ ?_ (by unfold maxLen; omega) (by omega) (by simp; omega) fun v' w' h1 h2 _ => h v' w' h1 ?_
  · intro j y hj
    match j, hj with
    | 0, hj => simp at hj; subst hj; simp [Addr.add]
  · intro y hy; simp at hy; subst hy; exact hu
  · exact ((Below.refl _ _).alloc hb _).grown h2 (by simp; omega) fun k hk => (hown.lt k hk).1

theorem own_fr {k : IntKind} {w : World} {base : Nat} {e : TypeId} {v : Value} {n : Nat} {f : Nat → Int} (h : w.ownsRow base e 1 v n ((List.range n).map fun i => .int k (f i))) (hn : n ≤ 17592186044416) : FrA k e w base v n f := by
  obtain ⟨h0, h⟩ := h
  rcases h with ⟨rfl, h⟩ | ⟨g, cap, cur, rfl, h2, h3, h4, h5, h6, h7⟩
  · exact Or.inl ⟨rfl, h⟩
  · refine Or.inr ⟨g, cap, rfl, h4, hn, h2, ⟨cur, h3, by omega⟩, fun i hi => ⟨?_, ?_⟩⟩
    · rw [Nat.zero_add, cell_of_row _ _ _ _ _ _ h3]
      have := congrArg (·[i]?) h7
      rw [List.getElem?_take, if_pos (by omega)] at this
      simpa [hi] using this
    · unfold World.frozen?
      rw [show (⟨g, 0 + i, none⟩ : Addr).block = g from rfl, h3]; simp

theorem FrA.take {k : IntKind} {e : TypeId} {w : World} {base : Nat} {a : Option Addr} {n cap m : Nat} {f : Nat → Int} (h : FrA k e w base (.slice a n cap) n f) (hm : m ≤ n) : FrA k e w base (.slice a m cap) m f := by
  rcases h with ⟨h1, h2⟩ | ⟨b, cap', h1, h2, h3, h4, h5, h6⟩
  · obtain rfl : m = 0 := by omega
    simp only [Value.slice.injEq] at h1
    obtain ⟨rfl, _, rfl⟩ := h1
    exact Or.inl ⟨rfl, rfl⟩
  · simp only [Value.slice.injEq] at h1
    obtain ⟨rfl, _, rfl⟩ := h1
    exact Or.inr ⟨b, cap, rfl, by omega, by omega, h4, h5, fun i hi => h6 i (by omega)⟩

theorem FrA.slice {k : IntKind} {e : TypeId} {w : World} {base : Nat} {v : Value} {n : Nat} {f : Nat → Int} (h : FrA k e w base v n f) : ∃ a cap, v = .slice a n cap := by
  rcases h with ⟨rfl, rfl⟩ | ⟨b, cap, rfl, _⟩
  · exact ⟨_, _, rfl⟩
  · exact ⟨_, _, rfl⟩

set_option maxHeartbeats 400000 in
theorem trim_any (a : Option Addr) (n cap : Nat) (f : Nat → Int) (w : World) (hr : RdA .i64 w (.slice a n cap) n f) :
    Calls Try.prog 128 #[.slice a n cap] w fun e w' => e = .returned (.slice a (sz f n) cap) ∧ w = w' := by
  obtain ⟨a', cap', e, h1, h2, h3⟩ := wd_get hr
  simp only [Value.slice.injEq, true_and] at e
  obtain ⟨rfl, rfl⟩ := e
  have H3 := Lib.hid h3
  clear h3 hr
  go_enter Try.func128, Try.ntmps128
  go_wp2_with fail
  go_loop [3] (fun kv => ∃ k : Nat, k ≤ n ∧ Hid (sz f k = sz f n) ∧ kv = .int .i64 k) (fun kv => (intOf kv).toNat)
  case atStart => exact ⟨n, Nat.le_refl _, rfl, rfl⟩
  case round =>
    obtain ⟨k, k1, k2, rfl⟩ := hrel
    rcases Nat.eq_zero_or_pos k with e | hk
    · subst e
      go_wp2_with fail
      go_ret
      exact ⟨by rw [← k2.out]; rfl, rfl⟩
    · obtain ⟨b, o, rfl, hc⟩ := H3.out (k - 1) (by omega)
      have hk' : (0 : Int) < (k : Int) := by omega
      obtain ⟨x, hx⟩ : ∃ x, x = f (k - 1) := ⟨_, rfl⟩
      rw [← hx] at hc
      obtain ⟨q, hq⟩ : ∃ q, q = k - 1 := ⟨_, rfl⟩
      rw [← hq] at hc
      have hq1 : (k : Int) - 1 = (q : Int) := by omega
      have hq2 : q < n := by omega
      have HQ := Lib.hid hq
      have HX := Lib.hid hx
      clear hq hx
      by_cases hz : x = 0
      · have hzb : (x == 0) = true := beq_iff_eq.2 hz
        have HZ := Lib.hid hz
        clear hz
        go_wp2_with fail
        go_round
        case rel =>
          refine ⟨q, by omega, ?_, rfl⟩
          show _ = _
          rw [← k2.out, show k = q + 1 by have := HQ.out; omega]
          show _ = if f q = 0 then sz f q else q + 1
          rw [if_pos (by rw [HQ.out, ← HX.out]; exact HZ.out)]
        case measure => simp [intOf]; omega
      · have hzb : (x == 0) = false := beq_eq_false_iff_ne.2 hz
        have hfin : Hid (sz f n = k) := by
          show _ = _
          rw [← k2.out, show k = q + 1 by have := HQ.out; omega]
          show (if f q = 0 then sz f q else q + 1) = _
          rw [if_neg (by rw [HQ.out, ← HX.out]; exact hz)]
        clear hz
        go_wp2_with fail
        go_ret
        exact ⟨by rw [hfin.out]; rfl, rfl⟩

theorem spl_snoc (f : Nat → Int) (q : Nat) : ((List.range (q + 1)).map fun i => Value.int .i64 (spl f i)) = ((List.range q).map fun i => Value.int .i64 (spl f i)) ++ [.int .i64 (spl f q)] := by
  rw [List.range_succ, List.map_append]; rfl

theorem map_snoc (k : IntKind) (f : Nat → Int) (q : Nat) : ((List.range (q + 1)).map fun i => Value.int k (f i)) = ((List.range q).map fun i => Value.int k (f i)) ++ [.int k (f q)] := by
  rw [List.range_succ, List.map_append]; rfl

theorem word_step (x : Int) (x0 : 0 ≤ x) (k : Nat) : x / 65536 ^ k / 65536 = x / 65536 ^ (k + 1) ∧ 0 ≤ x / 65536 ^ k := by
  have hp := pow_pos' (show (0 : Int) < 65536 by omega) k
  exact ⟨by rw [Int.ediv_ediv_of_nonneg (by omega), Int.pow_succ], Int.ediv_nonneg x0 (by omega)⟩

theorem word_le (x : Int) (x0 : 0 ≤ x) (x1 : x ≤ 18446744073709551615) (k : Nat) : x / 65536 ^ k ≤ 18446744073709551615 :=
  Int.le_trans (Int.ediv_le_self _ x0) x1

set_option maxHeartbeats 1000000 in
set_option maxRecDepth 100000 in
theorem Split_any (v : Value) (n : Nat) (f : Nat → Int) (w : World) (hn : n ≤ 1099511627776) (hr : RdW w v n f) :
    Calls Try.prog 106 #[v] w fun e w' => ∃ v', e = .returned v' ∧ FrD w' w.heap.size v' (natFrom f 0 n) ∧ Below w.heap.size w w' := by
  obtain ⟨hr, hw⟩ := hr
  obtain ⟨a, cap, rfl, h1, h2, h3⟩ := wd_get hr
  have H3 := Lib.hid h3
  have HW := Lib.hid hw
  clear h3 hr hw
  go_enter Try.func106, Try.ntmps106
  obtain ⟨K, hK⟩ : ∃ K, K = 4 * n := ⟨_, rfl⟩
  have e4 : (4 : Int) * n = (K : Int) := by omega
  have hKb : K ≤ 17592186044416 := by omega
  have mk : ∀ u : World, (Instr.makeSlice 45 (.int .i64 0) (.int .i64 (4 * (n : Int)))).run Try.prog u =
      .ok (.slice (some ⟨u.heap.size, 0, none⟩) 0 K) (u.alloc (.cells (madeCells #[.int .i64 0] K) 3)) := by
    rw [e4]; exact mk_nums0 K hKb
  clear hK e4
  go_wp2_with fail
  have HO := Lib.hid (own_made w w.heap.size (.int .i64 0) K 3 (Nat.le_refl _) (by unfold maxLen; omega))
  have hb1 : Below w.heap.size w (w.alloc (.cells (madeCells #[.int .i64 0] K) 3)) := (Below.refl _ _).alloc (Nat.le_refl _) _
  clear mk
  generalize w.alloc (.cells (madeCells #[.int .i64 0] K) 3) = w1 at HO hb1 ⊢
  go_loopw [3, 4] (fun dv iv wr => ∃ j : Nat, j ≤ n ∧ iv = .int .i64 j ∧ wr.ownsRow w.heap.size 3 1 dv (4 * j) ((List.range (4 * j)).map fun i => .int .i64 (spl f i)) ∧ Below w.heap.size w wr) (fun _ iv _ => n - (intOf iv).toNat)
  case atStart => exact ⟨0, by omega, rfl, HO.out, hb1⟩
  case round =>
    clear HO hb1
    obtain ⟨j, j1, rfl, hown, hbel⟩ := hrel
    obtain ⟨da, dc, rfl⟩ := own_slice hown
    have HO := Lib.hid hown
    clear hown
    by_cases hj : j < n
    · obtain ⟨b, o, rfl, hc⟩ := H3.out j hj
      have hc := cell_stays hbel hc
      obtain ⟨x, hx⟩ : ∃ x, x = f j := ⟨_, rfl⟩
      obtain ⟨x0, x1⟩ := HW.out j hj
      rw [← hx] at hc x0 x1
      have HX := Lib.hid hx
      clear hx
      go_wp2_with fail
      go_loopw [3, 5, 6] (fun dv xv kv wr => ∃ k : Nat, k ≤ 4 ∧ kv = .int .i64 k ∧ xv = .int .u64 (x / 65536 ^ k) ∧ wr.ownsRow w.heap.size 3 1 dv (4 * j + k) ((List.range (4 * j + k)).map fun i => .int .i64 (spl f i)) ∧ Below w.heap.size w wr) (fun _ _ kv _ => 4 - (intOf kv).toNat)
      case atStart => exact ⟨0, by omega, rfl, by rw [Int.pow_zero, Int.ediv_one], HO.out, hbel⟩
      case round =>
        clear HO hbel hc
        obtain ⟨k, k1, rfl, rfl, hown, hbel⟩ := hrel
        obtain ⟨da, dc, rfl⟩ := own_slice hown
        have HO := Lib.hid hown
        clear hown
        obtain ⟨s1, s2⟩ := word_step x x0 k
        have s3 := word_le x x0 x1 k
        obtain ⟨y, hy⟩ : ∃ y, y = x / 65536 ^ k := ⟨_, rfl⟩
        rw [← hy] at s1 s2 s3 ⊢
        have HS1 := Lib.hid s1
        have HY := Lib.hid hy
        clear s1 hy
        by_cases hk : k < 4
        · have hsp : Hid (spl f (4 * j + k) = y % 65536) := by show _ = _; rw [spl_at f j k hk, ← HX.out, HY.out]
          obtain ⟨q, hq⟩ : ∃ q, q = 4 * j + k := ⟨_, rfl⟩
          rw [← hq] at HO hsp ⊢
          have HQ := Lib.hid hq
          have hq2 : q ≤ 4398046511104 := by omega
          clear hq
          go_wp2_with (at_builtin; refine wp_push rfl _ _ 45 rfl Try.underlying45 infoN rfl HO.out rfl rfl rfl hbel.size (by omega) ?_)
          · intro v' w2 hown' hb2
            have hb2 : Below w.heap.size w w2 := hbel.trans hb2
            have HO' := Lib.hid hown'
            clear hown' hbel
            go_wp2_with fail
            go_roundw
            case rel =>
              refine ⟨k + 1, by omega, by go_num, by rw [← HS1.out], ?_, hb2⟩
              rw [show 4 * j + (k + 1) = q + 1 by have := HQ.out; omega, map_snoc, hsp.out]
              exact HO'.out
            case measure => simp [intOf]; omega
        · obtain rfl : k = 4 := by omega
          go_wp2_with fail
          go_roundw
          case rel => exact ⟨j + 1, by omega, by go_num, by rw [show 4 * (j + 1) = 4 * j + 4 by omega]; exact HO.out, hbel⟩
          case measure => simp [intOf]; omega
    · obtain rfl : j = n := by omega
      have hfr := own_fr HO.out (by omega)
      have HF := Lib.hid hfr
      clear hfr
      go_wp2_with (go_at_call 128; refine (trim_any _ _ _ (spl f) _ HF.out.read).mono ?_; rintro e w3 ⟨rfl, rfl⟩)
      go_ret
      refine ⟨_, rfl, ⟨_, spl f, HF.out.take (sz_le _ _), ?_⟩, hbel⟩
      rw [natFrom_dv0]
      exact Dig.split fun i hi => by have := HW.out i hi; omega

end Go.Proofs.Ytdlpemmoobbgnaa

namespace Go.Proofs.Ytdlpemmoobbgnaa
open Go.RowKit

/-- the upper c digits of the word t -/
def jq (f : Nat → Int) (m t : Nat) : Nat → Int
  | 0 => 0
  | c + 1 => jq f m t c * 65536 + (if 4 * t + (3 - c) < m then f (4 * t + (3 - c)) else 0)

theorem jq_four (f : Nat → Int) (m t : Nat) : jq f m t 4 = joi f m t := by
  simp only [jq, joi, Nat.sub_self, Nat.add_zero, show 3 - 0 = 3 from rfl, show 3 - 1 = 2 from rfl, show 3 - 2 = 1 from rfl]
  omega

theorem jq_bd {f : Nat → Int} {m : Nat} (h : ∀ i, i < m → 0 ≤ f i ∧ f i < 65536) (t : Nat) : ∀ c, c ≤ 3 → 0 ≤ jq f m t c ∧ jq f m t c ≤ 281474976710655 := by
  have a (k : Nat) : 0 ≤ (if k < m then f k else 0) ∧ (if k < m then f k else 0) < 65536 := by
    split
    · exact h k (by assumption)
    · omega
  have := a (4 * t + (3 - 0)); have := a (4 * t + (3 - 1)); have := a (4 * t + (3 - 2))
  intro c hc
  rcases (by omega : c = 0 ∨ c = 1 ∨ c = 2 ∨ c = 3) with r | r | r | r <;> subst r <;> simp only [jq] <;> omega

set_option maxHeartbeats 1000000 in
set_option maxRecDepth 100000 in
theorem Join_any (v : Value) (n : Nat) (f : Nat → Int) (w : World) (hn : n ≤ 17592186044416) (hf : ∀ i, i < n → 0 ≤ f i ∧ f i < 65536) (hr : RdA .i64 w v n f) :
    Calls Try.prog 108 #[v] w fun e w' => ∃ v', e = .returned v' ∧ FrN w' w.heap.size v' (dv 65536 f n) ∧ Below w.heap.size w w' := by
  obtain ⟨a, cap, rfl, h1, h2, h3⟩ := wd_get hr
  have H3 := Lib.hid h3
  have HR := Lib.hid hr
  have HD := Lib.hid (dig_sz hf)
  have HB := Lib.hid hf
  have hle := sz_le f n
  obtain ⟨m, hm⟩ : ∃ m, m = sz f n := ⟨_, rfl⟩
  rw [← hm] at hle HD
  have HM := Lib.hid hm
  clear h3 hr hf hm
  obtain ⟨K, hK⟩ : ∃ K, K = m / 4 + 1 := ⟨_, rfl⟩
  have hKb : K ≤ 17592186044416 := by omega
  have mk : ∀ u : World, (Instr.makeSlice 54 (.int .i64 0) (.int .i64 ((m : Int) / 4 + 1))).run Try.prog u =
      .ok (.slice (some ⟨u.heap.size, 0, none⟩) 0 K) (u.alloc (.cells (madeCells #[.int .u64 0] K) 22)) := by
    rw [show (m : Int) / 4 + 1 = (K : Int) by omega]; exact mk_wds0 K hKb
  have HK := Lib.hid hK
  clear hK
  go_enter Try.func108, Try.ntmps108
  go_wp2_with (go_at_call 128; refine (trim_any _ _ _ f _ HR.out).mono ?_; rw [← HM.out]; rintro e w3 ⟨rfl, rfl⟩)
  have HO := Lib.hid (own_made w w.heap.size (.int .u64 0) K 22 (Nat.le_refl _) (by unfold maxLen; omega))
  have hb1 : Below w.heap.size w (w.alloc (.cells (madeCells #[.int .u64 0] K) 22)) := (Below.refl _ _).alloc (Nat.le_refl _) _
  clear mk
  generalize w.alloc (.cells (madeCells #[.int .u64 0] K) 22) = w1 at HO hb1 ⊢
  go_loopw [3, 4] (fun dv iv wr => ∃ t T : Nat, Hid (T = 4 * t) ∧ T < m + 4 ∧ iv = .int .i64 T ∧ wr.ownsRow w.heap.size 22 1 dv t ((List.range t).map fun i => .int .u64 (joi f m i)) ∧ Below w.heap.size w wr) (fun _ iv _ => m + 4 - (intOf iv).toNat)
  case atStart => exact ⟨0, 0, rfl, by omega, rfl, HO.out, hb1⟩
  case round =>
    clear HO hb1
    obtain ⟨t, T, HT, t1, rfl, hown, hbel⟩ := hrel
    obtain ⟨da, dc, rfl⟩ := own_slice hown
    have HO := Lib.hid hown
    clear hown
    by_cases ht : T < m
    · go_wp2_with fail
      go_loop [5, 6] (fun wv kv => ∃ c : Nat, c ≤ 4 ∧ kv = .int .i64 ((c : Int) - 1) ∧ wv = .int .u64 (jq f m t (4 - c))) (fun _ kv => (intOf kv + 1).toNat)
      case atStart => exact ⟨4, by omega, rfl, rfl⟩
      case round =>
        obtain ⟨c, c1, rfl, rfl⟩ := hrel
        rcases c with _ | j
        · rw [show 4 - 0 = 4 from rfl, jq_four]
          obtain ⟨y, hy⟩ : ∃ y, y = joi f m t := ⟨_, rfl⟩
          rw [← hy]
          have HY := Lib.hid hy
          have htb : t ≤ 4398046511104 := by have := HT.out; omega
          clear hy
          go_wp2_with (at_builtin; refine wp_push rfl _ _ 54 rfl Try.underlying54 infoW rfl HO.out rfl rfl rfl hbel.size (by omega) ?_)
          · intro v' w2 hown' hb2
            have hb2 : Below w.heap.size w w2 := hbel.trans hb2
            have HO' := Lib.hid hown'
            clear hown' hbel
            go_wp2_with fail
            go_roundw
            case rel =>
              refine ⟨t + 1, T + 4, ?_, by omega, by go_num, ?_, hb2⟩
              · show _ = _; have := HT.out; omega
              · rw [map_snoc, ← HY.out]; exact HO'.out
            case measure => simp [intOf]; omega
        · obtain ⟨y0, y1⟩ := jq_bd (fun i hi => HB.out i (show i < n by omega)) t (3 - j) (by omega) (m := m)
          have hs : Hid (jq f m t (4 - j) = jq f m t (4 - (j + 1)) * 65536 + (if T + j < m then f (T + j) else 0)) := by
            show _ = _
            rw [show 4 - j = (4 - (j + 1)) + 1 by omega, HT.out]
            show _ * 65536 + (if 4 * t + (3 - (4 - (j + 1))) < m then f (4 * t + (3 - (4 - (j + 1)))) else 0) = _
            rw [show 3 - (4 - (j + 1)) = j by omega]
          rw [show 3 - j = 4 - (j + 1) by omega] at y0 y1
          obtain ⟨y, hy⟩ : ∃ y, y = jq f m t (4 - (j + 1)) := ⟨_, rfl⟩
          rw [← hy] at y0 y1 hs ⊢
          clear hy
          by_cases hq : T + j < m
          · obtain ⟨b, o, rfl, hc⟩ := H3.out (T + j) (by omega)
            obtain ⟨x0, x1⟩ := HB.out (T + j) (by omega)
            rw [if_pos hq] at hs
            obtain ⟨x, hx⟩ : ∃ x, x = f (T + j) := ⟨_, rfl⟩
            rw [← hx] at hc x0 x1 hs
            have hc := cell_stays hbel hc
            have hq' : (T : Int) + j < m := by omega
            clear hx
            go_wp2_with fail
            go_round
            case rel => exact ⟨j, by omega, by go_num, by rw [hs.out]⟩
            case measure => simp [intOf]
          · rw [if_neg hq] at hs
            have hq' : ¬ (T : Int) + j < m := by omega
            go_wp2_with fail
            go_round
            case rel => exact ⟨j, by omega, by go_num, by rw [hs.out, Int.add_zero]⟩
            case measure => simp [intOf]
    · have hfr := own_fr HO.out (by have := HT.out; omega)
      have HF := Lib.hid hfr
      clear hfr
      go_wp2_with fail
      go_ret
      refine ⟨_, rfl, ⟨_, joi f m, HF.out, ?_⟩, hbel⟩
      exact Dig.join HD.out (by have := HT.out; omega) (by have := HT.out; omega)

theorem FrN.nat {w : World} {base : Nat} {v : Value} {N : Int} (h : FrN w base v N) : ∃ a n cap f, v = .slice a n cap ∧ FrA .u64 22 w base (.slice a n cap) n f ∧ Dig 18446744073709551616 n f N := by
  obtain ⟨n, f, h1, h2⟩ := h
  obtain ⟨a, cap, rfl⟩ := h1.slice
  exact ⟨a, n, cap, f, rfl, h1, h2⟩

set_option maxHeartbeats 400000 in
theorem Least01_any (v : Value) (n : Nat) (f : Nat → Int) (w : World) (hn : n ≤ 1099511627776) (hr : RdW w v n f) :
    Calls Try.prog 97 #[v] w fun e w' => ∃ v', e = .returned v' ∧ FrN w' w.heap.size v' (natFrom f 0 n) ∧ Below w.heap.size w w' := by
  have HR := Lib.hid hr
  have hlt : natFrom f 0 n < 65536 ^ (4 * n) := by
    rw [natFrom_dv0, Int.pow_mul]
    exact (dv_bd (by omega) (fun i hi => by have := hr.2 i hi; omega)).2
  have HL := Lib.hid hlt
  obtain ⟨a, cap, rfl, -⟩ := hr.1
  clear hr hlt
  go_enter Try.func97, Try.ntmps97
  go_wp2_with (first
    | (go_at_call 106; refine (Split_any _ n f _ hn HR.out).mono ?_; rintro e w1 ⟨v1, rfl, ⟨m, g, hfr, hdig⟩, hb1⟩; have hm : m ≤ 17592186044416 := (by have := hdig.len (by omega) HL.out; omega); have HFR := Lib.hid hfr; have HDG := Lib.hid hdig; clear hfr hdig)
    | (go_at_call 108; refine (Join_any _ m g _ hm HDG.out.bd HFR.out.read).mono ?_; rw [HDG.out.val]; rintro e w2 ⟨v2, rfl, hfn, hb2⟩))
  go_ret
  obtain ⟨a2, n2, cap2, f2, rfl, h1, h2⟩ := hfn.nat
  exact ⟨_, rfl, ⟨n2, f2, h1.mono hb1.size, h2⟩, hb1.trans (hb2.mono hb1.size)⟩

end Go.Proofs.Ytdlpemmoobbgnaa

namespace Go.Proofs.Ytdlpemmoobbgnaa
open Go.RowKit

/-- order of two numbers -/
def cmpZ (N M : Int) : Int := if N < M then -1 else if M < N then 1 else 0

set_option maxHeartbeats 1000000 in
set_option maxRecDepth 100000 in
theorem order_any (x y : Value) (n m : Nat) (f g : Nat → Int) (N M : Int) (w : World) (hx : RdA .i64 w x n f) (hy : RdA .i64 w y m g) (hf : Dig 65536 n f N) (hg : Dig 65536 m g M) :
    Calls Try.prog 109 #[x, y] w fun e w' => e = .returned (.int .i64 (cmpZ N M)) ∧ Below w.heap.size w w' := by
  obtain ⟨a, cap, rfl, h1, h2, h3⟩ := wd_get hx
  obtain ⟨b, cap', rfl, g1, g2, g3⟩ := wd_get hy
  have H3 := Lib.hid h3
  have G3 := Lib.hid g3
  have HF := Lib.hid hf
  have HG := Lib.hid hg
  clear h3 g3 hx hy hf hg
  by_cases hnm : n = m
  · subst hnm
    go_enter Try.func109, Try.ntmps109
    go_wp2_with fail
    go_loopw [5] (fun kv wr => ∃ k : Nat, k ≤ n ∧ Hid (∀ i, k ≤ i → i < n → f i = g i) ∧ kv = .int .i64 ((k : Int) - 1) ∧ Below w.heap.size w wr) (fun kv _ => (intOf kv + 1).toNat)
    case atStart => exact ⟨n, Nat.le_refl _, fun i h1 h2 => absurd h1 (by omega), rfl, Below.refl _ _⟩
    case round =>
      obtain ⟨k, k1, k2, rfl, hb⟩ := hrel
      rcases k with _ | j
      · have e : Hid (cmpZ N M = 0) := by
          have : N = M := by rw [← HF.out.val, ← HG.out.val]; exact dv_congr fun i hi => k2.out i (Nat.zero_le _) hi
          show _ = _; unfold cmpZ; rw [if_neg (by omega), if_neg (by omega)]
        go_wp2_with fail
        go_ret
        exact ⟨ret_i64 e.out.symm, hb⟩
      · obtain ⟨b1, o1, rfl, hc⟩ := H3.out j (by omega)
        obtain ⟨b2, o2, rfl, hd⟩ := G3.out j (by omega)
        obtain ⟨u, hu⟩ : ∃ u, u = f j := ⟨_, rfl⟩
        obtain ⟨v, hv⟩ : ∃ v, v = g j := ⟨_, rfl⟩
        rw [← hu] at hc
        rw [← hv] at hd
        have hc := cell_stays hb hc
        have hd := cell_stays hb hd
        have HU := Lib.hid hu
        have HV := Lib.hid hv
        clear hu hv
        rcases Int.lt_trichotomy u v with h | h | h
        · have e : Hid (cmpZ N M = -1) := by
            have : N < M := by rw [← HF.out.val, ← HG.out.val]; exact dv_lt (by omega) HF.out.bd HG.out.bd (k := j) (by omega) (fun i h1 h2 => k2.out i (by omega) h2) (by rw [← HU.out, ← HV.out]; exact h)
            show _ = _; unfold cmpZ; rw [if_pos this]
          go_wp2_with fail
          go_region
          all_goals
            go_wp2_with fail
            go_ret
            exact ⟨ret_i64 e.out.symm, hb.drew⟩
        · subst h
          go_wp2_with fail
          go_region
          all_goals
            go_wp2_with fail
            go_region
            all_goals
              go_wp2_with fail
              go_roundw
              case rel =>
                refine ⟨j, by omega, fun i h1 h2 => ?_, by go_num, hb.drew.drew⟩
                by_cases e : i = j
                · subst e; rw [← HU.out, ← HV.out]
                · exact k2.out i (by omega) h2
              case measure => simp [intOf]
        · have e : Hid (cmpZ N M = 1) := by
            have : M < N := by rw [← HF.out.val, ← HG.out.val]; exact dv_lt (by omega) HG.out.bd HF.out.bd (k := j) (by omega) (fun i h1 h2 => (k2.out i (by omega) h2).symm) (by rw [← HU.out, ← HV.out]; exact h)
            show _ = _; unfold cmpZ; rw [if_neg (by omega), if_pos this]
          go_wp2_with fail
          go_region
          all_goals
            go_wp2_with fail
            go_region
            all_goals
              go_wp2_with fail
              go_ret
              exact ⟨ret_i64 e.out.symm, hb.drew.drew⟩
  · have hne : ((n : Int) != m) = true := by rw [bne_iff_ne]; omega
    by_cases hlt : n < m
    · have e : Hid (cmpZ N M = -1) := by show _ = _; unfold cmpZ; rw [if_pos (HF.out.lt_of_len (by omega) HG.out hlt)]
      go_enter Try.func109, Try.ntmps109
      go_wp2_with fail
      go_ret
      exact ⟨ret_i64 e.out.symm, Below.refl _ _⟩
    · have e : Hid (cmpZ N M = 1) := by
        have := HG.out.lt_of_len (by omega) HF.out (by omega)
        show _ = _; unfold cmpZ; rw [if_neg (by omega), if_pos this]
      go_enter Try.func109, Try.ntmps109
      go_wp2_with fail
      go_ret
      exact ⟨ret_i64 e.out.symm, Below.refl _ _⟩

set_option maxHeartbeats 400000 in
theorem Cmp01_any (x y : Value) (n m : Nat) (f g : Nat → Int) (w : World) (hn : n ≤ 1099511627776) (hm : m ≤ 1099511627776) (hx : RdW w x n f) (hy : RdW w y m g) :
    Calls Try.prog 80 #[x, y] w fun e w' => e = .returned (.int .i64 (cmpZ (natFrom f 0 n) (natFrom g 0 m))) ∧ Below w.heap.size w w' := by
  have HX := Lib.hid hx
  have HY := Lib.hid hy
  obtain ⟨ax, cx, rfl, -⟩ := hx.1
  obtain ⟨ay, cy, rfl, -⟩ := hy.1
  clear hx hy
  go_enter Try.func80, Try.ntmps80
  go_wp2_with fail
  refine (Split_any _ n f _ hn HX.out).mono ?_
  rintro e w1 ⟨v1, rfl, ⟨p, f1, hf1, hd1⟩, hb1⟩
  obtain ⟨a1, c1, rfl⟩ := hf1.slice
  have HF1 := Lib.hid hf1
  have HD1 := Lib.hid hd1
  clear hf1 hd1
  go_wp2_with fail
  refine (Split_any _ m g _ hm (HY.out.below hb1)).mono ?_
  rintro e w2 ⟨v2, rfl, ⟨q, f2, hf2, hd2⟩, hb2⟩
  obtain ⟨a2, c2, rfl⟩ := hf2.slice
  have HF2 := Lib.hid hf2
  have HD2 := Lib.hid hd2
  clear hf2 hd2
  go_wp2_with (go_at_call 109; refine (order_any _ _ _ _ _ _ _ _ _ (HF1.out.below hb2).read HF2.out.read HD1.out HD2.out).mono ?_; rintro e w3 ⟨rfl, hb3⟩)
  go_ret
  have hb12 := hb1.trans (hb2.mono hb1.size)
  exact ⟨rfl, hb12.trans (hb3.mono hb12.size)⟩

theorem FrA.off {k : IntKind} {e : TypeId} {w : World} {base : Nat} {v : Value} {n : Nat} {f : Nat → Int} (h : FrA k e w base v n f) : v.ownBlock = none ∨ v.ownBlock ≠ some w.heap.size := by
  cases hv : v.ownBlock with
  | none => exact Or.inl rfl
  | some b => right; have := (h.lt hv).2; intro e; injection e with e; omega

/-- digits, followed by zeros -/
def zx (f : Nat → Int) (n i : Nat) : Int := if i < n then f i else 0
theorem zx_bd {B : Int} (hB : 0 < B) {f : Nat → Int} {n : Nat} (h : ∀ i, i < n → 0 ≤ f i ∧ f i < B) (i : Nat) : 0 ≤ zx f n i ∧ zx f n i < B := by
  unfold zx; split
  · exact h i (by assumption)
  · omega
theorem zx_dv {B : Int} {f : Nat → Int} {n m : Nat} (h : n ≤ m) : dv B (zx f n) m = dv B f n := by
  rw [dv_more (f := zx f n) h (fun i hi _ => if_neg (by omega))]
  exact dv_congr fun i hi => if_pos hi

set_option maxHeartbeats 400000 in
theorem at_any (x : Value) (n k : Nat) (f : Nat → Int) (w : World) (hx : RdA .i64 w x n f) (hk : k ≤ 17592186044416) :
    Calls Try.prog 107 #[x, .int .i64 k] w fun e w' => e = .returned (.int .i64 (zx f n k)) ∧ w = w' := by
  obtain ⟨a, cap, rfl, h1, h2, h3⟩ := wd_get hx
  by_cases hkn : k < n
  · obtain ⟨b1, o1, rfl, hc⟩ := h3 k hkn
    have e : Hid (zx f n k = f k) := if_pos hkn
    obtain ⟨u, hu⟩ : ∃ u, u = f k := ⟨_, rfl⟩
    rw [← hu] at hc e
    clear hu h3 hx
    go_enter Try.func107, Try.ntmps107
    go_wp2_with fail
    go_ret
    exact ⟨ret_i64 e.out.symm, rfl⟩
  · have e : Hid (zx f n k = 0) := if_neg hkn
    clear h3 hx
    go_enter Try.func107, Try.ntmps107
    go_wp2_with fail
    go_ret
    exact ⟨ret_i64 e.out.symm, rfl⟩

/-- the carries and digits of a sum -/
def ca (X Y : Nat → Int) : Nat → Int
  | 0 => 0
  | i + 1 => (X i + Y i + ca X Y i) / 65536
def sd (X Y : Nat → Int) (i : Nat) : Int := (X i + Y i + ca X Y i) % 65536
theorem ca_bd {X Y : Nat → Int} (hX : ∀ i, 0 ≤ X i ∧ X i < 65536) (hY : ∀ i, 0 ≤ Y i ∧ Y i < 65536) : ∀ i, 0 ≤ ca X Y i ∧ ca X Y i ≤ 1
  | 0 => by simp [ca]
  | i + 1 => by
    have := ca_bd hX hY i
    have := hX i
    have := hY i
    simp only [ca]; omega
theorem ca_dv (X Y : Nat → Int) : ∀ i, dv 65536 (sd X Y) i + ca X Y i * 65536 ^ i = dv 65536 X i + dv 65536 Y i
  | 0 => by simp [dv, ca]
  | i + 1 => by
    have ih := ca_dv X Y i
    simp only [dv, ca, Int.pow_succ]
    have e : sd X Y i = X i + Y i + ca X Y i - 65536 * ((X i + Y i + ca X Y i) / 65536) := by unfold sd; omega
    rw [e]
    obtain ⟨q, hq⟩ : ∃ q, q = (X i + Y i + ca X Y i) / 65536 := ⟨_, rfl⟩
    rw [← hq]
    grind

/-- the row of a sum of n places: j of them done -/
theorem sum_last {X Y : Nat → Int} {n : Nat} {F : Nat → Int} (h1 : ∀ i, i < n → F i = sd X Y i) (h2 : F n = ca X Y n) : dv 65536 F (n + 1) = dv 65536 X n + dv 65536 Y n := by
  simp only [dv]
  rw [dv_congr h1, h2, ca_dv]

set_option maxHeartbeats 1000000 in
set_option maxRecDepth 100000 in
theorem Add01_any (x y : Value) (n m : Nat) (f g : Nat → Int) (w : World) (hn : n ≤ 1099511627776) (hm : m ≤ 1099511627776) (hx : RdW w x n f) (hy : RdW w y m g) :
    Calls Try.prog 79 #[x, y] w fun e w' => ∃ v, e = .returned v ∧ FrN w' w.heap.size v (natFrom f 0 n + natFrom g 0 m) ∧ Below w.heap.size w w' := by
  have HX := Lib.hid hx
  have HY := Lib.hid hy
  have lt1 : natFrom f 0 n < 65536 ^ (4 * n) := by
    rw [natFrom_dv0, Int.pow_mul]; exact (dv_bd (by omega) (fun i hi => by have := hx.2 i hi; omega)).2
  have lt2 : natFrom g 0 m < 65536 ^ (4 * m) := by
    rw [natFrom_dv0, Int.pow_mul]; exact (dv_bd (by omega) (fun i hi => by have := hy.2 i hi; omega)).2
  have HL1 := Lib.hid lt1
  have HL2 := Lib.hid lt2
  obtain ⟨ax, cx, rfl, -⟩ := hx.1
  obtain ⟨ay, cy, rfl, -⟩ := hy.1
  clear hx hy lt1 lt2
  go_enter Try.func79, Try.ntmps79
  go_wp2_with fail
  refine (Split_any _ n f _ hn HX.out).mono ?_
  rintro e w1 ⟨v1, rfl, ⟨p, f1, hf1, hd1⟩, hb1⟩
  have hp : p ≤ 4 * n := hd1.len (by omega) HL1.out
  obtain ⟨a1, k1, rfl⟩ := hf1.slice
  have HF1 := Lib.hid hf1
  have HD1 := Lib.hid hd1
  clear hf1 hd1
  go_wp2_with fail
  refine (Split_any _ m g _ hm (HY.out.below hb1)).mono ?_
  rintro e w2 ⟨v2, rfl, ⟨q, f2, hf2, hd2⟩, hb2⟩
  have hq : q ≤ 4 * m := hd2.len (by omega) HL2.out
  obtain ⟨a2, k2, rfl⟩ := hf2.slice
  have HF1 := Lib.hid (HF1.out.below hb2)
  have HF2 := Lib.hid hf2
  have HD2 := Lib.hid hd2
  have hb12 : Below w.heap.size w w2 := hb1.trans (hb2.mono hb1.size)
  have HB := Lib.hid hb12
  have hs1 := hb1.size
  clear hf2 hd2 hb1 hb2 hb12
  obtain ⟨s, hs⟩ : ∃ s, s = max p q := ⟨_, rfl⟩
  have hsp : p ≤ s := by omega
  have hsq : q ≤ s := by omega
  have hsb : s ≤ 8796093022208 := by omega
  have HS := Lib.hid hs
  clear hs
  go_upto_if 21 with fail
  go_cut [7] (fun nv wx => nv = .int .i64 s ∧ w2 = wx)
  case first =>
    by_cases h : p < q
    · go_wp2_with fail
      go_meet
      exact ⟨by rw [show s = q by have := HS.out; omega], rfl⟩
    · go_wp2_with fail
      go_meet
      exact ⟨by rw [show s = p by have := HS.out; omega], rfl⟩
  case rest =>
    obtain ⟨rfl, rfl⟩ := hcut
    have mk : ∀ u : World, (Instr.makeSlice 45 (.int .i64 ((s : Int) + 1)) (.int .i64 ((s : Int) + 1))).run Try.prog u =
        .ok (.slice (some ⟨u.heap.size, 0, none⟩) (s + 1) (s + 1)) (u.alloc (.cells (madeCells #[.int .i64 0] (s + 1)) 3)) := by
      rw [show (s : Int) + 1 = ((s + 1 : Nat) : Int) by omega]; exact mk_nums (s + 1) (s + 1) (Nat.le_refl _) (by omega)
    go_wp2_with fail
    have hr0 := (CellsAt.row (f := fun _ => 0) (CellsAt.made w2 (.int .i64 0) (s + 1) 3))
    have hg0 := World.grownBy_alloc w2 (.cells (madeCells #[.int .i64 0] (s + 1)) 3) (some w2.heap.size)
    obtain ⟨db, hdb⟩ : ∃ db, db = w2.heap.size := ⟨_, rfl⟩
    have hdw : w.heap.size ≤ db := by rw [hdb]; exact HB.out.size
    have hof1 := HF1.out.off
    have hof2 := HF2.out.off
    rw [← hdb] at hr0 hg0 hof1 hof2 ⊢
    have HR0 := Lib.hid hr0
    have HG0 := Lib.hid hg0
    have HOF := Lib.hid (And.intro hof1 hof2)
    have hX := zx_bd (by omega) HD1.out.bd
    have hY := zx_bd (by omega) HD2.out.bd
    have hval : dv 65536 (zx f1 p) s + dv 65536 (zx f2 q) s = natFrom f 0 n + natFrom g 0 m := by rw [zx_dv hsp, zx_dv hsq, HD1.out.val, HD2.out.val]
    have HCA := Lib.hid (ca_bd hX hY)
    have hat1 := fun (wr : World) (hg : w2.grownBy wr (some db)) (j : Nat) (hj : j ≤ 17592186044416) => at_any _ p j f1 wr (HF1.out.grown hg hof1).read hj
    have hat2 := fun (wr : World) (hg : w2.grownBy wr (some db)) (j : Nat) (hj : j ≤ 17592186044416) => at_any _ q j f2 wr (HF2.out.grown hg hof2).read hj
    obtain ⟨X, hXe⟩ : ∃ X, X = zx f1 p := ⟨_, rfl⟩
    obtain ⟨Y, hYe⟩ : ∃ Y, Y = zx f2 q := ⟨_, rfl⟩
    rw [← hXe] at hX hval HCA hat1
    rw [← hYe] at hY hval HCA hat2
    have HX' := Lib.hid hX
    have HY' := Lib.hid hY
    have HV := Lib.hid hval
    have HA1 := Lib.hid hat1
    have HA2 := Lib.hid hat2
    clear hr0 hg0 hof1 hof2 hX hY hval hat1 hat2 hXe hYe mk hdb
    generalize w2.alloc (.cells (madeCells #[.int .i64 0] (s + 1)) 3) = w4 at HR0 HG0 ⊢
    go_loopw [9, 10] (fun cv iv wr => ∃ j : Nat, j ≤ s ∧ iv = .int .i64 j ∧ cv = .int .i64 (ca X Y j) ∧ RowAt .i64 wr db 0 (s + 1) (fun i => if i < j then sd X Y i else 0) ∧ w2.grownBy wr (some db)) (fun _ iv _ => s - (intOf iv).toNat)
    case atStart => exact ⟨0, Nat.zero_le _, rfl, rfl, HR0.out.congr fun i _ => (if_neg (by omega)).symm, HG0.out⟩
    case round =>
      clear HR0 HG0
      obtain ⟨j, j1, rfl, rfl, hrow, hgr⟩ := hrel
      obtain ⟨c0, c1⟩ := HCA.out j
      obtain ⟨c, hc⟩ : ∃ c, c = ca X Y j := ⟨_, rfl⟩
      rw [← hc] at c0 c1 ⊢
      have HC := Lib.hid hc
      clear hc
      by_cases hj : j < s
      · obtain ⟨d1, d2⟩ := hrow.get0 (i := j) (by omega) (x := 0) (if_neg (by omega))
        have q1 := HA1.out wr hgr j (by omega)
        have q2 := HA2.out wr hgr j (by omega)
        obtain ⟨x0, x1⟩ := HX'.out j
        obtain ⟨y0, y1⟩ := HY'.out j
        have hsd : Hid (sd X Y j = (X j + Y j + c) % 65536) := by show _ = _; rw [HC.out]; rfl
        have hca : Hid (ca X Y (j + 1) = (X j + Y j + c) / 65536) := by show _ = _; rw [HC.out]; rfl
        obtain ⟨xj, hxj⟩ : ∃ xj, xj = X j := ⟨_, rfl⟩
        obtain ⟨yj, hyj⟩ : ∃ yj, yj = Y j := ⟨_, rfl⟩
        rw [← hxj] at q1 x0 x1 hsd hca
        rw [← hyj] at q2 y0 y1 hsd hca
        have Q1 := Lib.hid q1
        have Q2 := Lib.hid q2
        have HROW := Lib.hid hrow
        clear q1 q2 hxj hyj hrow
        go_wp2_with (go_at_call 107; first | ((with_reducible refine Q1.out.mono ?_); rintro e w5 ⟨rfl, rfl⟩) | ((with_reducible refine Q2.out.mono ?_); rintro e w5 ⟨rfl, rfl⟩))
        go_roundw
        case rel =>
          refine ⟨j + 1, by omega, by go_num, by rw [hca.out], (HROW.out.set0 (by omega) _).congr fun i _ => ?_, gb_trans hgr (gb_set _ _ _)⟩
          by_cases e : i = j
          · rw [if_pos e, if_pos (by omega), e, hsd.out]
          · rw [if_neg e]
            by_cases e2 : i < j
            · rw [if_pos e2, if_pos (by omega)]
            · rw [if_neg e2, if_neg (by omega)]
        case measure => simp [intOf]; omega
      · obtain rfl : j = s := by omega
        obtain ⟨d1, d2⟩ := hrow.get0 (i := j) (by omega) (x := 0) (if_neg (by omega))
        have hr5 := hrow.set0 (j := j) (by omega) c
        have hg5 := gb_trans hgr (gb_set wr ⟨db, j, none⟩ (.int .i64 c))
        have hd : ∀ i, i < j + 1 → 0 ≤ (if i = j then c else if i < j then sd X Y i else 0) ∧ (if i = j then c else if i < j then sd X Y i else 0) < 65536 := fun i _ => by
          have : 0 ≤ sd X Y i ∧ sd X Y i < 65536 := by unfold sd; omega
          split
          · omega
          · split <;> omega
        have hsum : dv 65536 (fun i => if i = j then c else if i < j then sd X Y i else 0) (j + 1) = natFrom f 0 n + natFrom g 0 m := by
          rw [sum_last (X := X) (Y := Y) (fun i hi => by rw [if_neg (by omega), if_pos hi]) (by rw [if_pos rfl, HC.out]), HV.out]
        have hb5 := HB.out.grown hg5 HB.out.size (fun k hk => by injection hk with hk; omega)
        have hread : RdA .i64 (wr.setCell ⟨db, j, none⟩ (.int .i64 c)) (.slice (some ⟨db, 0, none⟩) (j + 1) (j + 1)) (j + 1) (fun i => if i = j then c else if i < j then sd X Y i else 0) :=
          ⟨_, j + 1, rfl, Nat.le_refl _, by omega, fun _ => ⟨db, 0, rfl, fun i hi => (hr5 i hi).1⟩⟩
        have HD := Lib.hid hd
        have HSM := Lib.hid hsum
        have HRD := Lib.hid hread
        have HB5 := Lib.hid hb5
        clear hr5 hg5 hd hsum hread hb5 hrow
        go_wp2_with fail
        refine (Join_any _ (j + 1) _ _ (by omega) HD.out HRD.out).mono ?_
        rw [HSM.out]
        rintro e w6 ⟨v6, rfl, hfn, hb6⟩
        obtain ⟨a6, n6, cap6, f6, rfl, h1, h2⟩ := hfn.nat
        have H1 := Lib.hid (h1.mono HB5.out.size)
        have H2 := Lib.hid h2
        clear h1 h2 hfn
        go_wp2_with fail
        go_ret
        exact ⟨_, rfl, ⟨n6, f6, H1.out, H2.out⟩, HB5.out.trans (hb6.mono HB5.out.size)⟩

end Go.Proofs.Ytdlpemmoobbgnaa

namespace Go.Proofs.Ytdlpemmoobbgnaa
open Go.RowKit

/-- the borrows and digits of a difference -/
def bw (X Y : Nat → Int) : Nat → Int
  | 0 => 0
  | i + 1 => if X i - Y i - bw X Y i < 0 then 1 else 0
def dd (X Y : Nat → Int) (i : Nat) : Int := if X i - Y i - bw X Y i < 0 then X i - Y i - bw X Y i + 65536 else X i - Y i - bw X Y i
theorem bw_bd (X Y : Nat → Int) : ∀ i, 0 ≤ bw X Y i ∧ bw X Y i ≤ 1
  | 0 => by simp [bw]
  | i + 1 => by simp only [bw]; split <;> omega
theorem bw_dv (X Y : Nat → Int) : ∀ i, dv 65536 (dd X Y) i - bw X Y i * 65536 ^ i = dv 65536 X i - dv 65536 Y i
  | 0 => by simp [dv, bw]
  | i + 1 => by
    have ih := bw_dv X Y i
    simp only [dv, bw, dd, Int.pow_succ]
    split <;> grind
theorem dd_bd {X Y : Nat → Int} (hX : ∀ i, 0 ≤ X i ∧ X i < 65536) (hY : ∀ i, 0 ≤ Y i ∧ Y i < 65536) (i : Nat) : 0 ≤ dd X Y i ∧ dd X Y i < 65536 := by
  have := bw_bd X Y i
  have := hX i
  have := hY i
  unfold dd; split <;> omega
/-- at the end nothing is lent -/
theorem bw_last {X Y : Nat → Int} (hX : ∀ i, 0 ≤ X i ∧ X i < 65536) (hY : ∀ i, 0 ≤ Y i ∧ Y i < 65536) {n : Nat} (h : dv 65536 Y n ≤ dv 65536 X n) : dv 65536 (dd X Y) n = dv 65536 X n - dv 65536 Y n := by
  have h1 := bw_dv X Y n
  have h2 := dv_bd (B := 65536) (by omega) (n := n) (fun i _ => dd_bd hX hY i)
  have h3 := bw_bd X Y n
  rcases (by omega : bw X Y n = 0 ∨ bw X Y n = 1) with r | r
  · rw [r, Int.zero_mul] at h1; omega
  · rw [r, Int.one_mul] at h1; omega

/-- a number is no longer than a greater one -/
theorem Dig.len_le {B : Int} (hB : 1 < B) {n m : Nat} {f g : Nat → Int} {N M : Int} (h : Dig B n f N) (h' : Dig B m g M) (hl : N ≤ M) : n ≤ m :=
  h.len hB (Int.lt_of_le_of_lt hl (h'.lt (by omega)))

set_option maxHeartbeats 1000000 in
set_option maxRecDepth 100000 in
theorem Sub01_any (x y : Value) (n m : Nat) (f g : Nat → Int) (w : World) (hn : n ≤ 1099511627776) (hm : m ≤ 1099511627776) (hle : natFrom g 0 m ≤ natFrom f 0 n) (hx : RdW w x n f) (hy : RdW w y m g) :
    Calls Try.prog 81 #[x, y] w fun e w' => ∃ v, e = .returned (.tuple #[v, .int .i64 0]) ∧ FrN w' w.heap.size v (natFrom f 0 n - natFrom g 0 m) ∧ Below w.heap.size w w' := by
  have HX := Lib.hid hx
  have HY := Lib.hid hy
  have lt1 : natFrom f 0 n < 65536 ^ (4 * n) := by
    rw [natFrom_dv0, Int.pow_mul]; exact (dv_bd (by omega) (fun i hi => by have := hx.2 i hi; omega)).2
  have HL1 := Lib.hid lt1
  have HLE := Lib.hid hle
  have hcmp : (cmpZ (natFrom f 0 n) (natFrom g 0 m) < 0) = False := by
    simp only [eq_iff_iff, iff_false]; unfold cmpZ; split
    · omega
    · split <;> omega
  have hc0 : 0 ≤ cmpZ (natFrom f 0 n) (natFrom g 0 m) := by simpa using hcmp
  obtain ⟨ax, cx, rfl, -⟩ := hx.1
  obtain ⟨ay, cy, rfl, -⟩ := hy.1
  clear hx hy lt1 hle hcmp
  go_enter Try.func81, Try.ntmps81
  go_wp2_with fail
  refine (Split_any _ n f _ hn HX.out).mono ?_
  rintro e w1 ⟨v1, rfl, ⟨p, f1, hf1, hd1⟩, hb1⟩
  have hp : p ≤ 4 * n := hd1.len (by omega) HL1.out
  obtain ⟨a1, k1, rfl⟩ := hf1.slice
  have HF1 := Lib.hid hf1
  have HD1 := Lib.hid hd1
  clear hf1 hd1
  go_wp2_with fail
  refine (Split_any _ m g _ hm (HY.out.below hb1)).mono ?_
  rintro e w2 ⟨v2, rfl, ⟨q, f2, hf2, hd2⟩, hb2⟩
  have hq : q ≤ p := hd2.len_le (by omega) HD1.out HLE.out
  obtain ⟨a2, k2, rfl⟩ := hf2.slice
  have HF1 := Lib.hid (HF1.out.below hb2)
  have HF2 := Lib.hid hf2
  have HD2 := Lib.hid hd2
  have hb12 : Below w.heap.size w w2 := hb1.trans (hb2.mono hb1.size)
  have HB := Lib.hid hb12
  have hs1 := hb1.size
  obtain ⟨cc, hcc⟩ : ∃ cc, cc = cmpZ (natFrom f 0 n) (natFrom g 0 m) := ⟨_, rfl⟩
  have hord := order_any _ _ _ _ _ _ _ _ _ HF1.out.read hf2.read HD1.out hd2
  rw [← hcc] at hord hc0
  have HORD := Lib.hid hord
  clear hf2 hd2 hb1 hb2 hb12 hord hcc
  have mk := mk_nums p p (Nat.le_refl _) (by omega)
  go_wp2_with (go_at_call 109; refine HORD.out.mono ?_; rintro e w3 ⟨rfl, hb3⟩)
  have hbw3 := HB.out.trans (hb3.mono HB.out.size)
  have HF1 := Lib.hid (HF1.out.below hb3)
  have HF2 := Lib.hid (HF2.out.below hb3)
  have HB := Lib.hid hbw3
  clear hbw3 hb3
  have hr0 := (CellsAt.row (f := fun _ => 0) (CellsAt.made w3 (.int .i64 0) p 3))
  have hg0 := World.grownBy_alloc w3 (.cells (madeCells #[.int .i64 0] p) 3) (some w3.heap.size)
  obtain ⟨db, hdb⟩ : ∃ db, db = w3.heap.size := ⟨_, rfl⟩
  have hdw : w.heap.size ≤ db := by rw [hdb]; exact HB.out.size
  have hof1 := HF1.out.off
  have hof2 := HF2.out.off
  rw [← hdb] at hr0 hg0 hof1 hof2 ⊢
  have HR0 := Lib.hid hr0
  have HG0 := Lib.hid hg0
  have hX := zx_bd (by omega) HD1.out.bd
  have hY := zx_bd (by omega) HD2.out.bd
  have hv1 : dv 65536 (zx f1 p) p = natFrom f 0 n := by rw [zx_dv (Nat.le_refl _), HD1.out.val]
  have hv2 : dv 65536 (zx f2 q) p = natFrom g 0 m := by rw [zx_dv hq, HD2.out.val]
  have hval := bw_last hX hY (n := p) (by rw [hv1, hv2]; exact HLE.out)
  rw [hv1, hv2] at hval
  have hat1 := fun (wr : World) (hg : w3.grownBy wr (some db)) (j : Nat) (hj : j < p) => wd_get (HF1.out.grown hg hof1).read
  have hat2 := fun (wr : World) (hg : w3.grownBy wr (some db)) (j : Nat) (hj : j ≤ 17592186044416) => at_any _ q j f2 wr (HF2.out.grown hg hof2).read hj
  have hzx : ∀ j, j < p → zx f1 p j = f1 j := fun j hj => if_pos hj
  obtain ⟨X, hXe⟩ : ∃ X, X = zx f1 p := ⟨_, rfl⟩
  obtain ⟨Y, hYe⟩ : ∃ Y, Y = zx f2 q := ⟨_, rfl⟩
  rw [← hXe] at hX hval hzx
  rw [← hYe] at hY hval hat2
  have HX' := Lib.hid hX
  have HY' := Lib.hid hY
  have HV := Lib.hid hval
  have HA1 := Lib.hid hat1
  have HA2 := Lib.hid hat2
  have HZX := Lib.hid hzx
  clear hr0 hg0 hof1 hof2 hX hY hval hat1 hat2 hXe hYe mk hdb hv1 hv2 hzx
  generalize w3.alloc (.cells (madeCells #[.int .i64 0] p) 3) = w4 at HR0 HG0 ⊢
  go_loopw [9, 10] (fun cv iv wr => ∃ j : Nat, j ≤ p ∧ iv = .int .i64 j ∧ cv = .int .i64 (bw X Y j) ∧ RowAt .i64 wr db 0 p (fun i => if i < j then dd X Y i else 0) ∧ w3.grownBy wr (some db)) (fun _ iv _ => p - (intOf iv).toNat)
  case atStart => exact ⟨0, Nat.zero_le _, rfl, rfl, HR0.out.congr fun i _ => (if_neg (by omega)).symm, HG0.out⟩
  case round =>
    clear HR0 HG0
    obtain ⟨j, j1, rfl, rfl, hrow, hgr⟩ := hrel
    obtain ⟨c0, c1⟩ := bw_bd X Y j
    obtain ⟨c, hc⟩ : ∃ c, c = bw X Y j := ⟨_, rfl⟩
    rw [← hc] at c0 c1 ⊢
    have HC := Lib.hid hc
    clear hc
    by_cases hj : j < p
    · obtain ⟨d1, d2⟩ := hrow.get0 (i := j) (by omega) (x := 0) (if_neg (by omega))
      obtain ⟨_, _, e1, -, -, hcell⟩ := HA1.out wr hgr j hj
      simp only [Value.slice.injEq, true_and] at e1
      obtain ⟨b1, o1, rfl, hcl⟩ := hcell j hj
      obtain ⟨rfl, rfl⟩ := e1
      have q2 : ∀ N, Calls Try.prog 107 #[.slice a2 q k2, .int .i64 j] (wr.drewN N) fun e w' => e = .returned (.int .i64 (Y j)) ∧ w' = wr.drewN N := fun N => (HA2.out _ (gb_trans hgr (gb_drewN _ _ _)) j (by omega)).mono fun _ _ h => ⟨h.1, h.2.symm⟩
      obtain ⟨x0, x1⟩ := HX'.out j
      obtain ⟨y0, y1⟩ := HY'.out j
      rw [← HZX.out j hj] at hcl
      have hdd : Hid (dd X Y j = if X j - Y j - c < 0 then X j - Y j - c + 65536 else X j - Y j - c) := by show _ = _; rw [HC.out]; rfl
      have hbw : Hid (bw X Y (j + 1) = if X j - Y j - c < 0 then 1 else 0) := by show _ = _; rw [HC.out]; rfl
      obtain ⟨xj, hxj⟩ : ∃ xj, xj = X j := ⟨_, rfl⟩
      obtain ⟨yj, hyj⟩ : ∃ yj, yj = Y j := ⟨_, rfl⟩
      rw [← hxj] at hcl x0 x1 hdd hbw
      rw [← hyj] at q2 y0 y1 hdd hbw
      have Q2 := Lib.hid q2
      have HROW := Lib.hid hrow
      clear q2 hxj hyj hrow hcell
      have hfill : ∀ (v : Int) (wx : World) (N : Nat), Hid (dd X Y j = v) → wx = wr.drewN N → RowAt .i64 (wx.setCell ⟨db, j, none⟩ (.int .i64 v)) db 0 p (fun i => if i < j + 1 then dd X Y i else 0) ∧ w3.grownBy (wx.setCell ⟨db, j, none⟩ (.int .i64 v)) (some db) := by
        rintro v wx N hv rfl
        refine ⟨(RowAt.set0 (w := wr.drewN N) (HROW.out.block rfl) hj _).congr fun i _ => ?_, gb_trans hgr (gb_trans (gb_drewN _ _ _) (gb_set _ _ _))⟩
        by_cases e : i = j
        · rw [if_pos e, if_pos (by omega), e, hv.out]
        · rw [if_neg e]
          by_cases e2 : i < j
          · rw [if_pos e2, if_pos (by omega)]
          · rw [if_neg e2, if_neg (by omega)]
      have HFILL := Lib.hid hfill
      clear hfill
      by_cases hneg : xj - yj - c < 0
      · rw [if_pos hneg] at hdd hbw
        go_wp2_with fail
        go_quiet ((go_at_call 107; exact Calls.quiet_of_same (Q2.out _)))
        have hF := HFILL.out (xj - yj - c + 65536) _ nq (by show _ = _; exact hdd.out) rfl
        have HFF := Lib.hid hF
        clear hF
        go_wp2_with fail
        go_roundw
        case rel => exact ⟨j + 1, by omega, by go_num, by rw [hbw.out], HFF.out.1, HFF.out.2⟩
        case measure => simp [intOf]; omega
      · rw [if_neg hneg] at hdd hbw
        go_wp2_with fail
        go_quiet ((go_at_call 107; exact Calls.quiet_of_same (Q2.out _)))
        have hF := HFILL.out (xj - yj - c) _ nq (by show _ = _; exact hdd.out) rfl
        have HFF := Lib.hid hF
        clear hF
        go_wp2_with fail
        go_roundw
        case rel => exact ⟨j + 1, by omega, by go_num, by rw [hbw.out], HFF.out.1, HFF.out.2⟩
        case measure => simp [intOf]; omega
    · obtain rfl : j = p := by omega
      have hd : ∀ i, i < j → 0 ≤ (if i < j then dd X Y i else 0) ∧ (if i < j then dd X Y i else 0) < 65536 := fun i hi => by
        rw [if_pos hi]; exact dd_bd HX'.out HY'.out i
      have hsum : dv 65536 (fun i => if i < j then dd X Y i else 0) j = natFrom f 0 n - natFrom g 0 m := by
        rw [dv_congr (g := dd X Y) (fun i hi => if_pos hi), HV.out]
      have hb5 := HB.out.grown hgr HB.out.size (fun k hk => by injection hk with hk; omega)
      have hread : RdA .i64 wr (.slice (some ⟨db, 0, none⟩) j j) j (fun i => if i < j then dd X Y i else 0) :=
        ⟨_, j, rfl, Nat.le_refl _, by omega, fun _ => ⟨db, 0, rfl, fun i hi => (hrow i hi).1⟩⟩
      have HD := Lib.hid hd
      have HSM := Lib.hid hsum
      have HRD := Lib.hid hread
      have HB5 := Lib.hid hb5
      clear hd hsum hread hb5 hrow
      go_wp2_with fail
      refine (Join_any _ j _ _ (by omega) HD.out HRD.out).mono ?_
      rw [HSM.out]
      rintro e w6 ⟨v6, rfl, hfn, hb6⟩
      obtain ⟨a6, n6, cap6, f6, rfl, h1, h2⟩ := hfn.nat
      have H1 := Lib.hid (h1.mono HB5.out.size)
      have H2 := Lib.hid h2
      clear h1 h2 hfn
      go_wp2_with fail
      go_ret2
      exact ⟨_, rfl, ⟨n6, f6, H1.out, H2.out⟩, HB5.out.trans (hb6.mono HB5.out.size)⟩

end Go.Proofs.Ytdlpemmoobbgnaa

namespace Go.Proofs.Ytdlpemmoobbgnaa
open Go.RowKit

/-- the value v reads as the integer z -/
def RdZ (w : World) (v : Value) (z : Int) : Prop := ∃ r : Raw, RdI w v r ∧ r.val = z ∧ r.n ≤ 274877906944
/-- v is the integer z in least form, its words in a block of their own from base on -/
def FrZ (w : World) (base : Nat) (v : Value) (z : Int) : Prop := ∃ m n f, v = .agg #[.bool (decide (z < 0)), m] ∧ FrA .u64 22 w base m n f ∧ Dig 18446744073709551616 n f (z.natAbs : Int)
/-- the size of z takes at most S words -/
def ZB (S : Nat) (z : Int) : Prop := (z.natAbs : Int) < 18446744073709551616 ^ S

theorem Dig.words {n : Nat} {f : Nat → Int} {N : Int} (h : Dig 18446744073709551616 n f N) : Words n f := fun i hi => by have := h.bd i hi; omega
theorem words_bd {n : Nat} {f : Nat → Int} (h : Words n f) : ∀ i, i < n → 0 ≤ f i ∧ f i < 18446744073709551616 := fun i hi => by have := h i hi; omega
theorem natFrom_bd {n : Nat} {f : Nat → Int} (h : Words n f) : 0 ≤ natFrom f 0 n ∧ natFrom f 0 n < 18446744073709551616 ^ n := by
  rw [natFrom_dv0]; exact dv_bd (by omega) (words_bd h)

theorem ZB.mono {S T : Nat} {z : Int} (h : ZB S z) (hST : S ≤ T) : ZB T z := Int.lt_of_lt_of_le h (pow_le' (by omega) hST)
theorem RdI.zb {w : World} {v : Value} {r : Raw} (h : RdI w v r) : ZB r.n r.val := by
  obtain ⟨m, _, h⟩ := h
  have := natFrom_bd h.2
  unfold ZB Raw.val Raw.mag
  split <;> omega
theorem ZB.add {S T : Nat} {x y : Int} (hx : ZB S x) (hy : ZB T y) : ZB (S + T + 1) (x + y) := by
  unfold ZB at *
  have h1 := pow_le' (B := 18446744073709551616) (by omega) (show S ≤ S + T by omega)
  have h2 := pow_le' (B := 18446744073709551616) (by omega) (show T ≤ S + T by omega)
  have h3 : (18446744073709551616 : Int) ^ (S + T + 1) = 18446744073709551616 ^ (S + T) * 18446744073709551616 := Int.pow_succ _ _
  omega
theorem ZB.neg {S : Nat} {x : Int} (hx : ZB S x) : ZB S (-x) := by unfold ZB at *; rw [Int.natAbs_neg]; exact hx
theorem ZB.mul {S T : Nat} {x y : Int} (hx : ZB S x) (hy : ZB T y) : ZB (S + T) (x * y) := by
  unfold ZB at *
  rw [Int.natAbs_mul, Int.pow_add]
  push_cast
  have h1 := pow_pos' (show (0 : Int) < 18446744073709551616 by omega) S
  have h2 : (x.natAbs : Int) * y.natAbs ≤ x.natAbs * 18446744073709551616 ^ T := Int.mul_le_mul_of_nonneg_left (by omega) (by omega)
  have h3 : (x.natAbs : Int) * 18446744073709551616 ^ T < 18446744073709551616 ^ S * 18446744073709551616 ^ T := Int.mul_lt_mul_of_pos_right hx (pow_pos' (by omega) T)
  omega

theorem FrZ.rd {w : World} {base : Nat} {v : Value} {z : Int} (h : FrZ w base v z) {S : Nat} (hz : ZB S z) (hS : S ≤ 274877906944) : RdZ w v z := by
  obtain ⟨m, n, f, rfl, h1, h2⟩ := h
  have hn : n ≤ S := h2.len (by omega) hz
  refine ⟨⟨decide (z < 0), n, f⟩, ⟨m, rfl, h1.read, h2.words⟩, ?_, by show n ≤ _; omega⟩
  unfold Raw.val Raw.mag
  simp only [natFrom_dv0, h2.val]
  by_cases hneg : z < 0
  · rw [decide_eq_true hneg, if_pos rfl]; omega
  · rw [decide_eq_false hneg, if_neg (by simp)]; omega
theorem FrZ.below {w w' : World} {base : Nat} {v : Value} {z : Int} (h : FrZ w base v z) (hb : Below w.heap.size w w') : FrZ w' base v z := by
  obtain ⟨m, n, f, e, h1, h2⟩ := h
  exact ⟨m, n, f, e, h1.below hb, h2⟩
theorem FrZ.mono {w : World} {base base' : Nat} {v : Value} {z : Int} (h : FrZ w base v z) (hb : base' ≤ base) : FrZ w base' v z := by
  obtain ⟨m, n, f, e, h1, h2⟩ := h
  exact ⟨m, n, f, e, h1.mono hb, h2⟩
theorem RdZ.below {w w' : World} {v : Value} {z : Int} (h : RdZ w v z) (hb : Below w.heap.size w w') : RdZ w' v z := by
  obtain ⟨r, h1, h2⟩ := h
  exact ⟨r, h1.below hb, h2⟩

theorem cells2 (w : World) (u v : Value) (t : TypeId) : ∀ i y, [u, v][i]? = some y → (w.alloc (.cells #[u, v] t)).cell? ⟨w.heap.size, i, none⟩ = some y ∧ (w.alloc (.cells #[u, v] t)).frozen? ⟨w.heap.size, i, none⟩ = false := by
  intro i y hy
  have h := heap_alloc_new w (.cells #[u, v] t)
  refine ⟨by rw [cell_of_row _ _ _ _ _ _ h]; simpa using hy, ?_⟩
  unfold World.frozen?; simp only; rw [h]; simp

/-- what is stored in a box of two cells -/
def stored2 (w3 : World) (b : Nat) (u v : Value) : World := (w3.setCell ⟨b, 0, none⟩ u).setCell ⟨b, 1, none⟩ v
theorem stored2_gb (w3 : World) (b : Nat) (u v : Value) : w3.grownBy (stored2 w3 b u v) (some b) := gb_trans (gb_set _ _ _) (gb_set _ _ _)
theorem stored2_fr {k : IntKind} {e : TypeId} {w3 : World} {b : Nat} {x : Value} {n : Nat} {f : Nat → Int} (h : FrA k e w3 (b + 1) x n f) (u v : Value) : FrA k e (stored2 w3 b u v) b x n f := by
  refine (h.grown (stored2_gb w3 b u v) ?_).mono (by omega)
  cases hb : x.ownBlock with
  | none => exact Or.inl rfl
  | some k => right; have := (h.lt hb).1; intro e; injection e with e; omega
theorem stored2_below {w w3 : World} (h : Below w.heap.size w w3) (u v : Value) : Below w.heap.size w (stored2 w3 w.heap.size u v) :=
  h.grown (stored2_gb w3 _ u v) h.size (fun k hk => by injection hk with hk; omega)

set_option maxHeartbeats 400000 in
theorem made_any (s : Bool) (v : Value) (n : Nat) (f : Nat → Int) (w : World) (hn : n ≤ 1099511627776) (hr : RdW w v n f) :
    Calls Try.prog 70 #[.bool s, v] w fun e w' => ∃ v', e = .returned v' ∧ FrZ w' w.heap.size v' (if s then - natFrom f 0 n else natFrom f 0 n) ∧ Below w.heap.size w w' := by
  have hN := (natFrom_bd hr.2).1
  have hl := fun (w1 : World) (hb : Below w.heap.size w w1) => Least01_any v n f w1 hn (hr.below hb)
  obtain ⟨a, cap, rfl, -⟩ := hr.1
  obtain ⟨N, hNe⟩ : ∃ N, N = natFrom f 0 n := ⟨_, rfl⟩
  rw [← hNe] at hN hl ⊢
  have HL := Lib.hid hl
  clear hr hl hNe
  have hb0 : Below w.heap.size w (w.alloc (.cells #[.bool false, .slice none 0 0] 56)) := (Below.refl _ _).alloc (Nat.le_refl _) _
  have z := cells2 w (.bool false) (.slice none 0 0) 56
  have hs0 : (w.alloc (.cells #[.bool false, .slice none 0 0] 56)).heap.size = w.heap.size + 1 := by simp
  have HB0 := Lib.hid hb0
  have Z := Lib.hid z
  have HS0 := Lib.hid hs0
  clear hb0 z hs0
  cases s with
  | false =>
    simp only [Bool.false_eq_true, if_false]
    go_enter Try.func70, Try.ntmps70
    go_wp2_with fail
    refine (HL.out _ HB0.out).mono ?_
    rintro e w3 ⟨v3, rfl, hfn, hb3⟩
    obtain ⟨a2, n2, cap2, f2, rfl, h1, h2⟩ := hfn.nat
    have hz := Z.out
    have x0 := cell_stays hb3 (hz 0 _ rfl).1
    have x1 := cell_stays hb3 (hz 1 _ rfl).1
    have y0 := froz_stays hb3 (hz 0 _ rfl).1 (hz 0 _ rfl).2
    have y1 := froz_stays hb3 (hz 1 _ rfl).1 (hz 1 _ rfl).2
    rw [HS0.out] at h1 hb3
    have hbw : Below w.heap.size w w3 := HB0.out.trans (hb3.mono (by omega))
    have H1 := Lib.hid h1
    have H2 := Lib.hid h2
    have HBW := Lib.hid hbw
    clear h1 h2 hfn hbw hb3 hz
    go_wp2_with fail
    refine bodyPost_ret (v := .agg #[.bool false, .slice a2 n2 cap2]) ?_ rfl ⟨_, rfl, ⟨_, n2, f2, ?_, stored2_fr H1.out (.bool false) (.slice a2 n2 cap2), ?_⟩, stored2_below HBW.out (.bool false) (.slice a2 n2 cap2)⟩
    · simp [results, Try.results70, go_sem, x0, x1]
    · rw [decide_eq_false (by omega)]
    · rw [Int.natAbs_of_nonneg hN]; exact H2.out
  | true =>
    simp only [if_true]
    go_enter Try.func70, Try.ntmps70
    go_wp2_with fail
    refine (HL.out _ HB0.out).mono ?_
    rintro e w3 ⟨v3, rfl, hfn, hb3⟩
    obtain ⟨a2, n2, cap2, f2, rfl, h1, h2⟩ := hfn.nat
    have hz := Z.out
    have x0 := cell_stays hb3 (hz 0 _ rfl).1
    have x1 := cell_stays hb3 (hz 1 _ rfl).1
    have y0 := froz_stays hb3 (hz 0 _ rfl).1 (hz 0 _ rfl).2
    have y1 := froz_stays hb3 (hz 1 _ rfl).1 (hz 1 _ rfl).2
    rw [HS0.out] at h1 hb3
    have hbw : Below w.heap.size w w3 := HB0.out.trans (hb3.mono (by omega))
    have H1 := Lib.hid h1
    have H2 := Lib.hid h2
    have HBW := Lib.hid hbw
    clear h1 h2 hfn hbw hb3 hz
    go_wp2_with fail
    refine bodyPost_ret (v := .agg #[.bool (decide (0 < n2)), .slice a2 n2 cap2]) ?_ rfl ⟨_, rfl, ⟨_, n2, f2, ?_, stored2_fr H1.out (.bool (decide (0 < n2))) (.slice a2 n2 cap2), ?_⟩, stored2_below HBW.out (.bool (decide (0 < n2))) (.slice a2 n2 cap2)⟩
    · simp [results, Try.results70, go_sem, x0, x1]
    · have hz := H2.out.zero_iff (by omega)
      have : decide (0 < n2) = decide (-N < 0) := by rw [decide_eq_decide]; omega
      rw [this]
    · rw [Int.natAbs_neg, Int.natAbs_of_nonneg hN]; exact H2.out

/-- three boxes of two cells, just made -/
theorem boxes3 (w : World) (a0 a1 b0 b1 c0 c1 : Value) (t : TypeId) :
    let W := ((w.alloc (.cells #[a0, a1] t)).alloc (.cells #[b0, b1] t)).alloc (.cells #[c0, c1] t)
    (W.cell? ⟨w.heap.size, 0, none⟩ = some a0 ∧ W.cell? ⟨w.heap.size, 1, none⟩ = some a1 ∧ W.cell? ⟨w.heap.size + 1, 0, none⟩ = some b0 ∧ W.cell? ⟨w.heap.size + 1, 1, none⟩ = some b1 ∧
      W.cell? ⟨w.heap.size + 1 + 1, 0, none⟩ = some c0 ∧ W.cell? ⟨w.heap.size + 1 + 1, 1, none⟩ = some c1 ∧ W.frozen? ⟨w.heap.size + 1 + 1, 0, none⟩ = false ∧ W.frozen? ⟨w.heap.size + 1 + 1, 1, none⟩ = false) ∧
    Below w.heap.size w W ∧ W.heap.size = w.heap.size + 3 := by
  intro W
  obtain ⟨w1, h1⟩ : ∃ w1, w1 = w.alloc (.cells #[a0, a1] t) := ⟨_, rfl⟩
  obtain ⟨w2, h2⟩ : ∃ w2, w2 = w1.alloc (.cells #[b0, b1] t) := ⟨_, rfl⟩
  have hW : W = w2.alloc (.cells #[c0, c1] t) := by rw [h2, h1]
  have s1 : w1.heap.size = w.heap.size + 1 := by rw [h1]; simp
  have s2 : w2.heap.size = w.heap.size + 1 + 1 := by rw [h2]; simp [s1]
  have b1' : Below w.heap.size w w1 := by rw [h1]; exact (Below.refl _ _).alloc (Nat.le_refl _) _
  have b2 : Below w1.heap.size w1 w2 := by rw [h2]; exact (Below.refl _ _).alloc (Nat.le_refl _) _
  have b3 : Below w2.heap.size w2 W := by rw [hW]; exact (Below.refl _ _).alloc (Nat.le_refl _) _
  have k1 := cells2 w a0 a1 t
  have k2 := cells2 w1 b0 b1 t
  have k3 := cells2 w2 c0 c1 t
  rw [← h1] at k1
  rw [← h2, s1] at k2
  rw [← hW, s2] at k3
  have sW : W.heap.size = w.heap.size + 3 := by rw [hW]; simp [s2]
  clear_value W
  exact ⟨⟨cell_stays b3 (cell_stays b2 (k1 0 _ rfl).1), cell_stays b3 (cell_stays b2 (k1 1 _ rfl).1), cell_stays b3 (k2 0 _ rfl).1, cell_stays b3 (k2 1 _ rfl).1, (k3 0 _ rfl).1, (k3 1 _ rfl).1, (k3 0 _ rfl).2, (k3 1 _ rfl).2⟩,
    b1'.trans ((b2.mono (by omega)).trans (b3.mono (by omega))), sW⟩

theorem addZ_same (a b : Raw) (h : a.neg = b.neg) : a.val + b.val = if a.neg then -(a.mag + b.mag) else a.mag + b.mag := by
  unfold Raw.val; rw [← h]; split <;> omega
theorem addZ_ge (a b : Raw) (h : a.neg ≠ b.neg) : a.val + b.val = if a.neg then -(a.mag - b.mag) else a.mag - b.mag := by
  unfold Raw.val
  cases ha : a.neg <;> cases hb : b.neg <;> simp_all <;> omega
theorem addZ_lt (a b : Raw) (h : a.neg ≠ b.neg) : a.val + b.val = if b.neg then -(b.mag - a.mag) else b.mag - a.mag := by
  unfold Raw.val
  cases ha : a.neg <;> cases hb : b.neg <;> simp_all <;> omega

/-- the answer of a call that stores it in a box of two cells -/
theorem FrZ.stored {w3 : World} {b : Nat} {v : Value} {z : Int} (h : FrZ w3 (b + 1) v z) : ∃ a n cap, v = .agg #[.bool (decide (z < 0)), .slice a n cap] ∧ FrZ (stored2 w3 b (.bool (decide (z < 0))) (.slice a n cap)) b v z := by
  obtain ⟨m, n, f, rfl, h1, h2⟩ := h
  obtain ⟨a, cap, rfl⟩ := h1.slice
  exact ⟨a, n, cap, rfl, _, n, f, rfl, stored2_fr h1 _ _, h2⟩

theorem big_step {u v : Int} {n m : Nat} (u0 : 0 ≤ u) (v0 : 0 ≤ v) (u1 : u < 18446744073709551616 ^ n) (v1 : v < 18446744073709551616 ^ m) :
    u + v < 18446744073709551616 ^ (n + m + 1) ∧ u - v < 18446744073709551616 ^ (n + m + 1) ∧ v - u < 18446744073709551616 ^ (n + m + 1) := by
  have h : (18446744073709551616 : Int) ^ (n + m + 1) = 18446744073709551616 ^ (n + m) * 18446744073709551616 := Int.pow_succ _ _
  have h1 := pow_le' (B := 18446744073709551616) (by omega) (show n ≤ n + m by omega)
  have h2 := pow_le' (B := 18446744073709551616) (by omega) (show m ≤ n + m by omega)
  omega


set_option maxHeartbeats 1000000 in
theorem Add05_any (x y : Value) (a b : Int) (w : World) (hx : RdZ w x a) (hy : RdZ w y b) :
    Calls Try.prog 58 #[x, y] w fun e w' => ∃ v, e = .returned v ∧ FrZ w' w.heap.size v (a + b) ∧ Below w.heap.size w w' := by
  obtain ⟨r, ⟨m, rfl, hr⟩, rfl, hrn⟩ := hx
  obtain ⟨s, ⟨l, rfl, hs⟩, rfl, hsn⟩ := hy
  obtain ⟨am, cm, rfl, -⟩ := hr.1
  obtain ⟨al, cl, rfl, -⟩ := hs.1
  have hbx := boxes3 w (.bool r.neg) (.slice am r.n cm) (.bool s.neg) (.slice al s.n cl) (.bool false) (.slice none 0 0) 56
  obtain ⟨⟨x0, x1, y0, y1, z0, z1, z2, z3⟩, hb, hs3⟩ := hbx
  have HR := Lib.hid (hr.below hb)
  have HS := Lib.hid (hs.below hb)
  have Z := Lib.hid (And.intro x0 (And.intro x1 (And.intro y0 (And.intro y1 (And.intro z0 (And.intro z1 (And.intro z2 z3)))))))
  have HB := Lib.hid hb
  have HS3 := Lib.hid hs3
  clear hr hs hb hs3 x0 x1 y0 y1 z0 z1 z2 z3
  have hr0 := (natFrom_bd HR.out.2).1
  have hs0 := (natFrom_bd HS.out.2).1
  have hr1 := (natFrom_bd HR.out.2).2
  have hs1 := (natFrom_bd HS.out.2).2
  have HBB := Lib.hid (big_step hr0 hs0 hr1 hs1)
  have HR0 := Lib.hid hr0
  have HS0 := Lib.hid hs0
  clear hr0 hs0 hr1 hs1
  by_cases hneg : r.neg = s.neg
  · have hbeq : (r.neg == s.neg) = true := by simp [hneg]
    have HV := Lib.hid (addZ_same r s hneg)
    have HBD : Hid (r.mag + s.mag < 18446744073709551616 ^ (r.n + s.n + 1)) := HBB.out.1
    clear hneg
    obtain ⟨x0, x1, y0, y1, z0, z1, z2, z3⟩ := Z.out
    have z0' := z0
    have z1' := z1
    clear Z
    go_enter Try.func58, Try.ntmps58
    go_wp2_with fail
    refine (Add01_any _ _ r.n s.n r.f s.f _ (by omega) (by omega) HR.out HS.out).mono ?_
    rintro e w4 ⟨v4, rfl, hfn, hb4⟩
    have hfn : FrN w4 _ v4 (r.mag + s.mag) := hfn
    obtain ⟨a4, n4, cap4, f4, rfl, h1, h2⟩ := hfn.nat
    have hn4 : n4 ≤ 1099511627776 := by have := h2.len (by omega) HBD.out; omega
    have z0 := cell_stays hb4 z0
    have z1 := cell_stays hb4 z1
    have z2 := froz_stays hb4 z0' z2
    have z3 := froz_stays hb4 z1' z3
    have x0 := cell_stays hb4 x0
    have y0 := cell_stays hb4 y0
    have hmk := made_any r.neg (.slice a4 n4 cap4) n4 f4 w4 hn4 ⟨h1.read, h2.words⟩
    rw [natFrom_dv0, h2.val, ← HV.out] at hmk
    have HMK := Lib.hid hmk
    have HBW4 := Lib.hid (HB.out.trans (hb4.mono (HB.out.size)))
    have HSZ := Lib.hid hb4.size
    clear h1 h2 hfn hmk hb4 z0' z1'
    go_wp2_with fail
    refine HMK.out.mono ?_
    rintro e w5 ⟨v5, rfl, hz, hb5⟩
    have z0' := z0
    have z1' := z1
    have z0 := cell_stays hb5 z0
    have z1 := cell_stays hb5 z1
    have z2 := froz_stays hb5 z0' z2
    have z3 := froz_stays hb5 z1' z3
    have HBW5 := Lib.hid (HBW4.out.trans (hb5.mono HBW4.out.size))
    clear hb5 z0' z1'
    obtain ⟨aq, nq, cq, rfl, hst⟩ := FrZ.stored (b := w.heap.size + 1 + 1) (hz.mono (by have := HS3.out; have := HSZ.out; omega))
    have hbl : Below w.heap.size w (stored2 w5 (w.heap.size + 1 + 1) (.bool (decide (r.val + s.val < 0))) (.slice aq nq cq)) := HBW5.out.grown (stored2_gb _ _ _ _) HBW5.out.size (fun k hk => by injection hk with hk; omega)
    have HST := Lib.hid (hst.mono (show w.heap.size ≤ w.heap.size + 1 + 1 by omega))
    have HBL := Lib.hid hbl
    clear hz hst hbl
    go_wp2_with fail
    refine bodyPost_ret (v := .agg #[.bool (decide (r.val + s.val < 0)), .slice aq nq cq]) ?_ rfl ⟨_, rfl, HST.out, HBL.out⟩
    simp [results, Try.results58, go_sem, z0, z1]
  · have hbeq : (r.neg == s.neg) = false := by simp [hneg]
    by_cases hge : s.mag ≤ r.mag
    · have HV := Lib.hid (addZ_ge r s hneg)
      have HBD : Hid (r.mag - s.mag < 18446744073709551616 ^ (r.n + s.n + 1)) := HBB.out.2.1
      have hle : natFrom s.f 0 s.n ≤ natFrom r.f 0 r.n := by exact hge
      have HLE := Lib.hid hle
      have hcc : 0 ≤ cmpZ r.mag s.mag := by
        unfold cmpZ
        rw [if_neg (by omega)]; split <;> omega
      have hcmp := Cmp01_any _ _ r.n s.n r.f s.f _ (by omega) (by omega) HR.out HS.out
      change Calls _ _ _ _ (fun e w' => e = .returned (.int .i64 (cmpZ r.mag s.mag)) ∧ _) at hcmp
      generalize cmpZ r.mag s.mag = cc at hcc hcmp
      have HCMP := Lib.hid hcmp
      clear hneg hge hle hcmp
      obtain ⟨x0, x1, y0, y1, z0, z1, z2, z3⟩ := Z.out
      have z0' := z0
      have z1' := z1
      clear Z
      go_enter Try.func58, Try.ntmps58
      go_wp2_with fail
      refine HCMP.out.mono ?_
      rintro e w6 ⟨rfl, hb6⟩
      have x0 := cell_stays hb6 x0
      have x1 := cell_stays hb6 x1
      have y0 := cell_stays hb6 y0
      have y1 := cell_stays hb6 y1
      have z0 := cell_stays hb6 z0
      have z1 := cell_stays hb6 z1
      have z2 := froz_stays hb6 z0' z2
      have z3 := froz_stays hb6 z1' z3
      have HR := Lib.hid (HR.out.below hb6)
      have HS := Lib.hid (HS.out.below hb6)
      have hs6 := hb6.size
      rw [HS3.out] at hs6
      have HB := Lib.hid (HB.out.trans (hb6.mono HB.out.size))
      have HS6 := Lib.hid hs6
      have z0' := z0
      have z1' := z1
      clear hb6 hs6 HCMP HS3
      go_wp2_with fail
      refine (Sub01_any _ _ r.n s.n r.f s.f _ (by omega) (by omega) HLE.out HR.out HS.out).mono ?_
      rintro e w4 ⟨v4, rfl, hfn, hb4⟩
      have hfn : FrN w4 _ v4 (r.mag - s.mag) := hfn
      obtain ⟨a4, n4, cap4, f4, rfl, h1, h2⟩ := hfn.nat
      have hn4 : n4 ≤ 1099511627776 := by have := h2.len (by omega) HBD.out; omega
      have z0 := cell_stays hb4 z0
      have z1 := cell_stays hb4 z1
      have z2 := froz_stays hb4 z0' z2
      have z3 := froz_stays hb4 z1' z3
      have x0 := cell_stays hb4 x0
      have y0 := cell_stays hb4 y0
      have hmk := made_any r.neg (.slice a4 n4 cap4) n4 f4 w4 hn4 ⟨h1.read, h2.words⟩
      rw [natFrom_dv0, h2.val, ← HV.out] at hmk
      have HMK := Lib.hid hmk
      have HBW4 := Lib.hid (HB.out.trans (hb4.mono (HB.out.size)))
      have HSZ := Lib.hid hb4.size
      clear h1 h2 hfn hmk hb4 z0' z1'
      go_wp2_with fail
      refine HMK.out.mono ?_
      rintro e w5 ⟨v5, rfl, hz, hb5⟩
      have z0' := z0
      have z1' := z1
      have z0 := cell_stays hb5 z0
      have z1 := cell_stays hb5 z1
      have z2 := froz_stays hb5 z0' z2
      have z3 := froz_stays hb5 z1' z3
      have HBW5 := Lib.hid (HBW4.out.trans (hb5.mono HBW4.out.size))
      clear hb5 z0' z1'
      obtain ⟨aq, nq, cq, rfl, hst⟩ := FrZ.stored (b := w.heap.size + 1 + 1) (hz.mono (by have := HS6.out; have := HSZ.out; omega))
      have hbl : Below w.heap.size w (stored2 w5 (w.heap.size + 1 + 1) (.bool (decide (r.val + s.val < 0))) (.slice aq nq cq)) := HBW5.out.grown (stored2_gb _ _ _ _) HBW5.out.size (fun k hk => by injection hk with hk; omega)
      have HST := Lib.hid (hst.mono (show w.heap.size ≤ w.heap.size + 1 + 1 by omega))
      have HBL := Lib.hid hbl
      clear hz hst hbl
      go_wp2_with fail
      refine bodyPost_ret (v := .agg #[.bool (decide (r.val + s.val < 0)), .slice aq nq cq]) ?_ rfl ⟨_, rfl, HST.out, HBL.out⟩
      simp [results, Try.results58, go_sem, z0, z1]
    · have HV := Lib.hid (addZ_lt r s hneg)
      have HBD : Hid (s.mag - r.mag < 18446744073709551616 ^ (r.n + s.n + 1)) := HBB.out.2.2
      have hle : natFrom r.f 0 r.n ≤ natFrom s.f 0 s.n := by exact Int.le_of_lt (Int.not_le.1 hge)
      have HLE := Lib.hid hle
      have hcc : cmpZ r.mag s.mag < 0 := by
        unfold cmpZ
        rw [if_pos (by omega)]; omega
      have hcmp := Cmp01_any _ _ r.n s.n r.f s.f _ (by omega) (by omega) HR.out HS.out
      change Calls _ _ _ _ (fun e w' => e = .returned (.int .i64 (cmpZ r.mag s.mag)) ∧ _) at hcmp
      generalize cmpZ r.mag s.mag = cc at hcc hcmp
      have HCMP := Lib.hid hcmp
      clear hneg hge hle hcmp
      obtain ⟨x0, x1, y0, y1, z0, z1, z2, z3⟩ := Z.out
      have z0' := z0
      have z1' := z1
      clear Z
      go_enter Try.func58, Try.ntmps58
      go_wp2_with fail
      refine HCMP.out.mono ?_
      rintro e w6 ⟨rfl, hb6⟩
      have x0 := cell_stays hb6 x0
      have x1 := cell_stays hb6 x1
      have y0 := cell_stays hb6 y0
      have y1 := cell_stays hb6 y1
      have z0 := cell_stays hb6 z0
      have z1 := cell_stays hb6 z1
      have z2 := froz_stays hb6 z0' z2
      have z3 := froz_stays hb6 z1' z3
      have HR := Lib.hid (HR.out.below hb6)
      have HS := Lib.hid (HS.out.below hb6)
      have hs6 := hb6.size
      rw [HS3.out] at hs6
      have HB := Lib.hid (HB.out.trans (hb6.mono HB.out.size))
      have HS6 := Lib.hid hs6
      have z0' := z0
      have z1' := z1
      clear hb6 hs6 HCMP HS3
      go_wp2_with fail
      refine (Sub01_any _ _ s.n r.n s.f r.f _ (by omega) (by omega) HLE.out HS.out HR.out).mono ?_
      rintro e w4 ⟨v4, rfl, hfn, hb4⟩
      have hfn : FrN w4 _ v4 (s.mag - r.mag) := hfn
      obtain ⟨a4, n4, cap4, f4, rfl, h1, h2⟩ := hfn.nat
      have hn4 : n4 ≤ 1099511627776 := by have := h2.len (by omega) HBD.out; omega
      have z0 := cell_stays hb4 z0
      have z1 := cell_stays hb4 z1
      have z2 := froz_stays hb4 z0' z2
      have z3 := froz_stays hb4 z1' z3
      have x0 := cell_stays hb4 x0
      have y0 := cell_stays hb4 y0
      have hmk := made_any s.neg (.slice a4 n4 cap4) n4 f4 w4 hn4 ⟨h1.read, h2.words⟩
      rw [natFrom_dv0, h2.val, ← HV.out] at hmk
      have HMK := Lib.hid hmk
      have HBW4 := Lib.hid (HB.out.trans (hb4.mono (HB.out.size)))
      have HSZ := Lib.hid hb4.size
      clear h1 h2 hfn hmk hb4 z0' z1'
      go_wp2_with fail
      refine HMK.out.mono ?_
      rintro e w5 ⟨v5, rfl, hz, hb5⟩
      have z0' := z0
      have z1' := z1
      have z0 := cell_stays hb5 z0
      have z1 := cell_stays hb5 z1
      have z2 := froz_stays hb5 z0' z2
      have z3 := froz_stays hb5 z1' z3
      have HBW5 := Lib.hid (HBW4.out.trans (hb5.mono HBW4.out.size))
      clear hb5 z0' z1'
      obtain ⟨aq, nq, cq, rfl, hst⟩ := FrZ.stored (b := w.heap.size + 1 + 1) (hz.mono (by have := HS6.out; have := HSZ.out; omega))
      have hbl : Below w.heap.size w (stored2 w5 (w.heap.size + 1 + 1) (.bool (decide (r.val + s.val < 0))) (.slice aq nq cq)) := HBW5.out.grown (stored2_gb _ _ _ _) HBW5.out.size (fun k hk => by injection hk with hk; omega)
      have HST := Lib.hid (hst.mono (show w.heap.size ≤ w.heap.size + 1 + 1 by omega))
      have HBL := Lib.hid hbl
      clear hz hst hbl
      go_wp2_with fail
      refine bodyPost_ret (v := .agg #[.bool (decide (r.val + s.val < 0)), .slice aq nq cq]) ?_ rfl ⟨_, rfl, HST.out, HBL.out⟩
      simp [results, Try.results58, go_sem, z0, z1]

end Go.Proofs.Ytdlpemmoobbgnaa

namespace Go.Proofs.Ytdlpemmoobbgnaa
open Go.RowKit

/-- two boxes of two cells, just made -/
theorem boxes2 (w : World) (a0 a1 c0 c1 : Value) (t : TypeId) :
    let W := (w.alloc (.cells #[a0, a1] t)).alloc (.cells #[c0, c1] t)
    (W.cell? ⟨w.heap.size, 0, none⟩ = some a0 ∧ W.cell? ⟨w.heap.size, 1, none⟩ = some a1 ∧
      W.cell? ⟨w.heap.size + 1, 0, none⟩ = some c0 ∧ W.cell? ⟨w.heap.size + 1, 1, none⟩ = some c1 ∧ W.frozen? ⟨w.heap.size + 1, 0, none⟩ = false ∧ W.frozen? ⟨w.heap.size + 1, 1, none⟩ = false) ∧
    Below w.heap.size w W ∧ W.heap.size = w.heap.size + 2 := by
  intro W
  obtain ⟨w1, h1⟩ : ∃ w1, w1 = w.alloc (.cells #[a0, a1] t) := ⟨_, rfl⟩
  have hW : W = w1.alloc (.cells #[c0, c1] t) := by rw [h1]
  have s1 : w1.heap.size = w.heap.size + 1 := by rw [h1]; simp
  have b1' : Below w.heap.size w w1 := by rw [h1]; exact (Below.refl _ _).alloc (Nat.le_refl _) _
  have b3 : Below w1.heap.size w1 W := by rw [hW]; exact (Below.refl _ _).alloc (Nat.le_refl _) _
  have k1 := cells2 w a0 a1 t
  have k3 := cells2 w1 c0 c1 t
  rw [← h1] at k1
  rw [← hW, s1] at k3
  have sW : W.heap.size = w.heap.size + 2 := by rw [hW]; simp [s1]
  clear_value W
  exact ⟨⟨cell_stays b3 (k1 0 _ rfl).1, cell_stays b3 (k1 1 _ rfl).1, (k3 0 _ rfl).1, (k3 1 _ rfl).1, (k3 0 _ rfl).2, (k3 1 _ rfl).2⟩, b1'.trans (b3.mono (by omega)), sW⟩

theorem RdZ.negate {w : World} {b : Bool} {m : Value} {z : Int} (h : RdZ w (.agg #[.bool b, m]) z) : RdZ w (.agg #[.bool (!b), m]) (-z) := by
  obtain ⟨r, ⟨m', e, h⟩, rfl, hn⟩ := h
  simp only [Value.agg.injEq, Array.mk.injEq, List.cons.injEq, Value.bool.injEq, and_true] at e
  obtain ⟨rfl, rfl⟩ := e
  refine ⟨⟨!r.neg, r.n, r.f⟩, ⟨m, rfl, h⟩, ?_, hn⟩
  unfold Raw.val Raw.mag
  cases r.neg <;> simp

theorem RdZ.parts {w : World} {v : Value} {z : Int} (h : RdZ w v z) : ∃ b a n cap f, v = .agg #[.bool b, .slice a n cap] ∧ RdW w (.slice a n cap) n f ∧ n ≤ 274877906944 ∧ z = (if b then - natFrom f 0 n else natFrom f 0 n) := by
  obtain ⟨r, ⟨m, rfl, hr⟩, rfl, hn⟩ := h
  obtain ⟨a, cap, rfl, h2⟩ := hr.1
  exact ⟨r.neg, a, r.n, cap, r.f, rfl, hr, hn, rfl⟩

set_option maxHeartbeats 400000 in
theorem Sub05_any (x y : Value) (a b : Int) (w : World) (hx : RdZ w x a) (hy : RdZ w y b) :
    Calls Try.prog 32 #[x, y] w fun e w' => ∃ v, e = .returned v ∧ FrZ w' w.heap.size v (a - b) ∧ Below w.heap.size w w' := by
  obtain ⟨p, am, n, cm, f, rfl, -⟩ := hx.parts
  obtain ⟨q, al, m, cl, g, rfl, -⟩ := hy.parts
  obtain ⟨⟨x0, x1, y0, y1, z0, z1, z2, z3⟩, hb, hs3⟩ := boxes3 w (.bool p) (.slice am n cm) (.bool q) (.slice al m cl) (.bool false) (.slice none 0 0) 56
  have hadd := Add05_any _ _ _ _ _ (hx.below hb) (hy.below hb).negate
  rw [← Int.sub_eq_add_neg] at hadd
  have HADD := Lib.hid hadd
  have HB := Lib.hid hb
  have HS3 := Lib.hid hs3
  clear hx hy hb hs3 hadd
  go_enter Try.func32, Try.ntmps32
  go_wp2_with fail
  refine HADD.out.mono ?_
  rintro e w5 ⟨v5, rfl, hz, hb5⟩
  obtain ⟨aq, nq, cq, rfl, hst⟩ := FrZ.stored (b := w.heap.size + 1 + 1) (hz.mono (by have := HS3.out; omega))
  have z0' := z0
  have z1' := z1
  have z0 := cell_stays hb5 z0
  have z1 := cell_stays hb5 z1
  have z2 := froz_stays hb5 z0' z2
  have z3 := froz_stays hb5 z1' z3
  have hbw := HB.out.trans (hb5.mono HB.out.size)
  have hbl : Below w.heap.size w (stored2 w5 (w.heap.size + 1 + 1) (.bool (decide (a - b < 0))) (.slice aq nq cq)) := hbw.grown (stored2_gb _ _ _ _) hbw.size (fun k hk => by injection hk with hk; omega)
  have HST := Lib.hid (hst.mono (show w.heap.size ≤ w.heap.size + 1 + 1 by omega))
  have HBL := Lib.hid hbl
  clear hz hst hbl hbw hb5 z0' z1'
  go_wp2_with fail
  refine bodyPost_ret (v := .agg #[.bool (decide (a - b < 0)), .slice aq nq cq]) ?_ rfl ⟨_, rfl, HST.out, HBL.out⟩
  simp [results, Try.results32, go_sem, z0, z1]

set_option maxHeartbeats 400000 in
theorem Least05_any (x : Value) (a : Int) (w : World) (hx : RdZ w x a) :
    Calls Try.prog 42 #[x] w fun e w' => ∃ v, e = .returned v ∧ FrZ w' w.heap.size v a ∧ Below w.heap.size w w' := by
  obtain ⟨p, am, n, cm, f, rfl, hr, hn, ha⟩ := hx.parts
  obtain ⟨⟨x0, x1, z0, z1, z2, z3⟩, hb, hs3⟩ := boxes2 w (.bool p) (.slice am n cm) (.bool false) (.slice none 0 0) 56
  have hadd := made_any p _ n f _ (by omega) (hr.below hb)
  rw [← ha] at hadd
  have HADD := Lib.hid hadd
  have HB := Lib.hid hb
  have HS3 := Lib.hid hs3
  clear hx hr ha hb hs3 hadd
  go_enter Try.func42, Try.ntmps42
  go_wp2_with fail
  refine HADD.out.mono ?_
  rintro e w5 ⟨v5, rfl, hz, hb5⟩
  obtain ⟨aq, nq, cq, rfl, hst⟩ := FrZ.stored (b := w.heap.size + 1) (hz.mono (by have := HS3.out; omega))
  have z0' := z0
  have z1' := z1
  have z0 := cell_stays hb5 z0
  have z1 := cell_stays hb5 z1
  have z2 := froz_stays hb5 z0' z2
  have z3 := froz_stays hb5 z1' z3
  have hbw := HB.out.trans (hb5.mono HB.out.size)
  have hbl : Below w.heap.size w (stored2 w5 (w.heap.size + 1) (.bool (decide (a < 0))) (.slice aq nq cq)) := hbw.grown (stored2_gb _ _ _ _) hbw.size (fun k hk => by injection hk with hk; omega)
  have HST := Lib.hid (hst.mono (show w.heap.size ≤ w.heap.size + 1 by omega))
  have HBL := Lib.hid hbl
  clear hz hst hbl hbw hb5 z0' z1'
  go_wp2_with fail
  refine bodyPost_ret (v := .agg #[.bool (decide (a < 0)), .slice aq nq cq]) ?_ rfl ⟨_, rfl, HST.out, HBL.out⟩
  simp [results, Try.results42, go_sem, z0, z1]

set_option maxHeartbeats 400000 in
theorem Abs05_any (x : Value) (a : Int) (w : World) (hx : RdZ w x a) :
    Calls Try.prog 104 #[x] w fun e w' => ∃ v, e = .returned v ∧ FrZ w' w.heap.size v (a.natAbs : Int) ∧ Below w.heap.size w w' := by
  obtain ⟨p, am, n, cm, f, rfl, hr, hn, ha⟩ := hx.parts
  obtain ⟨⟨x0, x1, z0, z1, z2, z3⟩, hb, hs3⟩ := boxes2 w (.bool p) (.slice am n cm) (.bool false) (.slice none 0 0) 56
  have hadd := made_any false _ n f _ (by omega) (hr.below hb)
  have hN := (natFrom_bd hr.2).1
  have hz0 : (if false = true then - natFrom f 0 n else natFrom f 0 n) = (a.natAbs : Int) := by rw [if_neg (by simp), ha]; split <;> omega
  rw [hz0] at hadd
  have HADD := Lib.hid hadd
  have HB := Lib.hid hb
  have HS3 := Lib.hid hs3
  clear hx hr ha hb hs3 hadd hN hz0
  generalize (a.natAbs : Int) = a at *
  go_enter Try.func104, Try.ntmps104
  go_wp2_with fail
  refine HADD.out.mono ?_
  rintro e w5 ⟨v5, rfl, hz, hb5⟩
  obtain ⟨aq, nq, cq, rfl, hst⟩ := FrZ.stored (b := w.heap.size + 1) (hz.mono (by have := HS3.out; omega))
  have z0' := z0
  have z1' := z1
  have z0 := cell_stays hb5 z0
  have z1 := cell_stays hb5 z1
  have z2 := froz_stays hb5 z0' z2
  have z3 := froz_stays hb5 z1' z3
  have hbw := HB.out.trans (hb5.mono HB.out.size)
  have hbl : Below w.heap.size w (stored2 w5 (w.heap.size + 1) (.bool (decide (a < 0))) (.slice aq nq cq)) := hbw.grown (stored2_gb _ _ _ _) hbw.size (fun k hk => by injection hk with hk; omega)
  have HST := Lib.hid (hst.mono (show w.heap.size ≤ w.heap.size + 1 by omega))
  have HBL := Lib.hid hbl
  clear hz hst hbl hbw hb5 z0' z1'
  go_wp2_with fail
  refine bodyPost_ret (v := .agg #[.bool (decide (a < 0)), .slice aq nq cq]) ?_ rfl ⟨_, rfl, HST.out, HBL.out⟩
  simp [results, Try.results104, go_sem, z0, z1]

/-- 1, 0 or -1 -/
def sgn (a : Int) : Int := if a < 0 then -1 else if 0 < a then 1 else 0

set_option maxHeartbeats 400000 in
theorem Sign_any (x : Value) (a : Int) (w : World) (hx : RdZ w x a) :
    Calls Try.prog 102 #[x] w fun e w' => e = .returned (.int .i64 (sgn a)) ∧ Below w.heap.size w w' := by
  obtain ⟨p, am, n, cm, f, rfl, -⟩ := hx.parts
  have hb0 : Below w.heap.size w (w.alloc (.cells #[.bool p, .slice am n cm] 56)) := (Below.refl _ _).alloc (Nat.le_refl _) _
  have hl := Least05_any _ _ _ (hx.below hb0)
  have HL := Lib.hid hl
  have HB := Lib.hid hb0
  clear hx hb0 hl
  go_enter Try.func102, Try.ntmps102
  go_wp2_with fail
  refine HL.out.mono ?_
  rintro e w5 ⟨v5, rfl, ⟨m, n2, f2, rfl, h1, h2⟩, hb5⟩
  obtain ⟨a2, cap2, rfl⟩ := h1.slice
  have hbw := HB.out.trans (hb5.mono HB.out.size)
  have hzi := h2.zero_iff (by omega)
  have HBW := Lib.hid hbw
  have HZ := Lib.hid hzi
  clear h1 h2 hbw hzi hb5
  by_cases hneg : a < 0
  · have hs : Hid (sgn a = -1) := if_pos hneg
    rw [decide_eq_true hneg]
    go_wp2_with fail
    go_ret
    exact ⟨ret_i64 hs.out.symm, HBW.out.alloc HBW.out.size _⟩
  · rw [decide_eq_false hneg]
    by_cases hpos : 0 < n2
    · have hs : Hid (sgn a = 1) := by show _ = _; unfold sgn; have := HZ.out; rw [if_neg hneg, if_pos (by omega)]
      go_wp2_with fail
      go_ret
      exact ⟨ret_i64 hs.out.symm, HBW.out.alloc HBW.out.size _⟩
    · have hs : Hid (sgn a = 0) := by show _ = _; unfold sgn; have := HZ.out; rw [if_neg hneg, if_neg (by omega)]
      go_wp2_with fail
      go_ret
      exact ⟨ret_i64 hs.out.symm, HBW.out.alloc HBW.out.size _⟩

theorem one_word (w : World) (x : Int) (x0 : 0 ≤ x) (x1 : x ≤ 18446744073709551615) (e : TypeId) : RdW (w.alloc (.cells #[.int .u64 x] e)) (.slice (some ⟨w.heap.size, 0, none⟩) 1 1) 1 (fun _ => x) := by
  refine ⟨⟨_, 1, rfl, Nat.le_refl _, by omega, fun _ => ⟨w.heap.size, 0, rfl, fun i hi => ?_⟩⟩, fun _ _ => ⟨x0, x1⟩⟩
  obtain rfl : i = 0 := by omega
  rw [cell_of_row _ _ _ _ _ _ (heap_alloc_new w _)]; rfl

set_option maxHeartbeats 400000 in
theorem Of05_any (x : Int) (x0 : 0 ≤ x) (x1 : x ≤ 9223372036854775807) (w : World) :
    Calls Try.prog 103 #[.int .i64 x] w fun e w' => ∃ v, e = .returned v ∧ FrZ w' w.heap.size v x ∧ Below w.heap.size w w' := by
  have hb0 : Below w.heap.size w (w.alloc (.cells #[.bool false, .slice none 0 0] 56)) := (Below.refl _ _).alloc (Nat.le_refl _) _
  have z := cells2 w (.bool false) (.slice none 0 0) 56
  have hs0 : (w.alloc (.cells #[.bool false, .slice none 0 0] 56)).heap.size = w.heap.size + 1 := by simp
  have hm := fun (W : World) => made_any false _ 1 (fun _ => x) _ (by omega) (one_word W x x0 (by omega) 22)
  have hN : (if false = true then - natFrom (fun _ => x) 0 1 else natFrom (fun _ => x) 0 1) = x := by rw [if_neg (by simp)]; simp [natFrom]
  rw [hN] at hm
  have hbb := fun (W : World) => ((Below.refl W.heap.size W).alloc (Nat.le_refl _) (.cells #[.int .u64 x] 22))
  have HM := Lib.hid hm
  have HBB := Lib.hid hbb
  have HB0 := Lib.hid hb0
  have Z := Lib.hid z
  have HS0 := Lib.hid hs0
  clear hb0 z hs0 hm hN hbb
  go_enter Try.func103, Try.ntmps103
  go_wp2_with fail
  have hz := Z.out
  have hs0 := HS0.out
  rw [← hs0]
  have hb0 := HB0.out
  clear Z HS0 HB0
  generalize w.alloc (.cells #[.bool false, .slice none 0 0] 56) = W at hz hb0 hs0 ⊢
  have hbW := HBB.out W
  refine (HM.out W).mono ?_
  rintro e w5 ⟨v5, rfl, hzz, hb5⟩
  have hbW5 : Below W.heap.size W w5 := hbW.trans (hb5.mono hbW.size)
  have z0 := cell_stays hbW5 (hz 0 _ rfl).1
  have z1 := cell_stays hbW5 (hz 1 _ rfl).1
  have z2 := froz_stays hbW5 (hz 0 _ rfl).1 (hz 0 _ rfl).2
  have z3 := froz_stays hbW5 (hz 1 _ rfl).1 (hz 1 _ rfl).2
  obtain ⟨aq, nq, cq, rfl, hst⟩ := FrZ.stored (b := w.heap.size) (hzz.mono (by have := hbW.size; omega))
  have hbw := hb0.trans (hbW5.mono hb0.size)
  have HST := Lib.hid hst
  have HBL := Lib.hid (stored2_below hbw (.bool (decide (x < 0))) (.slice aq nq cq))
  clear hzz hst hbw hb5 hbW hbW5 hz hb0 hs0
  go_wp2_with fail
  refine bodyPost_ret (v := .agg #[.bool (decide (x < 0)), .slice aq nq cq]) ?_ rfl ⟨_, rfl, HST.out, HBL.out⟩
  simp [results, Try.results103, go_sem, z0, z1]

end Go.Proofs.Ytdlpemmoobbgnaa

namespace Go.Proofs.Ytdlpemmoobbgnaa
open Go.RowKit

theorem FrA.mk' {k : IntKind} {e : TypeId} {w : World} {base b n cap : Nat} {f : Nat → Int} (hb : base ≤ b) (hk : Blk w b cap e) (hr : RowAt k w b 0 n f) (hn : n ≤ cap) (h2 : n ≤ 17592186044416) : FrA k e w base (.slice (some ⟨b, 0, none⟩) n cap) n f :=
  Or.inr ⟨b, cap, rfl, hn, h2, hb, hk, hr⟩

set_option maxHeartbeats 1000000 in
set_option maxRecDepth 100000 in
theorem digits_any (v : Value) (n : Nat) (f : Nat → Int) (w : World) (hn : n ≤ 1099511627776) (hr : RdW w v n f) :
    Calls Try.prog 123 #[v] w fun e w' => ∃ v', e = .returned v' ∧ FrD w' w.heap.size v' (natFrom f 0 n) ∧ Below w.heap.size w w' := by
  obtain ⟨hr, hw⟩ := hr
  obtain ⟨a, cap, rfl, h1, h2, h3⟩ := wd_get hr
  have H3 := Lib.hid h3
  have HW := Lib.hid hw
  clear h3 hr hw
  obtain ⟨K, hK⟩ : ∃ K, K = 4 * n := ⟨_, rfl⟩
  have hKb : K ≤ 17592186044416 := by omega
  have mk : ∀ u : World, (Instr.makeSlice 45 (.int .i64 (4 * (n : Int))) (.int .i64 (4 * (n : Int)))).run Try.prog u =
      .ok (.slice (some ⟨u.heap.size, 0, none⟩) K K) (u.alloc (.cells (madeCells #[.int .i64 0] K) 3)) := by
    rw [show 4 * (n : Int) = (K : Int) by omega]; exact mk_nums K K (Nat.le_refl _) hKb
  have HK := Lib.hid hK
  clear hK
  go_enter Try.func123, Try.ntmps123
  go_wp2_with fail
  have hr0 := (CellsAt.row (f := fun _ => 0) (CellsAt.made w (.int .i64 0) K 3))
  have hk0 := Blk.made w (.int .i64 0) K 3
  have hg0 := World.grownBy_alloc w (.cells (madeCells #[.int .i64 0] K) 3) (some w.heap.size)
  have HR0 := Lib.hid hr0
  have HK0 := Lib.hid hk0
  have HG0 := Lib.hid hg0
  clear hr0 hk0 hg0 mk
  generalize w.alloc (.cells (madeCells #[.int .i64 0] K) 3) = w4 at HR0 HK0 HG0 ⊢
  go_loopw [4] (fun iv wr => ∃ j : Nat, j ≤ n ∧ iv = .int .i64 j ∧ RowAt .i64 wr w.heap.size 0 K (fun t => if t < 4 * j then spl f t else 0) ∧ Blk wr w.heap.size K 3 ∧ w.grownBy wr (some w.heap.size)) (fun iv _ => n - (intOf iv).toNat)
  case atStart => exact ⟨0, by omega, rfl, HR0.out.congr fun i _ => (if_neg (by omega)).symm, HK0.out, HG0.out⟩
  case round =>
    clear HR0 HK0 HG0
    obtain ⟨j, j1, rfl, hrow, hblk, hgr⟩ := hrel
    have HROW := Lib.hid hrow
    have HBLK := Lib.hid hblk
    clear hrow hblk
    by_cases hj : j < n
    · obtain ⟨b, o, rfl, hc⟩ := H3.out j hj
      have hc := hgr.cell hc (by simp; have := World.block_lt_of_cell? w _ hc; simp at this; omega)
      obtain ⟨x, hx⟩ : ∃ x, x = f j := ⟨_, rfl⟩
      obtain ⟨x0, x1⟩ := HW.out j hj
      rw [← hx] at hc x0 x1
      have HX := Lib.hid hx
      clear hx
      go_wp2_with fail
      go_loopw [5, 6] (fun xv kv wr => ∃ k : Nat, k ≤ 4 ∧ kv = .int .i64 k ∧ xv = .int .u64 (x / 65536 ^ k) ∧ RowAt .i64 wr w.heap.size 0 K (fun t => if t < 4 * j + k then spl f t else 0) ∧ Blk wr w.heap.size K 3 ∧ w.grownBy wr (some w.heap.size)) (fun _ kv _ => 4 - (intOf kv).toNat)
      case atStart => exact ⟨0, by omega, rfl, by rw [Int.pow_zero, Int.ediv_one], HROW.out, HBLK.out, hgr⟩
      case round =>
        clear HROW HBLK hgr hc
        obtain ⟨k, k1, rfl, rfl, hrow, hblk, hgr⟩ := hrel
        obtain ⟨s1, s2⟩ := word_step x x0 k
        have s3 := word_le x x0 x1 k
        obtain ⟨y, hy⟩ : ∃ y, y = x / 65536 ^ k := ⟨_, rfl⟩
        rw [← hy] at s1 s2 s3 ⊢
        have HS1 := Lib.hid s1
        have HY := Lib.hid hy
        clear s1 hy
        by_cases hk : k < 4
        · have hsp : Hid (spl f (4 * j + k) = y % 65536) := by show _ = _; rw [spl_at f j k hk, ← HX.out, HY.out]
          have hqK : 4 * j + k < K := by have := HK.out; omega
          obtain ⟨d1, d2⟩ := hrow.get0 (i := 4 * j + k) hqK (x := 0) (if_neg (by omega))
          have hrow2 := hrow.set0 hqK (y % 65536)
          have hblk2 := hblk.set (4 * j + k) (.int .i64 (y % 65536))
          have hgr2 := gb_trans hgr (gb_set wr ⟨w.heap.size, 4 * j + k, none⟩ (.int .i64 (y % 65536)))
          have HN2 := Lib.hid (And.intro hrow2 (And.intro hblk2 hgr2))
          clear hrow hblk hgr hrow2 hblk2 hgr2
          go_wp2_with fail
          go_roundw
          case rel =>
            refine ⟨k + 1, by omega, by go_num, by rw [← HS1.out], HN2.out.1.congr fun t _ => ?_, HN2.out.2.1, HN2.out.2.2⟩
            by_cases e : t = 4 * j + k
            · rw [if_pos e, if_pos (by omega), e, hsp.out]
            · rw [if_neg e]
              by_cases e2 : t < 4 * j + k
              · rw [if_pos e2, if_pos (by omega)]
              · rw [if_neg e2, if_neg (by omega)]
          case measure => simp [intOf]; omega
        · obtain rfl : k = 4 := by omega
          have HN2 := Lib.hid (And.intro hrow (And.intro hblk hgr))
          clear hrow hblk hgr
          go_wp2_with fail
          go_roundw
          case rel => exact ⟨j + 1, by omega, by go_num, HN2.out.1.congr fun t _ => by rw [show 4 * (j + 1) = 4 * j + 4 by omega], HN2.out.2.1, HN2.out.2.2⟩
          case measure => simp [intOf]; omega
    · obtain rfl : j = n := by omega
      have hrow : Hid (RowAt .i64 wr w.heap.size 0 K (spl f)) := HROW.out.congr fun t ht => if_pos (by have := HK.out; omega)
      clear HROW
      go_wp2_with fail
      go_loop [7] (fun kv => ∃ k : Nat, k ≤ K ∧ Hid (sz (spl f) k = sz (spl f) K) ∧ kv = .int .i64 k) (fun kv => (intOf kv).toNat)
      case atStart => exact ⟨K, Nat.le_refl _, rfl, rfl⟩
      case round =>
        obtain ⟨k, k1, k2, rfl⟩ := hrel
        have fin : Hid (sz (spl f) K = k) → ∃ v', Ending.returned (.slice (some ⟨w.heap.size, 0, none⟩) k K) = .returned v' ∧ FrD wr w.heap.size v' (natFrom f 0 j) ∧ Below w.heap.size w wr := fun hk => by
          refine ⟨_, rfl, ⟨k, spl f, FrA.mk' (Nat.le_refl _) HBLK.out (fun i hi => hrow.out i (by omega)) k1 (by omega), ?_⟩, (Below.refl _ _).grown hgr (Nat.le_refl _) fun q hq => by injection hq with hq; omega⟩
          rw [natFrom_dv0, ← hk.out, HK.out]
          exact Dig.split fun i hi => by have := HW.out i hi; omega
        have FIN := Lib.hid fin
        clear fin
        rcases Nat.eq_zero_or_pos k with e | hk
        · subst e
          have hk0 : Hid (sz (spl f) K = 0) := by show _ = _; rw [← k2.out]; rfl
          go_wp2_with fail
          go_ret
          exact FIN.out hk0
        · obtain ⟨x, hx⟩ : ∃ x, x = spl f (k - 1) := ⟨_, rfl⟩
          obtain ⟨q, hq⟩ : ∃ q, q = k - 1 := ⟨_, rfl⟩
          obtain ⟨hc, _⟩ := hrow.out.get0 (i := q) (by omega) (x := x) (by rw [hq, hx])
          have hk' : (0 : Int) < (k : Int) := by omega
          have hq1 : (k : Int) - 1 = (q : Int) := by omega
          have hq2 : q < K := by omega
          have HQ := Lib.hid hq
          have HX := Lib.hid hx
          clear hq hx
          by_cases hz : x = 0
          · have hzb : (x == 0) = true := beq_iff_eq.2 hz
            have HZ := Lib.hid hz
            clear hz
            go_wp2_with fail
            go_round
            case rel =>
              refine ⟨q, by omega, ?_, rfl⟩
              show _ = _
              rw [← k2.out, show k = q + 1 by have := HQ.out; omega]
              show _ = if spl f q = 0 then sz (spl f) q else q + 1
              rw [if_pos (by rw [HQ.out, ← HX.out]; exact HZ.out)]
            case measure => simp [intOf]; omega
          · have hzb : (x == 0) = false := beq_eq_false_iff_ne.2 hz
            have hfin : Hid (sz (spl f) K = k) := by
              show _ = _
              rw [← k2.out, show k = q + 1 by have := HQ.out; omega]
              show (if spl f q = 0 then sz (spl f) q else q + 1) = _
              rw [if_neg (by rw [HQ.out, ← HX.out]; exact hz)]
            clear hz
            go_wp2_with fail
            go_ret
            exact FIN.out hfin

end Go.Proofs.Ytdlpemmoobbgnaa

namespace Go.Proofs.Ytdlpemmoobbgnaa
open Go.RowKit

/-- the words when the digits from c on have been put in -/
def wl (f : Nat → Int) (n c t : Nat) : Int := jq f n t (4 - (c - 4 * t))

theorem wl_zero (f : Nat → Int) (n t : Nat) : wl f n 0 t = joi f n t := by unfold wl; rw [show 4 - (0 - 4 * t) = 4 by omega, jq_four]
theorem wl_top (f : Nat → Int) (n t : Nat) (h : n ≤ 4 * t + 4) : ∀ {c}, n ≤ c → 4 * t + 4 ≤ c → wl f n c t = 0 := fun {c} _ h2 => by unfold wl; rw [show 4 - (c - 4 * t) = 0 by omega]; rfl
theorem jq_above (f : Nat → Int) (n t : Nat) : ∀ c, c ≤ 4 → (∀ k, k < 4 → 4 - c ≤ k → n ≤ 4 * t + k) → jq f n t c = 0
  | 0, _, _ => rfl
  | c + 1, h, hn => by
    show jq f n t c * 65536 + (if 4 * t + (3 - c) < n then f (4 * t + (3 - c)) else 0) = 0
    rw [jq_above f n t c (by omega) (fun k h1 h2 => hn k h1 (by omega)), if_neg (by have := hn (3 - c) (by omega) (by omega); omega)]; rfl
theorem wl_start (f : Nat → Int) (n t : Nat) : wl f n n t = 0 := by
  unfold wl
  exact jq_above f n t _ (by omega) (fun k h1 h2 => by omega)
theorem wl_step (f : Nat → Int) (n j t : Nat) (hj : j < n) : wl f n j t = if t = j / 4 then wl f n (j + 1) t * 65536 + f j else wl f n (j + 1) t := by
  unfold wl
  by_cases e : t = j / 4
  · rw [if_pos e, show 4 - (j - 4 * t) = (4 - (j + 1 - 4 * t)) + 1 by omega]
    show _ * 65536 + (if 4 * t + (3 - (4 - (j + 1 - 4 * t))) < n then _ else 0) = _
    rw [show 4 * t + (3 - (4 - (j + 1 - 4 * t))) = j by omega, if_pos hj]
  · rw [if_neg e, show 4 - (j - 4 * t) = 4 - (j + 1 - 4 * t) by omega]
theorem wl_bd {f : Nat → Int} {n : Nat} (h : ∀ i, i < n → 0 ≤ f i ∧ f i < 65536) (j : Nat) : 0 ≤ wl f n (j + 1) (j / 4) ∧ wl f n (j + 1) (j / 4) ≤ 281474976710655 := by
  unfold wl; exact jq_bd h _ _ (by omega)

set_option maxHeartbeats 1000000 in
set_option maxRecDepth 100000 in
theorem words_any (v : Value) (n : Nat) (f : Nat → Int) (w : World) (hn : n ≤ 17592186044412) (hf : ∀ i, i < n → 0 ≤ f i ∧ f i < 65536) (hr : RdA .i64 w v n f) :
    Calls Try.prog 124 #[v] w fun e w' => ∃ v', e = .returned v' ∧ FrN w' w.heap.size v' (dv 65536 f n) ∧ Below w.heap.size w w' := by
  obtain ⟨a, cap, rfl, h1, h2, h3⟩ := wd_get hr
  have H3 := Lib.hid h3
  have HF := Lib.hid hf
  clear h3 hr hf
  obtain ⟨K, hK⟩ : ∃ K, K = (n + 3) / 4 := ⟨_, rfl⟩
  have hKb : K ≤ 17592186044416 := by omega
  have mk : ∀ u : World, (Instr.makeSlice 54 (.int .i64 (((n : Int) + 3) / 4)) (.int .i64 (((n : Int) + 3) / 4))).run Try.prog u =
      .ok (.slice (some ⟨u.heap.size, 0, none⟩) K K) (u.alloc (.cells (madeCells #[.int .u64 0] K) 22)) := by
    rw [show ((n : Int) + 3) / 4 = (K : Int) by omega]; exact mk_wds K K (Nat.le_refl _) hKb
  have HK := Lib.hid hK
  clear hK
  go_enter Try.func124, Try.ntmps124
  go_wp2_with fail
  have hr0 := (CellsAt.row (f := fun _ => 0) (CellsAt.made w (.int .u64 0) K 22))
  have hk0 := Blk.made w (.int .u64 0) K 22
  have hg0 := World.grownBy_alloc w (.cells (madeCells #[.int .u64 0] K) 22) (some w.heap.size)
  have HR0 := Lib.hid hr0
  have HK0 := Lib.hid hk0
  have HG0 := Lib.hid hg0
  clear hr0 hk0 hg0 mk
  generalize w.alloc (.cells (madeCells #[.int .u64 0] K) 22) = w4 at HR0 HK0 HG0 ⊢
  go_loopw [4] (fun iv wr => ∃ c : Nat, c ≤ n ∧ iv = .int .i64 ((c : Int) - 1) ∧ RowAt .u64 wr w.heap.size 0 K (wl f n c) ∧ Blk wr w.heap.size K 22 ∧ w.grownBy wr (some w.heap.size)) (fun iv _ => (intOf iv + 1).toNat)
  case atStart => exact ⟨n, by omega, rfl, HR0.out.congr fun i _ => (wl_start f n i).symm, HK0.out, HG0.out⟩
  case round =>
    clear HR0 HK0 HG0
    obtain ⟨c, c1, rfl, hrow, hblk, hgr⟩ := hrel
    have HROW := Lib.hid hrow
    have HBLK := Lib.hid hblk
    clear hrow hblk
    rcases c with _ | j
    · have hrow : Hid (RowAt .u64 wr w.heap.size 0 K (joi f n)) := HROW.out.congr fun t _ => wl_zero f n t
      clear HROW
      go_wp2_with fail
      go_loop [5] (fun kv => ∃ k : Nat, k ≤ K ∧ Hid (sz (joi f n) k = sz (joi f n) K) ∧ kv = .int .i64 k) (fun kv => (intOf kv).toNat)
      case atStart => exact ⟨K, Nat.le_refl _, rfl, rfl⟩
      case round =>
        obtain ⟨k, k1, k2, rfl⟩ := hrel
        have fin : Hid (sz (joi f n) K = k) → ∃ v', Ending.returned (.slice (some ⟨w.heap.size, 0, none⟩) k K) = .returned v' ∧ FrN wr w.heap.size v' (dv 65536 f n) ∧ Below w.heap.size w wr := fun hk => by
          refine ⟨_, rfl, ⟨k, joi f n, FrA.mk' (Nat.le_refl _) HBLK.out (fun i hi => hrow.out i (by omega)) k1 (by omega), ?_⟩, (Below.refl _ _).grown hgr (Nat.le_refl _) fun q hq => by injection hq with hq; omega⟩
          have hv : dv 18446744073709551616 (joi f n) K = dv 65536 f n := by
            rw [joi_dv, dv_more (show n ≤ 4 * K by have := HK.out; omega) (fun i hi _ => if_neg (by omega))]
            exact dv_congr fun i hi => if_pos hi
          rw [← hk.out, ← hv]
          exact dig_sz fun i _ => joi_bd HF.out i
        have FIN := Lib.hid fin
        clear fin
        rcases Nat.eq_zero_or_pos k with e | hk
        · subst e
          have hk0 : Hid (sz (joi f n) K = 0) := by show _ = _; rw [← k2.out]; rfl
          go_wp2_with fail
          go_ret
          exact FIN.out hk0
        · obtain ⟨x, hx⟩ : ∃ x, x = joi f n (k - 1) := ⟨_, rfl⟩
          obtain ⟨q, hq⟩ : ∃ q, q = k - 1 := ⟨_, rfl⟩
          obtain ⟨hc, _⟩ := hrow.out.get0 (i := q) (by omega) (x := x) (by rw [hq, hx])
          have hk' : (0 : Int) < (k : Int) := by omega
          have hq1 : (k : Int) - 1 = (q : Int) := by omega
          have hq2 : q < K := by omega
          have HQ := Lib.hid hq
          have HX := Lib.hid hx
          clear hq hx
          by_cases hz : x = 0
          · have hzb : (x == 0) = true := beq_iff_eq.2 hz
            have HZ := Lib.hid hz
            clear hz
            go_wp2_with fail
            go_round
            case rel =>
              refine ⟨q, by omega, ?_, rfl⟩
              show _ = _
              rw [← k2.out, show k = q + 1 by have := HQ.out; omega]
              show _ = if joi f n q = 0 then sz (joi f n) q else q + 1
              rw [if_pos (by rw [HQ.out, ← HX.out]; exact HZ.out)]
            case measure => simp [intOf]; omega
          · have hzb : (x == 0) = false := beq_eq_false_iff_ne.2 hz
            have hfin : Hid (sz (joi f n) K = k) := by
              show _ = _
              rw [← k2.out, show k = q + 1 by have := HQ.out; omega]
              show (if joi f n q = 0 then sz (joi f n) q else q + 1) = _
              rw [if_neg (by rw [HQ.out, ← HX.out]; exact hz)]
            clear hz
            go_wp2_with fail
            go_ret
            exact FIN.out hfin
    · obtain ⟨b, o, rfl, hc⟩ := H3.out j (by omega)
      have hc := hgr.cell hc (by simp; have := World.block_lt_of_cell? w _ hc; simp at this; omega)
      obtain ⟨x, hx⟩ : ∃ x, x = f j := ⟨_, rfl⟩
      obtain ⟨x0, x1⟩ := HF.out j (by omega)
      obtain ⟨T, hT⟩ : ∃ T, T = j / 4 := ⟨_, rfl⟩
      obtain ⟨y, hy⟩ : ∃ y, y = wl f n (j + 1) T := ⟨_, rfl⟩
      obtain ⟨y0, y1⟩ := wl_bd HF.out j
      rw [← hT, ← hy] at y0 y1
      have hTK : T < K := by have := HK.out; omega
      obtain ⟨d1, d2⟩ := HROW.out.get0 (i := T) hTK (x := y) hy.symm
      rw [← hx] at hc x0 x1
      have hjT : (j : Int) / 4 = (T : Int) := by omega
      have hst : Hid (∀ t, (if t = T then y * 65536 + x else wl f n (j + 1) t) = wl f n j t) := fun t => by
        rw [wl_step f n j t (by omega), ← hT]
        by_cases e : t = T
        · rw [if_pos e, if_pos e, hx, hy, e]
        · rw [if_neg e, if_neg e]
      have hji : ((j + 1 : Nat) : Int) - 1 = (j : Int) := by omega
      have g1 : (j : Int).tdiv 4 = (T : Int) := by rw [Int.tdiv_eq_ediv_of_nonneg (by omega)]; exact hjT
      have g2 : IntKind.i64.wrap (T : Int) = T := IntWalk.i64_in _ (by omega)
      have g3 : IntKind.u64.wrap (y * 65536) = y * 65536 := IntWalk.u64_in _ (by omega)
      have g4 : IntKind.u64.wrap x = x := IntWalk.u64_in _ (by omega)
      have g5 : IntKind.u64.wrap (y * 65536 + x) = y * 65536 + x := IntWalk.u64_in _ (by omega)
      have g6 : (0 : Int) ≤ (T : Int) := by omega
      have g7 : (T : Int) < (K : Int) := by omega
      have g8 : (0 : Int) ≤ (j : Int) := by omega
      have g9 : (j : Int) < (n : Int) := by omega
      clear hx hT hy
      rw [hji]
      go_wp2_with fail
      go_region
      clear g1 g2 g3 g4 g5 g6 g7 g8 g9
      have hrow2 := (HROW.out.set0 hTK (y * 65536 + x)).congr fun t _ => hst.out t
      have hblk2 := HBLK.out.set T (.int .u64 (y * 65536 + x))
      have hgr2 := gb_trans hgr (gb_trans (gb_set wr ⟨w.heap.size, T, none⟩ (.int .u64 (y * 65536 + x))) (gb_drew _ _))
      have HN2 := Lib.hid (And.intro hrow2 (And.intro hblk2 hgr2))
      clear hrow2 hblk2 hgr2 HROW HBLK hgr
      go_wp2_with fail
      go_roundw
      case rel => exact ⟨j, by omega, by go_num, HN2.out.1.block rfl, HN2.out.2.1.grown (gb_drew _ none) (by simp), HN2.out.2.2⟩
      case measure => simp [intOf]

/-- the product so far: i rows done, j places of the next -/
structure MI (X Y : Nat → Int) (q K i j : Nat) (D : Nat → Int) (c : Int) : Prop where
  bd : ∀ t, 0 ≤ D t ∧ D t < 65536
  cb : 0 ≤ c ∧ c < 65536
  top : ∀ t, i + q ≤ t → D t = 0
  val : dv 65536 D K + c * 65536 ^ (i + j) = dv 65536 X i * dv 65536 Y q + X i * 65536 ^ i * dv 65536 Y j

theorem dv_upd (B : Int) (D : Nat → Int) (k : Nat) (v : Int) : ∀ {K : Nat}, k < K → dv B (fun t => if t = k then v else D t) K = dv B D K + (v - D k) * B ^ k
  | 0, h => absurd h (by omega)
  | K + 1, h => by
    simp only [dv]
    by_cases e : k = K
    · subst e
      rw [dv_congr (g := D) (fun i hi => if_neg (by omega)), if_pos rfl]; grind
    · rw [dv_upd B D k v (by omega), if_neg (by omega)]; grind

theorem mul_bd {x y d c : Int} (x0 : 0 ≤ x ∧ x < 65536) (y0 : 0 ≤ y ∧ y < 65536) (d0 : 0 ≤ d ∧ d < 65536) (c0 : 0 ≤ c ∧ c < 65536) :
    0 ≤ x * y ∧ x * y ≤ 4294836225 ∧ 0 ≤ (d + x * y + c) / 65536 ∧ (d + x * y + c) / 65536 < 65536 ∧ 0 ≤ (d + x * y + c) % 65536 ∧ (d + x * y + c) % 65536 < 65536 := by
  have h1 : 0 ≤ x * y := Int.mul_nonneg x0.1 y0.1
  have h2 : x * y ≤ 65535 * 65535 := Int.mul_le_mul (by omega) (by omega) y0.1 (by omega)
  omega

theorem MI.step {X Y : Nat → Int} {q K i j : Nat} {D : Nat → Int} {c : Int} (h : MI X Y q K i j D c) (hj : j < q) (hK : i + q ≤ K) (hX : 0 ≤ X i ∧ X i < 65536) (hY : 0 ≤ Y j ∧ Y j < 65536) :
    MI X Y q K i (j + 1) (fun t => if t = i + j then (D (i + j) + X i * Y j + c) % 65536 else D t) ((D (i + j) + X i * Y j + c) / 65536) := by
  obtain ⟨b1, b2, b3, b4, b5, b6⟩ := mul_bd hX hY (h.bd (i + j)) h.cb
  refine ⟨fun t => ?_, ⟨b3, b4⟩, fun t ht => ?_, ?_⟩
  · split
    · exact ⟨b5, b6⟩
    · exact h.bd t
  · rw [if_neg (by omega)]; exact h.top t ht
  · rw [dv_upd _ _ _ _ (by omega)]
    have hv := h.val
    simp only [dv]
    obtain ⟨s, hs⟩ : ∃ s, s = D (i + j) + X i * Y j + c := ⟨_, rfl⟩
    rw [← hs]
    have e : s % 65536 = s - 65536 * (s / 65536) := by omega
    rw [e, show i + (j + 1) = i + j + 1 by omega, Int.pow_succ]
    obtain ⟨u, hu⟩ : ∃ u, u = s / 65536 := ⟨_, rfl⟩
    rw [← hu]
    have hp : (65536 : Int) ^ (i + j) = 65536 ^ i * 65536 ^ j := Int.pow_add _ _ _
    rw [hp] at hv ⊢
    grind

theorem MI.row {X Y : Nat → Int} {q K i : Nat} {D : Nat → Int} {c : Int} (h : MI X Y q K i q D c) (hK : i + q < K) : MI X Y q K (i + 1) 0 (fun t => if t = i + q then c else D t) 0 := by
  refine ⟨fun t => ?_, by omega, fun t ht => ?_, ?_⟩
  · split
    · exact h.cb
    · exact h.bd t
  · rw [if_neg (by omega)]; exact h.top t (by omega)
  · rw [dv_upd _ _ _ _ hK, h.top (i + q) (Nat.le_refl _)]
    have hv := h.val
    simp only [dv] at hv ⊢
    grind

theorem MI.start (X Y : Nat → Int) (q K : Nat) : MI X Y q K 0 0 (fun _ => 0) 0 :=
  ⟨fun _ => by omega, by omega, fun _ _ => rfl, by rw [dv_zero (fun _ _ => rfl)]; simp [dv]⟩
theorem MI.next {X Y : Nat → Int} {q K i : Nat} {D : Nat → Int} {c : Int} (h : MI X Y q K i 0 D c) : MI X Y q K i 0 D 0 ↔ c = 0 ∨ MI X Y q K i 0 D 0 := ⟨Or.inr, fun h' => by
  rcases h' with e | h'
  · subst e; exact h
  · exact h'⟩

set_option maxHeartbeats 1000000 in
set_option maxRecDepth 100000 in
theorem Mul02_any (x y : Value) (n m : Nat) (f g : Nat → Int) (w : World) (hn : n ≤ 274877906944) (hm : m ≤ 274877906944) (hx : RdW w x n f) (hy : RdW w y m g) :
    Calls Try.prog 96 #[x, y] w fun e w' => ∃ v, e = .returned v ∧ FrN w' w.heap.size v (natFrom f 0 n * natFrom g 0 m) ∧ Below w.heap.size w w' := by
  have HX := Lib.hid hx
  have HY := Lib.hid hy
  have lt1 : natFrom f 0 n < 65536 ^ (4 * n) := by
    rw [natFrom_dv0, Int.pow_mul]; exact (dv_bd (by omega) (fun i hi => by have := hx.2 i hi; omega)).2
  have lt2 : natFrom g 0 m < 65536 ^ (4 * m) := by
    rw [natFrom_dv0, Int.pow_mul]; exact (dv_bd (by omega) (fun i hi => by have := hy.2 i hi; omega)).2
  have HL1 := Lib.hid lt1
  have HL2 := Lib.hid lt2
  obtain ⟨ax, cx, rfl, -⟩ := hx.1
  obtain ⟨ay, cy, rfl, -⟩ := hy.1
  clear hx hy lt1 lt2
  go_enter Try.func96, Try.ntmps96
  go_wp2_with fail
  refine (digits_any _ n f _ (by omega) HX.out).mono ?_
  rintro e w1 ⟨v1, rfl, ⟨p, f1, hf1, hd1⟩, hb1⟩
  have hp : p ≤ 4 * n := hd1.len (by omega) HL1.out
  obtain ⟨a1, k1, rfl⟩ := hf1.slice
  have HF1 := Lib.hid hf1
  have HD1 := Lib.hid hd1
  clear hf1 hd1
  go_wp2_with fail
  refine (digits_any _ m g _ (by omega) (HY.out.below hb1)).mono ?_
  rintro e w2 ⟨v2, rfl, ⟨q, f2, hf2, hd2⟩, hb2⟩
  have hq : q ≤ 4 * m := hd2.len (by omega) HL2.out
  obtain ⟨a2, k2, rfl⟩ := hf2.slice
  have HF1 := Lib.hid (HF1.out.below hb2)
  have HF2 := Lib.hid hf2
  have HD2 := Lib.hid hd2
  have HB := Lib.hid (hb1.trans (hb2.mono hb1.size))
  clear hf2 hd2 hb1 hb2
  obtain ⟨K, hK⟩ : ∃ K, K = p + q := ⟨_, rfl⟩
  have hKb : K ≤ 8796093022208 := by omega
  have mk : ∀ u : World, (Instr.makeSlice 45 (.int .i64 ((p : Int) + q)) (.int .i64 ((p : Int) + q))).run Try.prog u =
      .ok (.slice (some ⟨u.heap.size, 0, none⟩) K K) (u.alloc (.cells (madeCells #[.int .i64 0] K) 3)) := by
    rw [show (p : Int) + q = (K : Int) by omega]; exact mk_nums K K (Nat.le_refl _) (by omega)
  have HK := Lib.hid hK
  clear hK
  go_wp2_with fail
  have hr0 := (CellsAt.row (f := fun _ => 0) (CellsAt.made w2 (.int .i64 0) K 3))
  have hg0 := World.grownBy_alloc w2 (.cells (madeCells #[.int .i64 0] K) 3) (some w2.heap.size)
  obtain ⟨db, hdb⟩ : ∃ db, db = w2.heap.size := ⟨_, rfl⟩
  have hdw : w.heap.size ≤ db := by rw [hdb]; exact HB.out.size
  have hof1 := HF1.out.off
  have hof2 := HF2.out.off
  rw [← hdb] at hr0 hg0 hof1 hof2 ⊢
  have HR0 := Lib.hid hr0
  have HG0 := Lib.hid hg0
  have hat1 := fun (wr : World) (hg : w2.grownBy wr (some db)) => (wd_get (HF1.out.grown hg hof1).read)
  have hat2 := fun (wr : World) (hg : w2.grownBy wr (some db)) => (wd_get (HF2.out.grown hg hof2).read)
  have HA1 := Lib.hid hat1
  have HA2 := Lib.hid hat2
  clear hr0 hg0 hof1 hof2 hat1 hat2 mk hdb
  generalize w2.alloc (.cells (madeCells #[.int .i64 0] K) 3) = w4 at HR0 HG0 ⊢
  go_loopw [8] (fun iv wr => ∃ (i : Nat) (D : Nat → Int), i ≤ p ∧ iv = .int .i64 i ∧ MI f1 f2 q K i 0 D 0 ∧ RowAt .i64 wr db 0 K D ∧ w2.grownBy wr (some db)) (fun iv _ => p - (intOf iv).toNat)
  case atStart => exact ⟨0, fun _ => 0, by omega, rfl, MI.start _ _ _ _, HR0.out, HG0.out⟩
  case round =>
    clear HR0 HG0
    obtain ⟨i, D, i1, rfl, hmi, hrow, hgr⟩ := hrel
    have HMI := Lib.hid hmi
    have HROW := Lib.hid hrow
    clear hmi hrow
    by_cases hi : i < p
    · go_wp2_with fail
      go_loopw [9, 10] (fun cv jv wr => ∃ (j : Nat) (D : Nat → Int) (c : Int), j ≤ q ∧ jv = .int .i64 j ∧ cv = .int .i64 c ∧ MI f1 f2 q K i j D c ∧ RowAt .i64 wr db 0 K D ∧ w2.grownBy wr (some db)) (fun _ jv _ => q - (intOf jv).toNat)
      case atStart => exact ⟨0, D, 0, by omega, rfl, rfl, HMI.out, HROW.out, hgr⟩
      case round =>
        clear HMI HROW hgr D
        obtain ⟨j, D, c, j1, rfl, rfl, hmi, hrow, hgr⟩ := hrel
        have HMI := Lib.hid hmi
        have HROW := Lib.hid hrow
        obtain ⟨c0, c1⟩ := hmi.cb
        clear hmi hrow
        by_cases hj : j < q
        · obtain ⟨_, _, e1, -, -, hcell⟩ := HA1.out wr hgr
          simp only [Value.slice.injEq, true_and] at e1
          obtain ⟨b1, o1, rfl, hc1⟩ := hcell i hi
          obtain ⟨rfl, rfl⟩ := e1
          clear hcell
          obtain ⟨_, _, e1, -, -, hcell⟩ := HA2.out wr hgr
          simp only [Value.slice.injEq, true_and] at e1
          obtain ⟨b2, o2, rfl, hc2⟩ := hcell j hj
          obtain ⟨rfl, rfl⟩ := e1
          clear hcell
          obtain ⟨x0, x1⟩ := HD1.out.bd i hi
          obtain ⟨y0, y1⟩ := HD2.out.bd j hj
          obtain ⟨d0, d1⟩ := HMI.out.bd (i + j)
          obtain ⟨t, ht⟩ : ∃ t, t = i + j := ⟨_, rfl⟩
          have htK : t < K := by have := HK.out; omega
          obtain ⟨q1, q2⟩ := HROW.out.get0 (i := t) htK rfl
          have hm2 := HMI.out.step hj (by have := HK.out; omega) ⟨x0, x1⟩ ⟨y0, y1⟩
          rw [← ht] at d0 d1 hm2
          obtain ⟨xv, hxv⟩ : ∃ xv, xv = f1 i := ⟨_, rfl⟩
          obtain ⟨yv, hyv⟩ : ∃ yv, yv = f2 j := ⟨_, rfl⟩
          obtain ⟨dvv, hdv⟩ : ∃ dvv, dvv = D t := ⟨_, rfl⟩
          rw [← hxv] at hc1 x0 x1 hm2
          rw [← hyv] at hc2 y0 y1 hm2
          rw [← hdv] at q1 d0 d1 hm2
          obtain ⟨b1', b2', b3', b4', b5', b6'⟩ := mul_bd ⟨x0, x1⟩ ⟨y0, y1⟩ ⟨d0, d1⟩ ⟨c0, c1⟩
          have hrow2 := HROW.out.set0 htK ((dvv + xv * yv + c) % 65536)
          have HM2 := Lib.hid hm2
          have HROW2 := Lib.hid hrow2
          have hij : (i : Int) + j = (t : Int) := by omega
          have g1 : IntKind.i64.wrap (t : Int) = t := IntWalk.i64_in _ (by omega)
          have g2 : IntKind.i64.wrap ((i : Int) + j) = t := by rw [hij]; exact g1
          have g3 : IntKind.i64.wrap (xv * yv) = xv * yv := IntWalk.i64_in _ (by omega)
          have g4 : IntKind.i64.wrap (dvv + xv * yv) = dvv + xv * yv := IntWalk.i64_in _ (by omega)
          have g5 : IntKind.i64.wrap (dvv + xv * yv + c) = dvv + xv * yv + c := IntWalk.i64_in _ (by omega)
          have g6 : (0 : Int) ≤ t := by omega
          have g7 : (t : Int) < K := by omega
          clear hxv hyv hdv hm2 hrow2 ht
          go_wp2_with fail
          go_region
          clear g2 g3 g4 g5
          obtain ⟨s, hs⟩ : ∃ s, s = dvv + xv * yv + c := ⟨_, rfl⟩
          rw [← hs] at HM2 HROW2 b3' b4' b5' b6' ⊢
          have hs0 : 0 ≤ s := by omega
          have hs1 : s ≤ 4294967295 := by omega
          have hrow3 : RowAt .i64 (wr.drew.setCell ⟨db, t, none⟩ (.int .i64 (s % 65536))) db 0 K (fun i => if i = t then s % 65536 else D i) := HROW2.out.block rfl
          have hgr3 := gb_trans hgr (gb_trans (gb_drew wr (some db)) (gb_set wr.drew ⟨db, t, none⟩ (.int .i64 (s % 65536))))
          have HN := Lib.hid (And.intro hrow3 hgr3)
          clear hs hrow3 hgr3 hgr HROW HROW2 b1' b2'
          go_wp2_with fail
          go_roundw
          case rel => exact ⟨j + 1, _, _, by omega, by go_num, rfl, HM2.out, HN.out.1, HN.out.2⟩
          case measure => simp [intOf]; omega
        · obtain rfl : j = q := by omega
          have hK2 : i + j < K := by have := HK.out; omega
          obtain ⟨q1, q2⟩ := HROW.out.get0 (i := i + j) hK2 (x := 0) (HMI.out.top _ (Nat.le_refl _))
          have hm2 := HMI.out.row hK2
          have hrow2 := HROW.out.set0 hK2 c
          have hgr2 := gb_trans hgr (gb_set wr ⟨db, i + j, none⟩ (.int .i64 c))
          have HM2 := Lib.hid hm2
          have HN := Lib.hid (And.intro hrow2 hgr2)
          have hi63 : (i : Int) + j < K := by omega
          clear hm2 hrow2 hgr2 HMI HROW hgr
          go_wp2_with fail
          go_roundw
          case rel => exact ⟨i + 1, _, by omega, by go_num, HM2.out, HN.out.1, HN.out.2⟩
          case measure => simp [intOf]; omega
    · obtain rfl : i = p := by omega
      have hval : dv 65536 D K = natFrom f 0 n * natFrom g 0 m := by
        have h1 := HMI.out.val
        simp only [dv] at h1
        rw [HD1.out.val, HD2.out.val] at h1
        simpa using h1
      have hread : RdA .i64 wr (.slice (some ⟨db, 0, none⟩) K K) K D := ⟨_, K, rfl, Nat.le_refl _, by omega, fun _ => ⟨db, 0, rfl, fun t ht => (HROW.out t ht).1⟩⟩
      have hw := words_any _ K D wr (by omega) (fun t _ => HMI.out.bd t) hread
      rw [hval] at hw
      have HW := Lib.hid hw
      have HBW := Lib.hid (HB.out.grown hgr HB.out.size (fun k hk => by injection hk with hk; omega))
      clear hval hread hw hgr HMI HROW
      go_wp2_with fail
      refine HW.out.mono ?_
      rintro e w6 ⟨v6, rfl, hfn, hb6⟩
      obtain ⟨a6, n6, cap6, f6, rfl, h1, h2⟩ := hfn.nat
      have H1 := Lib.hid (h1.mono HBW.out.size)
      have H2 := Lib.hid h2
      clear h1 h2 hfn
      go_wp2_with fail
      go_ret
      exact ⟨_, rfl, ⟨n6, f6, H1.out, H2.out⟩, HBW.out.trans (hb6.mono HBW.out.size)⟩

end Go.Proofs.Ytdlpemmoobbgnaa

namespace Go.Proofs.Ytdlpemmoobbgnaa
open Go.RowKit

theorem mulZ (p q : Bool) (N M : Int) : (if p then -N else N) * (if q then -M else M) = if (p != q) then -(N * M) else N * M := by
  cases p <;> cases q <;> simp <;> grind

set_option maxHeartbeats 1000000 in
theorem Mul05_any (x y : Value) (a b : Int) (w : World) (hx : RdZ w x a) (hy : RdZ w y b) :
    Calls Try.prog 69 #[x, y] w fun e w' => ∃ v, e = .returned v ∧ FrZ w' w.heap.size v (a * b) ∧ Below w.heap.size w w' := by
  obtain ⟨p, am, n, cm, f, rfl, hr, hn, ha⟩ := hx.parts
  obtain ⟨q, al, m, cl, g, rfl, hs, hm, hb'⟩ := hy.parts
  obtain ⟨⟨x0, x1, y0, y1, z0, z1, z2, z3⟩, hb, hs3⟩ := boxes3 w (.bool p) (.slice am n cm) (.bool q) (.slice al m cl) (.bool false) (.slice none 0 0) 56
  have hmul := Mul02_any _ _ n m f g _ hn hm (hr.below hb) (hs.below hb)
  have hz : a * b = if (p != q) then -(natFrom f 0 n * natFrom g 0 m) else natFrom f 0 n * natFrom g 0 m := by rw [ha, hb', mulZ]
  have hlt : natFrom f 0 n * natFrom g 0 m < 18446744073709551616 ^ (n + m) := by
    have h1 := natFrom_bd hr.2
    have h2 := natFrom_bd hs.2
    rw [Int.pow_add]
    have h3 := pow_pos' (show (0 : Int) < 18446744073709551616 by omega) m
    have h4 : natFrom f 0 n * natFrom g 0 m ≤ natFrom f 0 n * 18446744073709551616 ^ m := Int.mul_le_mul_of_nonneg_left (by omega) h1.1
    have h5 : natFrom f 0 n * (18446744073709551616 : Int) ^ m < 18446744073709551616 ^ n * 18446744073709551616 ^ m := Int.mul_lt_mul_of_pos_right h1.2 h3
    omega
  generalize natFrom f 0 n * natFrom g 0 m = N at hmul hz hlt
  obtain ⟨z, hze⟩ : ∃ z, z = a * b := ⟨_, rfl⟩
  rw [← hze] at hz ⊢
  have HMUL := Lib.hid hmul
  have HZ := Lib.hid hz
  have HLT := Lib.hid hlt
  have HB := Lib.hid hb
  have HS3 := Lib.hid hs3
  clear hx hy hr hs ha hb' hb hs3 hmul hz hlt hze
  go_enter Try.func69, Try.ntmps69
  go_wp2_with fail
  refine HMUL.out.mono ?_
  rintro e w4 ⟨v4, rfl, hfn, hb4⟩
  obtain ⟨a4, n4, cap4, f4, rfl, h1, h2⟩ := hfn.nat
  have hn4 : n4 ≤ 1099511627776 := by have := h2.len (by omega) HLT.out; omega
  have z0' := z0
  have z1' := z1
  have z0 := cell_stays hb4 z0
  have z1 := cell_stays hb4 z1
  have z2 := froz_stays hb4 z0' z2
  have z3 := froz_stays hb4 z1' z3
  have x0 := cell_stays hb4 x0
  have y0 := cell_stays hb4 y0
  have hmk := made_any (p != q) (.slice a4 n4 cap4) n4 f4 w4 hn4 ⟨h1.read, h2.words⟩
  rw [natFrom_dv0, h2.val, ← HZ.out] at hmk
  have HMK := Lib.hid hmk
  have HBW4 := Lib.hid (HB.out.trans (hb4.mono (HB.out.size)))
  have HSZ := Lib.hid hb4.size
  clear h1 h2 hfn hmk hb4 z0' z1'
  go_wp2_with fail
  refine HMK.out.mono ?_
  rintro e w5 ⟨v5, rfl, hz, hb5⟩
  have z0' := z0
  have z1' := z1
  have z0 := cell_stays hb5 z0
  have z1 := cell_stays hb5 z1
  have z2 := froz_stays hb5 z0' z2
  have z3 := froz_stays hb5 z1' z3
  have HBW5 := Lib.hid (HBW4.out.trans (hb5.mono HBW4.out.size))
  obtain ⟨aq, nq, cq, rfl, hst⟩ := FrZ.stored (b := w.heap.size + 1 + 1) (hz.mono (by have := HS3.out; have := HSZ.out; omega))
  have hbl : Below w.heap.size w (stored2 w5 (w.heap.size + 1 + 1) (.bool (decide (z < 0))) (.slice aq nq cq)) := HBW5.out.grown (stored2_gb _ _ _ _) HBW5.out.size (fun k hk => by injection hk with hk; omega)
  have HST := Lib.hid (hst.mono (show w.heap.size ≤ w.heap.size + 1 + 1 by omega))
  have HBL := Lib.hid hbl
  clear hz hst hbl hb5 z0' z1'
  go_wp2_with fail
  refine bodyPost_ret (v := .agg #[.bool (decide (z < 0)), .slice aq nq cq]) ?_ rfl ⟨_, rfl, HST.out, HBL.out⟩
  simp [results, Try.results69, go_sem, z0, z1]

/-- four boxes of two cells, just made -/
theorem boxes4 (w : World) (a0 a1 b0 b1 d0 d1 c0 c1 : Value) (t : TypeId) :
    let W := (((w.alloc (.cells #[a0, a1] t)).alloc (.cells #[b0, b1] t)).alloc (.cells #[d0, d1] t)).alloc (.cells #[c0, c1] t)
    (W.cell? ⟨w.heap.size, 0, none⟩ = some a0 ∧ W.cell? ⟨w.heap.size, 1, none⟩ = some a1 ∧ W.cell? ⟨w.heap.size + 1, 0, none⟩ = some b0 ∧ W.cell? ⟨w.heap.size + 1, 1, none⟩ = some b1 ∧
      W.cell? ⟨w.heap.size + 1 + 1, 0, none⟩ = some d0 ∧ W.cell? ⟨w.heap.size + 1 + 1, 1, none⟩ = some d1 ∧
      W.cell? ⟨w.heap.size + 1 + 1 + 1, 0, none⟩ = some c0 ∧ W.cell? ⟨w.heap.size + 1 + 1 + 1, 1, none⟩ = some c1 ∧ W.frozen? ⟨w.heap.size + 1 + 1 + 1, 0, none⟩ = false ∧ W.frozen? ⟨w.heap.size + 1 + 1 + 1, 1, none⟩ = false) ∧
    Below w.heap.size w W ∧ W.heap.size = w.heap.size + 4 := by
  intro W
  obtain ⟨w3, h3⟩ : ∃ w3, w3 = ((w.alloc (.cells #[a0, a1] t)).alloc (.cells #[b0, b1] t)).alloc (.cells #[d0, d1] t) := ⟨_, rfl⟩
  obtain ⟨⟨x0, x1, y0, y1, z0, z1, -, -⟩, hb, hs⟩ := boxes3 w a0 a1 b0 b1 d0 d1 t
  rw [← h3] at x0 x1 y0 y1 z0 z1 hb hs
  have hW : W = w3.alloc (.cells #[c0, c1] t) := by rw [h3]
  have b3 : Below w3.heap.size w3 W := by rw [hW]; exact (Below.refl _ _).alloc (Nat.le_refl _) _
  have k3 := cells2 w3 c0 c1 t
  rw [← hW, hs] at k3
  have sW : W.heap.size = w.heap.size + 4 := by rw [hW]; simp [hs]
  clear_value W
  exact ⟨⟨cell_stays b3 x0, cell_stays b3 x1, cell_stays b3 y0, cell_stays b3 y1, cell_stays b3 z0, cell_stays b3 z1, (k3 0 _ rfl).1, (k3 1 _ rfl).1, (k3 0 _ rfl).2, (k3 1 _ rfl).2⟩, hb.trans (b3.mono (by omega)), sW⟩

set_option maxHeartbeats 1000000 in
theorem MulAdd05_any (x y u : Value) (a b c : Int) (S : Nat) (hS : S ≤ 274877906944) (hab : ZB S (a * b)) (w : World) (hx : RdZ w x a) (hy : RdZ w y b) (hu : RdZ w u c) :
    Calls Try.prog 40 #[x, y, u] w fun e w' => ∃ v, e = .returned v ∧ FrZ w' w.heap.size v (a * b + c) ∧ Below w.heap.size w w' := by
  obtain ⟨p, am, n, cm, f, rfl, -⟩ := hx.parts
  obtain ⟨q, al, m, cl, g, rfl, -⟩ := hy.parts
  obtain ⟨r, ao, l, co, h, rfl, -⟩ := hu.parts
  obtain ⟨⟨x0, x1, y0, y1, t0, t1, z0, z1, z2, z3⟩, hb, hs3⟩ := boxes4 w (.bool p) (.slice am n cm) (.bool q) (.slice al m cl) (.bool r) (.slice ao l co) (.bool false) (.slice none 0 0) 56
  have HMUL := Lib.hid (Mul05_any _ _ _ _ _ (hx.below hb) (hy.below hb))
  have HU := Lib.hid (hu.below hb)
  have HZB := Lib.hid hab
  have HB := Lib.hid hb
  have HS3 := Lib.hid hs3
  clear hx hy hu hab hb hs3
  go_enter Try.func40, Try.ntmps40
  go_wp2_with fail
  refine HMUL.out.mono ?_
  rintro e w4 ⟨v4, rfl, hz, hb4⟩
  have hrd := hz.rd HZB.out hS
  obtain ⟨mv, n4, f4, rfl, h1, h2⟩ := hz
  obtain ⟨a4, cap4, rfl⟩ := h1.slice
  have z0' := z0
  have z1' := z1
  have z0 := cell_stays hb4 z0
  have z1 := cell_stays hb4 z1
  have z2 := froz_stays hb4 z0' z2
  have z3 := froz_stays hb4 z1' z3
  have t0 := cell_stays hb4 t0
  have t1 := cell_stays hb4 t1
  have hb5 : Below w4.heap.size w4 (w4.alloc (.cells #[.bool (decide (a * b < 0)), .slice a4 n4 cap4] 56)) := (Below.refl _ _).alloc (Nat.le_refl _) _
  have hadd := Add05_any _ _ _ _ _ (hrd.below hb5) ((HU.out.below hb4).below hb5)
  have z0' := z0
  have z1' := z1
  have z0 := cell_stays hb5 z0
  have z1 := cell_stays hb5 z1
  have z2 := froz_stays hb5 z0' z2
  have z3 := froz_stays hb5 z1' z3
  have t0 := cell_stays hb5 t0
  have t1 := cell_stays hb5 t1
  have HADD := Lib.hid hadd
  have HB5 := Lib.hid ((HB.out.trans (hb4.mono HB.out.size)).trans (hb5.mono (Nat.le_trans HB.out.size hb4.size)))
  have HSZ := Lib.hid (Nat.le_trans hb4.size hb5.size)
  clear h1 h2 hrd hb4 hb5 hadd z0' z1'
  go_wp2_with fail
  refine HADD.out.mono ?_
  rintro e w5 ⟨v5, rfl, hz, hb5⟩
  have z0' := z0
  have z1' := z1
  have z0 := cell_stays hb5 z0
  have z1 := cell_stays hb5 z1
  have z2 := froz_stays hb5 z0' z2
  have z3 := froz_stays hb5 z1' z3
  have HBW5 := Lib.hid (HB5.out.trans (hb5.mono HB5.out.size))
  obtain ⟨aq, nq, cq, rfl, hst⟩ := FrZ.stored (b := w.heap.size + 1 + 1 + 1) (hz.mono (by have := HS3.out; have := HSZ.out; omega))
  have hbl : Below w.heap.size w (stored2 w5 (w.heap.size + 1 + 1 + 1) (.bool (decide (a * b + c < 0))) (.slice aq nq cq)) := HBW5.out.grown (stored2_gb _ _ _ _) HBW5.out.size (fun k hk => by injection hk with hk; omega)
  have HST := Lib.hid (hst.mono (show w.heap.size ≤ w.heap.size + 1 + 1 + 1 by omega))
  have HBL := Lib.hid hbl
  clear hz hst hbl hb5 z0' z1'
  go_wp2_with fail
  refine bodyPost_ret (v := .agg #[.bool (decide (a * b + c < 0)), .slice aq nq cq]) ?_ rfl ⟨_, rfl, HST.out, HBL.out⟩
  simp [results, Try.results40, go_sem, z0, z1]

end Go.Proofs.Ytdlpemmoobbgnaa

namespace Go.Proofs.Ytdlpemmoobbgnaa
open Go.RowKit

theorem FrZ.grown {w w' : World} {base lb : Nat} {v : Value} {z : Int} (h : FrZ w base v z) (hg : w.grownBy w' (some lb)) (hl : lb < base) : FrZ w' base v z := by
  obtain ⟨m, n, f, rfl, h1, h2⟩ := h
  refine ⟨m, n, f, rfl, h1.grown hg ?_, h2⟩
  cases hb : m.ownBlock with
  | none => exact Or.inl rfl
  | some b => right; have := (h1.lt hb).1; intro e; injection e with e; omega
theorem dig_none : Dig 18446744073709551616 0 (fun _ => 0) 0 := by
  constructor
  all_goals first | rfl | (intro h; omega) | (intro i hi; omega)
theorem frz_zero (w : World) (base : Nat) : FrZ w base (.agg #[.bool false, .slice none 0 0]) 0 :=
  ⟨.slice none 0 0, 0, fun _ => 0, rfl, Or.inl ⟨rfl, rfl⟩, dig_none⟩

/-- block lb holds n integers, z 0, z 1, .., each in least form and in memory of the call's own -/
structure ZG (T : TypeId) (w : World) (base bm lb n : Nat) (z : Nat → Int) : Prop where
  blk : Blk w lb (2 * n) T
  own : base ≤ lb
  lt : lb < bm
  cells : ∀ q, q < n → ∃ a m c, w.cell? ⟨lb, q * 2, none⟩ = some (.bool (decide (z q < 0))) ∧ w.cell? ⟨lb, q * 2 + 1, none⟩ = some (.slice a m c) ∧ FrZ w bm (.agg #[.bool (decide (z q < 0)), .slice a m c]) (z q)

section
variable {T : TypeId} {w w' : World} {base bm lb n : Nat} {z : Nat → Int}

theorem ZG.below (h : ZG T w base bm lb n z) (hb : Below w.heap.size w w') : ZG T w' base bm lb n z :=
  { h with
    blk := h.blk.grown (gb_below hb none) (by simp)
    cells := fun q hq => by
      obtain ⟨a, m, c, h1, h2, h3⟩ := h.cells q hq
      exact ⟨a, m, c, cell_stays hb h1, cell_stays hb h2, h3.below hb⟩ }
theorem ZG.mono (h : ZG T w base bm lb n z) {base' : Nat} (h1 : base' ≤ base) : ZG T w base' bm lb n z := { h with own := Nat.le_trans h1 h.own }
theorem ZG.congr (h : ZG T w base bm lb n z) {y : Nat → Int} (e : ∀ i, i < n → z i = y i) : ZG T w base bm lb n y :=
  { h with cells := fun q hq => by rw [← e q hq]; exact h.cells q hq }
theorem ZG.froz (h : ZG T w base bm lb n z) {i : Nat} (hi : i < 2 * n) : w.frozen? ⟨lb, i, none⟩ = false := (h.blk.cell hi).2
/-- a store beside all of it -/
theorem ZG.set (h : ZG T w base bm lb n z) {a : Addr} (ha : a.block < bm) (hl : a.block ≠ lb) (v : Value) : ZG T (w.setCell a v) base bm lb n z :=
  { h with
    blk := h.blk.other hl v
    cells := fun q hq => by
      obtain ⟨x, m, c, h1, h2, h3⟩ := h.cells q hq
      have hg := gb_set w a v
      exact ⟨x, m, c, hg.cell h1 (by intro e; injection e with e; exact hl e.symm), hg.cell h2 (by intro e; injection e with e; exact hl e.symm), h3.grown hg ha⟩ }

theorem ZG.start (w : World) (hb : base ≤ w.heap.size) (hn : w.heap.size < bm) (n : Nat) : ZG T (w.alloc (.cells (madeCells #[.bool false, .slice none 0 0] (n * 2)) T)) base bm w.heap.size n (fun _ => 0) := by
  refine ⟨⟨_, heap_alloc_new w _, by simp [madeCells]; omega⟩, hb, hn, fun q hq => ⟨none, 0, 0, ?_, ?_, frz_zero _ _⟩⟩
  · rw [cell_of_row _ _ _ _ _ _ (heap_alloc_new w _)]
    simp [madeCells, show q * 2 < n * 2 by omega]
  · rw [cell_of_row _ _ _ _ _ _ (heap_alloc_new w _)]
    simp [madeCells, show q * 2 + 1 < n * 2 by omega]

/-- one entry written -/
theorem ZG.put (h : ZG T w base bm lb n z) {k : Nat} (hk : k < n) {y : Int} {a : Option Addr} {m c : Nat} (hz : FrZ w bm (.agg #[.bool (decide (y < 0)), .slice a m c]) y) :
    ZG T ((w.setCell ⟨lb, k * 2, none⟩ (.bool (decide (y < 0)))).setCell ⟨lb, k * 2 + 1, none⟩ (.slice a m c)) base bm lb n (fun q => if q = k then y else z q) := by
  have hg : w.grownBy ((w.setCell ⟨lb, k * 2, none⟩ (.bool (decide (y < 0)))).setCell ⟨lb, k * 2 + 1, none⟩ (.slice a m c)) (some lb) := gb_trans (gb_set _ _ _) (gb_set _ _ _)
  obtain ⟨u1, e1⟩ := Option.isSome_iff_exists.1 (h.blk.cell (i := k * 2) (by omega)).1
  obtain ⟨u2, e2⟩ := Option.isSome_iff_exists.1 (h.blk.cell (i := k * 2 + 1) (by omega)).1
  refine ⟨(h.blk.set _ _).set _ _, h.own, h.lt, fun q hq => ?_⟩
  by_cases e : q = k
  · subst e
    rw [if_pos rfl]
    refine ⟨a, m, c, ?_, ?_, hz.grown hg h.lt⟩
    · rw [World.cell?_setCell_other _ _ _ _ (by intro e; injection e with _ e _; omega)]
      exact World.cell?_setCell_same _ _ _ e1
    · refine World.cell?_setCell_same _ _ _ (u := u2) ?_
      rw [World.cell?_setCell_other _ _ _ _ (by intro e; injection e with _ e _; omega)]; exact e2
  · rw [if_neg e]
    obtain ⟨x, m', c', h1, h2, h3⟩ := h.cells q hq
    refine ⟨x, m', c', ?_, ?_, h3.grown hg h.lt⟩
    · rw [World.cell?_setCell_other _ _ _ _ (by intro e; injection e with _ e _; omega), World.cell?_setCell_other _ _ _ _ (by intro e; injection e with _ e _; omega)]; exact h1
    · rw [World.cell?_setCell_other _ _ _ _ (by intro e; injection e with _ e _; omega), World.cell?_setCell_other _ _ _ _ (by intro e; injection e with _ e _; omega)]; exact h2

instance : Inhabited Raw := ⟨⟨false, 0, fun _ => 0⟩⟩
theorem ZG.read (h : ZG T w base bm lb n z) (hn : n ≤ 1048576) {S : Nat} (hS : S ≤ 274877906944) (hz : ∀ q, q < n → ZB S (z q)) :
    ∃ x, RdL w (.slice (some ⟨lb, 0, none⟩) n n) n x ∧ ∀ q, q < n → (x q).n ≤ S ∧ (x q).val = z q := by
  have key : ∀ q, q < n → ∃ r : Raw, (∃ m, w.cell? ⟨lb, 0 + q * 2, none⟩ = some (.bool r.neg) ∧ w.cell? ⟨lb, 0 + q * 2 + 1, none⟩ = some m ∧ RdW w m r.n r.f) ∧ r.n ≤ S ∧ r.val = z q := fun q hq => by
    obtain ⟨a, m, c, h1, h2, h3⟩ := h.cells q hq
    have h4 := h3
    obtain ⟨m', nn, f, e, g1, g2⟩ := h4
    have hnS : nn ≤ S := g2.len (by omega) (hz q hq)
    obtain ⟨r, ⟨mv, e2, hr⟩, hv, -⟩ := h3.rd (hz q hq) hS
    simp only [Value.agg.injEq, Array.mk.injEq, List.cons.injEq, and_true] at e e2
    obtain ⟨_, rfl⟩ := e
    obtain ⟨e3, rfl⟩ := e2
    obtain ⟨aa, cc, e4, -⟩ := hr.1
    obtain ⟨ab, cb, e5, -⟩ := g1.read
    have hnn : r.n = nn := by rw [e4] at e5; injection e5
    refine ⟨r, ⟨_, ?_, by rw [Nat.zero_add]; exact h2, hr⟩, by omega, hv⟩
    rw [Nat.zero_add, ← e3]; exact h1
  obtain ⟨x, hx⟩ := Go.Deep.choose_lt (α := Raw) key
  exact ⟨x, ⟨some ⟨lb, 0, none⟩, n, rfl, Nat.le_refl _, by omega, fun _ => ⟨lb, 0, rfl, fun i hi => (hx i hi).1⟩⟩, fun q hq => (hx q hq).2⟩
end

set_option maxHeartbeats 400000 in
theorem Check09_any (r c : Int) (a : Option Addr) (n cap : Nat) (hn : n ≤ 17592186044416) (w : World) (hr : 0 ≤ r ∧ r ≤ 64) (hc : 0 ≤ c ∧ c ≤ 64) (he : (n : Int) = r * c) :
    Calls Try.prog 41 #[.agg #[.int .i64 r, .int .i64 c, .slice a n cap]] w fun e w' => e = .returned (.int .i64 0) ∧ Below w.heap.size w w' := by
  obtain ⟨m0, m1⟩ := prod64 hr hc
  obtain ⟨h0, h1⟩ := hr
  obtain ⟨h2, h3⟩ := hc
  have hne : ((n : Int) != r * c) = false := by rw [bne_eq_false_iff_eq]; exact he
  clear he
  go_enter Try.func41, Try.ntmps41
  go_wp2_with fail
  go_ret
  exact ⟨rfl, (Below.refl _ _).alloc (Nat.le_refl _) _⟩

theorem mk_full (R C : Nat) (hR : R ≤ 64) (hC : C ≤ 64) (u : World) : (Instr.makeSlice 32 (.int .i64 ((R : Int) * C)) (.int .i64 ((R : Int) * C))).run Try.prog u =
    .ok (.slice (some ⟨u.heap.size, 0, none⟩) (R * C) (R * C)) (u.alloc (.cells (madeCells #[.bool false, .slice none 0 0] (R * C * 2)) 56)) := by
  obtain ⟨i0, hi, hz0, hz1, hz2⟩ := info_parts infoI
  have hn : R * C ≤ 4096 := Nat.mul_le_mul hR hC
  have e : ((R : Int) * C) = ((R * C : Nat) : Int) := by simp
  rw [e]
  have h := run_make (P := Try.prog) u 32 56 i0 (.agg #[.bool false, .slice none 0 0]) Try.underlying32 hi hz0 .i64 .i64 ((R * C : Nat) : Int) ((R * C : Nat) : Int) (by omega) (by omega) (by rw [hz2]; omega) (by omega)
  rw [Int.toNat_natCast] at h
  simpa only [hz1, Value.cells] using h
end Go.Proofs.Ytdlpemmoobbgnaa
