/- The walks of trellisref01.trim, Split, Join, Least. The walks of trellisref01.Join, Least; trellisref05.made, Least, Of, Neg, Abs. The walks of trellisref01.order, Cmp, at, Add, Sub. The walk of trellisref01.Sub. The walks of trellisref05.made, Least, Of, Abs, Sign, Add, Sub. The walks of trellisref05.Sub, Least, Abs, Sign, Of (numbers from 0 on). The walks of trellisref02.digits, words. The walks of trellisref02.words, Mul. The walks of trellisref05.Mul, MulAdd. Matrices of integers that a call fills entry by entry (layer 9's answers); the check of a shape, a matrix of zeros. -/
import Derived.Test.YtdlpemmoobbgnaaGA
import Derived.Test.YtdlpemmoobbgnaaGB
import Derived.Deep.DeepCutAuto
import Derived.BigRegion
import Derived.BigQuiet
import Derived.Deep.RegionWith
import Derived.Deep.Slices
set_option linter.unusedVariables false
set_option linter.unusedSimpArgs false
namespace Go.Proofs.Ytdlpemmoobbgnaa
open Go.RowKit

theorem infoN : (Try.prog.info? 3).map (fun i => (i.zero, i.size, i.bytes)) = some (some (.int .i64 0), 1, 8) := by kernel_rfl

/-- fresh digits of the number N to the base 2^16; fresh words of the number N in least form -/
def FrD (w : World) (base : Nat) (v : Value) (N : Int) : Prop := ∃ n f, FrA .i64 3 w base v n f ∧ Dig 65536 n f N
def FrN (w : World) (base : Nat) (v : Value) (N : Int) : Prop := ∃ n f, FrA .u64 22 w base v n f ∧ Dig 18446744073709551616 n f N

theorem mk_nums (l n : Nat) (hl : l ≤ n) (hn : n ≤ 17592186044416) (u : World) : (Instr.makeSlice 45 (.int .i64 l) (.int .i64 n)).run Try.prog u =
    .ok (.slice (some ⟨u.heap.size, 0, none⟩) l n) (u.alloc (.cells (madeCells #[.int .i64 0] n) 3)) := by
  obtain ⟨i0, hi, hz0, hz1, hz2⟩ := info_parts infoN
  have h := run_make (P := Try.prog) u 45 3 i0 (.int .i64 0) Try.underlying45 hi hz0 .i64 .i64 (l : Int) (n : Int) (by omega) (by omega) (by rw [hz2]; omega) (by omega)
  simpa [hz1, Value.cells] using h
theorem mk_wds (l n : Nat) (hl : l ≤ n) (hn : n ≤ 17592186044416) (u : World) : (Instr.makeSlice 54 (.int .i64 l) (.int .i64 n)).run Try.prog u =
    .ok (.slice (some ⟨u.heap.size, 0, none⟩) l n) (u.alloc (.cells (madeCells #[.int .u64 0] n) 22)) := by
  obtain ⟨i0, hi, hz0, hz1, hz2⟩ := info_parts infoW
  have h := run_make (P := Try.prog) u 54 22 i0 (.int .u64 0) Try.underlying54 hi hz0 .i64 .i64 (l : Int) (n : Int) (by omega) (by omega) (by rw [hz2]; omega) (by omega)
  simpa [hz1, Value.cells] using h

theorem mk_nums0 (n : Nat) (hn : n ≤ 17592186044416) (u : World) : (Instr.makeSlice 45 (.int .i64 0) (.int .i64 n)).run Try.prog u =
    .ok (.slice (some ⟨u.heap.size, 0, none⟩) 0 n) (u.alloc (.cells (madeCells #[.int .i64 0] n) 3)) := mk_nums 0 n (Nat.zero_le _) hn u
theorem mk_wds0 (n : Nat) (hn : n ≤ 17592186044416) (u : World) : (Instr.makeSlice 54 (.int .i64 0) (.int .i64 n)).run Try.prog u =
    .ok (.slice (some ⟨u.heap.size, 0, none⟩) 0 n) (u.alloc (.cells (madeCells #[.int .u64 0] n) 22)) := mk_wds 0 n (Nat.zero_le _) hn u
theorem own_made (w : World) (base : Nat) (z : Value) (n : Nat) (e : TypeId) (hb : base ≤ w.heap.size) (hn : n ≤ maxLen) :
    (w.alloc (.cells (madeCells #[z] n) e)).ownsRow base e 1 (.slice (some ⟨w.heap.size, 0, none⟩) 0 n) 0 [] :=
  ⟨by simp, Or.inr ⟨w.heap.size, n, madeCells #[z] n, rfl, hb, heap_alloc_new w _, by omega, hn, by simp [madeCells], by simp⟩⟩

/-- one number more behind a row of the call's own: 'append(l, x)' -/
theorem wp_push {P : Program} {wr : World} {ops : Array Oper} {rest : List Oper} {o : Oper} {a : Act} {Q : Exit → Act → World → Prop} (hgd : o.guard = none) (s x : Operand) (t : TypeId)
    (ho : o.op = .call { callee := .builtin .append, args := #[s, x], argTypes := #[t, t] }) {e : TypeId} {z : Value} (ht : P.underlying t = some (.slice e)) (hi : (P.info? e).map (fun i => (i.zero, i.size, i.bytes)) = some (some z, 1, 8)) (hz : z.cells.size = 1)
    {base : Nat} {v : Value} {n : Nat} {xs : List Value} (hown : wr.ownsRow base e 1 v n xs) (hs : a.eval s = v) {u : Value} (hx : a.eval x = .slice (some ⟨wr.heap.size, 0, none⟩) 1 1) (hu : u.oneCell' = true) (hb : base ≤ wr.heap.size) (hn : n ≤ 17592186044415)
    (h : ∀ v' w', w'.ownsRow base e 1 v' (n + 1) (xs ++ [u]) → Below base wr w' → wpList P ops Q rest (a.put o.dst v') w') : wpList P ops Q (o :: rest) a (wr.alloc (.cells #[u] e)) := by
  obtain ⟨i0, hi, hz0, hz1, hz2⟩ := info_parts hi
  refine wpList_append_own _ hgd s x t ho base e i0 z 1 8 ht hi hz0 hz1 hz2 hz (by omega) v n xs hs (hown.alloc _) ⟨wr.heap.size, 0, none⟩ 1 1 [u] hx rfl ?_ ?_ (by unfold maxLen; omega) (by omega) (by simp; omega) fun v' w' h1 h2 _ => h v' w' h1 ?_
  · intro j y hj
    match j, hj with
    | 0, hj => simp at hj; subst hj; simp [Addr.add]
  · intro y hy; simp at hy; subst hy; exact hu
  · exact ((Below.refl _ _).alloc hb _).grown h2 (by simp; omega) fun k hk => (hown.lt k hk).1

theorem own_fr {k : IntKind} {w : World} {base : Nat} {e : TypeId} {v : Value} {n : Nat} {f : Nat → Int} (h : w.ownsRow base e 1 v n ((List.range n).map fun i => .int k (f i))) (hn : n ≤ 17592186044416) : FrA k e w base v n f := by
  obtain ⟨h0, h⟩ := h
  rcases h with ⟨rfl, h⟩ | ⟨g, cap, cur, rfl, h2, h3, h4, h5, h6, h7⟩
  · exact Or.inl ⟨rfl, h⟩
  · refine Or.inr ⟨g, cap, rfl, h4, hn, h2, ⟨cur, h3, by omega⟩, fun i hi => ⟨?_, ?_⟩⟩
    · rw [Nat.zero_add, cell_of_row _ _ _ _ _ _ h3]
      have := congrArg (·[i]?) h7
      rw [List.getElem?_take, if_pos (by omega)] at this
      simpa [hi] using this
    · unfold World.frozen?
      rw [show (⟨g, 0 + i, none⟩ : Addr).block = g from rfl, h3]; simp

theorem FrA.take {k : IntKind} {e : TypeId} {w : World} {base : Nat} {a : Option Addr} {n cap m : Nat} {f : Nat → Int} (h : FrA k e w base (.slice a n cap) n f) (hm : m ≤ n) : FrA k e w base (.slice a m cap) m f := by
  rcases h with ⟨h1, h2⟩ | ⟨b, cap', h1, h2, h3, h4, h5, h6⟩
  · obtain rfl : m = 0 := by omega
    simp only [Value.slice.injEq] at h1
    obtain ⟨rfl, _, rfl⟩ := h1
    exact Or.inl ⟨rfl, rfl⟩
  · simp only [Value.slice.injEq] at h1
    obtain ⟨rfl, _, rfl⟩ := h1
    exact Or.inr ⟨b, cap, rfl, by omega, by omega, h4, h5, fun i hi => h6 i (by omega)⟩

theorem FrA.slice {k : IntKind} {e : TypeId} {w : World} {base : Nat} {v : Value} {n : Nat} {f : Nat → Int} (h : FrA k e w base v n f) : ∃ a cap, v = .slice a n cap := by
  rcases h with ⟨rfl, rfl⟩ | ⟨b, cap, rfl, _⟩
  · exact ⟨_, _, rfl⟩
  · exact ⟨_, _, rfl⟩

set_option maxHeartbeats 400000 in
theorem trim_any (a : Option Addr) (n cap : Nat) (f : Nat → Int) (w : World) (hr : RdA .i64 w (.slice a n cap) n f) :
    Calls Try.prog 128 #[.slice a n cap] w fun e w' => e = .returned (.slice a (sz f n) cap) ∧ w = w' := by
  obtain ⟨a', cap', e, h1, h2, h3⟩ := wd_get hr
  simp only [Value.slice.injEq, true_and] at e
  obtain ⟨rfl, rfl⟩ := e
  have H3 := Lib.hid h3
  clear h3 hr
  go_enter Try.func128, Try.ntmps128
  go_wp2_with fail
  go_loop [3] (fun kv => ∃ k : Nat, k ≤ n ∧ Hid (sz f k = sz f n) ∧ kv = .int .i64 k) (fun kv => (intOf kv).toNat)
  case atStart => exact ⟨n, Nat.le_refl _, rfl, rfl⟩
  case round =>
    obtain ⟨k, k1, k2, rfl⟩ := hrel
    rcases Nat.eq_zero_or_pos k with e | hk
    · subst e
      go_wp2_with fail
      go_ret
      exact ⟨by rw [← k2.out]; rfl, rfl⟩
    · obtain ⟨b, o, rfl, hc⟩ := H3.out (k - 1) (by omega)
      have hk' : (0 : Int) < (k : Int) := by omega
      obtain ⟨x, hx⟩ : ∃ x, x = f (k - 1) := ⟨_, rfl⟩
      rw [← hx] at hc
      obtain ⟨q, hq⟩ : ∃ q, q = k - 1 := ⟨_, rfl⟩
      rw [← hq] at hc
      have hq1 : (k : Int) - 1 = (q : Int) := by omega
      have hq2 : q < n := by omega
      have HQ := Lib.hid hq
      have HX := Lib.hid hx
      clear hq hx
      by_cases hz : x = 0
      · have hzb : (x == 0) = true := beq_iff_eq.2 hz
        have HZ := Lib.hid hz
        clear hz
        go_wp2_with fail
        go_round
        case rel =>
          refine ⟨q, by omega, ?_, rfl⟩
          show _ = _
          rw [← k2.out, show k = q + 1 by have := HQ.out; omega]
          show _ = if f q = 0 then sz f q else q + 1
          rw [if_pos (by rw [HQ.out, ← HX.out]; exact HZ.out)]
        case measure => simp [intOf]; omega
      · have hzb : (x == 0) = false := beq_eq_false_iff_ne.2 hz
        have hfin : Hid (sz f n = k) := by
          show _ = _
          rw [← k2.out, show k = q + 1 by have := HQ.out; omega]
          show (if f q = 0 then sz f q else q + 1) = _
          rw [if_neg (by rw [HQ.out, ← HX.out]; exact hz)]
        clear hz
        go_wp2_with fail
        go_ret
        exact ⟨by rw [hfin.out]; rfl, rfl⟩

theorem map_snoc (k : IntKind) (f : Nat → Int) (q : Nat) : ((List.range (q + 1)).map fun i => Value.int k (f i)) = ((List.range q).map fun i => Value.int k (f i)) ++ [.int k (f q)] := by
  rw [List.range_succ, List.map_append]; rfl

theorem word_step (x : Int) (x0 : 0 ≤ x) (k : Nat) : x / 65536 ^ k / 65536 = x / 65536 ^ (k + 1) ∧ 0 ≤ x / 65536 ^ k := by
  have hp := pow_pos' (show (0 : Int) < 65536 by omega) k
  exact ⟨by rw [Int.ediv_ediv_of_nonneg (by omega), Int.pow_succ], Int.ediv_nonneg x0 (by omega)⟩

theorem word_le (x : Int) (x0 : 0 ≤ x) (x1 : x ≤ 18446744073709551615) (k : Nat) : x / 65536 ^ k ≤ 18446744073709551615 :=
  Int.le_trans (Int.ediv_le_self _ x0) x1

set_option maxHeartbeats 1000000 in
set_option maxRecDepth 100000 in
theorem Split_any (v : Value) (n : Nat) (f : Nat → Int) (w : World) (hn : n ≤ 1099511627776) (hr : RdW w v n f) :
    Calls Try.prog 106 #[v] w fun e w' => ∃ v', e = .returned v' ∧ FrD w' w.heap.size v' (natFrom f 0 n) ∧ Below w.heap.size w w' := by
  obtain ⟨hr, hw⟩ := hr
  obtain ⟨a, cap, rfl, h1, h2, h3⟩ := wd_get hr
  have H3 := Lib.hid h3
  have HW := Lib.hid hw
  clear h3 hr hw
  go_enter Try.func106, Try.ntmps106
  obtain ⟨K, hK⟩ : ∃ K, K = 4 * n := ⟨_, rfl⟩
  have e4 : (4 : Int) * n = (K : Int) := by omega
  have hKb : K ≤ 17592186044416 := by omega
  have mk : ∀ u : World, (Instr.makeSlice 45 (.int .i64 0) (.int .i64 (4 * (n : Int)))).run Try.prog u =
      .ok (.slice (some ⟨u.heap.size, 0, none⟩) 0 K) (u.alloc (.cells (madeCells #[.int .i64 0] K) 3)) := by
    rw [e4]; exact mk_nums0 K hKb
  clear hK e4
  go_wp2_with fail
  have HO := Lib.hid (own_made w w.heap.size (.int .i64 0) K 3 (Nat.le_refl _) (by unfold maxLen; omega))
  have hb1 : Below w.heap.size w (w.alloc (.cells (madeCells #[.int .i64 0] K) 3)) := (Below.refl _ _).alloc (Nat.le_refl _) _
  clear mk
  generalize w.alloc (.cells (madeCells #[.int .i64 0] K) 3) = w1 at HO hb1 ⊢
  go_loopw [3, 4] (fun dv iv wr => ∃ j : Nat, j ≤ n ∧ iv = .int .i64 j ∧ wr.ownsRow w.heap.size 3 1 dv (4 * j) ((List.range (4 * j)).map fun i => .int .i64 (spl f i)) ∧ Below w.heap.size w wr) (fun _ iv _ => n - (intOf iv).toNat)
  case atStart => exact ⟨0, by omega, rfl, HO.out, hb1⟩
  case round =>
    clear HO hb1
    obtain ⟨j, j1, rfl, hown, hbel⟩ := hrel
    obtain ⟨da, dc, rfl⟩ := own_slice hown
    have HO := Lib.hid hown
    clear hown
    by_cases hj : j < n
    · obtain ⟨b, o, rfl, hc⟩ := H3.out j hj
      have hc := cell_stays hbel hc
      obtain ⟨x, hx⟩ : ∃ x, x = f j := ⟨_, rfl⟩
      obtain ⟨x0, x1⟩ := HW.out j hj
      rw [← hx] at hc x0 x1
      have HX := Lib.hid hx
      clear hx
      go_wp2_with fail
      go_loopw [3, 5, 6] (fun dv xv kv wr => ∃ k : Nat, k ≤ 4 ∧ kv = .int .i64 k ∧ xv = .int .u64 (x / 65536 ^ k) ∧ wr.ownsRow w.heap.size 3 1 dv (4 * j + k) ((List.range (4 * j + k)).map fun i => .int .i64 (spl f i)) ∧ Below w.heap.size w wr) (fun _ _ kv _ => 4 - (intOf kv).toNat)
      case atStart => exact ⟨0, by omega, rfl, by rw [Int.pow_zero, Int.ediv_one], HO.out, hbel⟩
      case round =>
        clear HO hbel hc
        obtain ⟨k, k1, rfl, rfl, hown, hbel⟩ := hrel
        obtain ⟨da, dc, rfl⟩ := own_slice hown
        have HO := Lib.hid hown
        clear hown
        obtain ⟨s1, s2⟩ := word_step x x0 k
        have s3 := word_le x x0 x1 k
        obtain ⟨y, hy⟩ : ∃ y, y = x / 65536 ^ k := ⟨_, rfl⟩
        rw [← hy] at s1 s2 s3 ⊢
        have HS1 := Lib.hid s1
        have HY := Lib.hid hy
        clear s1 hy
        by_cases hk : k < 4
        · have hsp : Hid (spl f (4 * j + k) = y % 65536) := by show _ = _; rw [spl_at f j k hk, ← HX.out, HY.out]
          obtain ⟨q, hq⟩ : ∃ q, q = 4 * j + k := ⟨_, rfl⟩
          rw [← hq] at HO hsp ⊢
          have HQ := Lib.hid hq
          have hq2 : q ≤ 4398046511104 := by omega
          clear hq
          go_wp2_with (at_builtin; refine wp_push rfl _ _ 45 rfl Try.underlying45 infoN rfl HO.out rfl rfl rfl hbel.size (by omega) ?_)
          · intro v' w2 hown' hb2
            have hb2 : Below w.heap.size w w2 := hbel.trans hb2
            have HO' := Lib.hid hown'
            clear hown' hbel
            go_wp2_with fail
            go_roundw
            case rel =>
              refine ⟨k + 1, by omega, by go_num, by rw [← HS1.out], ?_, hb2⟩
              rw [show 4 * j + (k + 1) = q + 1 by have := HQ.out; omega, map_snoc, hsp.out]
              exact HO'.out
            case measure => simp [intOf]; omega
        · obtain rfl : k = 4 := by omega
          go_wp2_with fail
          go_roundw
          case rel => exact ⟨j + 1, by omega, by go_num, by rw [show 4 * (j + 1) = 4 * j + 4 by omega]; exact HO.out, hbel⟩
          case measure => simp [intOf]; omega
    · obtain rfl : j = n := by omega
      have hfr := own_fr HO.out (by omega)
      have HF := Lib.hid hfr
      clear hfr
      go_wp2_with (go_at_call 128; refine (trim_any _ _ _ (spl f) _ HF.out.read).mono ?_; rintro e w3 ⟨rfl, rfl⟩)
      go_ret
      refine ⟨_, rfl, ⟨_, spl f, HF.out.take (sz_le _ _), ?_⟩, hbel⟩
      rw [natFrom_dv0]
      exact Dig.split fun i hi => by have := HW.out i hi; omega

end Go.Proofs.Ytdlpemmoobbgnaa

namespace Go.Proofs.Ytdlpemmoobbgnaa
open Go.RowKit

/-- the upper c digits of the word t -/
def jq (f : Nat → Int) (m t : Nat) : Nat → Int
  | 0 => 0
  | c + 1 => jq f m t c * 65536 + (if 4 * t + (3 - c) < m then f (4 * t + (3 - c)) else 0)

theorem jq_four (f : Nat → Int) (m t : Nat) : jq f m t 4 = joi f m t := by
  simp only [jq, joi, Nat.sub_self, Nat.add_zero, show 3 - 0 = 3 from rfl, show 3 - 1 = 2 from rfl, show 3 - 2 = 1 from rfl]
  omega

theorem jq_bd {f : Nat → Int} {m : Nat} (h : ∀ i, i < m → 0 ≤ f i ∧ f i < 65536) (t : Nat) : ∀ c, c ≤ 3 → 0 ≤ jq f m t c ∧ jq f m t c ≤ 281474976710655 := by
  have a (k : Nat) : 0 ≤ (if k < m then f k else 0) ∧ (if k < m then f k else 0) < 65536 := by
    split
    · exact h k (by assumption)
    · omega
  have := a (4 * t + (3 - 0)); have := a (4 * t + (3 - 1)); have := a (4 * t + (3 - 2))
  intro c hc
  rcases (by omega : c = 0 ∨ c = 1 ∨ c = 2 ∨ c = 3) with r | r | r | r <;> subst r <;> simp only [jq] <;> omega

set_option maxHeartbeats 1000000 in
set_option maxRecDepth 100000 in
theorem Join_any (v : Value) (n : Nat) (f : Nat → Int) (w : World) (hn : n ≤ 17592186044416) (hf : ∀ i, i < n → 0 ≤ f i ∧ f i < 65536) (hr : RdA .i64 w v n f) :
    Calls Try.prog 108 #[v] w fun e w' => ∃ v', e = .returned v' ∧ FrN w' w.heap.size v' (dv 65536 f n) ∧ Below w.heap.size w w' := by
  obtain ⟨a, cap, rfl, h1, h2, h3⟩ := wd_get hr
  have H3 := Lib.hid h3
  have HR := Lib.hid hr
  have HD := Lib.hid (dig_sz hf)
  have HB := Lib.hid hf
  have hle := sz_le f n
  obtain ⟨m, hm⟩ : ∃ m, m = sz f n := ⟨_, rfl⟩
  rw [← hm] at hle HD
  have HM := Lib.hid hm
  clear h3 hr hf hm
  obtain ⟨K, hK⟩ : ∃ K, K = m / 4 + 1 := ⟨_, rfl⟩
  have hKb : K ≤ 17592186044416 := by omega
  have mk : ∀ u : World, (Instr.makeSlice 54 (.int .i64 0) (.int .i64 ((m : Int) / 4 + 1))).run Try.prog u =
      .ok (.slice (some ⟨u.heap.size, 0, none⟩) 0 K) (u.alloc (.cells (madeCells #[.int .u64 0] K) 22)) := by
    rw [show (m : Int) / 4 + 1 = (K : Int) by omega]; exact mk_wds0 K hKb
  have HK := Lib.hid hK
  clear hK
  go_enter Try.func108, Try.ntmps108
  go_wp2_with (go_at_call 128; refine (trim_any _ _ _ f _ HR.out).mono ?_; rw [← HM.out]; rintro e w3 ⟨rfl, rfl⟩)
  have HO := Lib.hid (own_made w w.heap.size (.int .u64 0) K 22 (Nat.le_refl _) (by unfold maxLen; omega))
  have hb1 : Below w.heap.size w (w.alloc (.cells (madeCells #[.int .u64 0] K) 22)) := (Below.refl _ _).alloc (Nat.le_refl _) _
  clear mk
  generalize w.alloc (.cells (madeCells #[.int .u64 0] K) 22) = w1 at HO hb1 ⊢
  go_loopw [3, 4] (fun dv iv wr => ∃ t T : Nat, Hid (T = 4 * t) ∧ T < m + 4 ∧ iv = .int .i64 T ∧ wr.ownsRow w.heap.size 22 1 dv t ((List.range t).map fun i => .int .u64 (joi f m i)) ∧ Below w.heap.size w wr) (fun _ iv _ => m + 4 - (intOf iv).toNat)
  case atStart => exact ⟨0, 0, rfl, by omega, rfl, HO.out, hb1⟩
  case round =>
    clear HO hb1
    obtain ⟨t, T, HT, t1, rfl, hown, hbel⟩ := hrel
    obtain ⟨da, dc, rfl⟩ := own_slice hown
    have HO := Lib.hid hown
    clear hown
    by_cases ht : T < m
    · go_wp2_with fail
      go_loop [5, 6] (fun wv kv => ∃ c : Nat, c ≤ 4 ∧ kv = .int .i64 ((c : Int) - 1) ∧ wv = .int .u64 (jq f m t (4 - c))) (fun _ kv => (intOf kv + 1).toNat)
      case atStart => exact ⟨4, by omega, rfl, rfl⟩
      case round =>
        obtain ⟨c, c1, rfl, rfl⟩ := hrel
        rcases c with _ | j
        · rw [show 4 - 0 = 4 from rfl, jq_four]
          obtain ⟨y, hy⟩ : ∃ y, y = joi f m t := ⟨_, rfl⟩
          rw [← hy]
          have HY := Lib.hid hy
          have htb : t ≤ 4398046511104 := by have := HT.out; omega
          clear hy
          go_wp2_with (at_builtin; refine wp_push rfl _ _ 54 rfl Try.underlying54 infoW rfl HO.out rfl rfl rfl hbel.size (by omega) ?_)
          · intro v' w2 hown' hb2
            have hb2 : Below w.heap.size w w2 := hbel.trans hb2
            have HO' := Lib.hid hown'
            clear hown' hbel
            go_wp2_with fail
            go_roundw
            case rel =>
              refine ⟨t + 1, T + 4, ?_, by omega, by go_num, ?_, hb2⟩
              · show _ = _; have := HT.out; omega
              · rw [map_snoc, ← HY.out]; exact HO'.out
            case measure => simp [intOf]; omega
        · obtain ⟨y0, y1⟩ := jq_bd (fun i hi => HB.out i (show i < n by omega)) t (3 - j) (by omega) (m := m)
          have hs : Hid (jq f m t (4 - j) = jq f m t (4 - (j + 1)) * 65536 + (if T + j < m then f (T + j) else 0)) := by
            show _ = _
            rw [show 4 - j = (4 - (j + 1)) + 1 by omega, HT.out]
            show _ * 65536 + (if 4 * t + (3 - (4 - (j + 1))) < m then f (4 * t + (3 - (4 - (j + 1)))) else 0) = _
            rw [show 3 - (4 - (j + 1)) = j by omega]
          rw [show 3 - j = 4 - (j + 1) by omega] at y0 y1
          obtain ⟨y, hy⟩ : ∃ y, y = jq f m t (4 - (j + 1)) := ⟨_, rfl⟩
          rw [← hy] at y0 y1 hs ⊢
          clear hy
          by_cases hq : T + j < m
          · obtain ⟨b, o, rfl, hc⟩ := H3.out (T + j) (by omega)
            obtain ⟨x0, x1⟩ := HB.out (T + j) (by omega)
            rw [if_pos hq] at hs
            obtain ⟨x, hx⟩ : ∃ x, x = f (T + j) := ⟨_, rfl⟩
            rw [← hx] at hc x0 x1 hs
            have hc := cell_stays hbel hc
            have hq' : (T : Int) + j < m := by omega
            clear hx
            go_wp2_with fail
            go_round
            case rel => exact ⟨j, by omega, by go_num, by rw [hs.out]⟩
            case measure => simp [intOf]
          · rw [if_neg hq] at hs
            have hq' : ¬ (T : Int) + j < m := by omega
            go_wp2_with fail
            go_round
            case rel => exact ⟨j, by omega, by go_num, by rw [hs.out, Int.add_zero]⟩
            case measure => simp [intOf]
    · have hfr := own_fr HO.out (by have := HT.out; omega)
      have HF := Lib.hid hfr
      clear hfr
      go_wp2_with fail
      go_ret
      refine ⟨_, rfl, ⟨_, joi f m, HF.out, ?_⟩, hbel⟩
      exact Dig.join HD.out (by have := HT.out; omega) (by have := HT.out; omega)

theorem FrN.nat {w : World} {base : Nat} {v : Value} {N : Int} (h : FrN w base v N) : ∃ a n cap f, v = .slice a n cap ∧ FrA .u64 22 w base (.slice a n cap) n f ∧ Dig 18446744073709551616 n f N := by
  obtain ⟨n, f, h1, h2⟩ := h
  obtain ⟨a, cap, rfl⟩ := h1.slice
  exact ⟨a, n, cap, f, rfl, h1, h2⟩

set_option maxHeartbeats 400000 in
theorem Least01_any (v : Value) (n : Nat) (f : Nat → Int) (w : World) (hn : n ≤ 1099511627776) (hr : RdW w v n f) :
    Calls Try.prog 97 #[v] w fun e w' => ∃ v', e = .returned v' ∧ FrN w' w.heap.size v' (natFrom f 0 n) ∧ Below w.heap.size w w' := by
  have HR := Lib.hid hr
  have hlt : natFrom f 0 n < 65536 ^ (4 * n) := by
    rw [natFrom_dv0, Int.pow_mul]
    exact (dv_bd (by omega) (fun i hi => by have := hr.2 i hi; omega)).2
  have HL := Lib.hid hlt
  obtain ⟨a, cap, rfl, -⟩ := hr.1
  clear hr hlt
  go_enter Try.func97, Try.ntmps97
  go_wp2_with (first
    | (go_at_call 106; refine (Split_any _ n f _ hn HR.out).mono ?_; rintro e w1 ⟨v1, rfl, ⟨m, g, hfr, hdig⟩, hb1⟩; have hm : m ≤ 17592186044416 := (by have := hdig.len (by omega) HL.out; omega); have HFR := Lib.hid hfr; have HDG := Lib.hid hdig; clear hfr hdig)
    | (go_at_call 108; refine (Join_any _ m g _ hm HDG.out.bd HFR.out.read).mono ?_; rw [HDG.out.val]; rintro e w2 ⟨v2, rfl, hfn, hb2⟩))
  go_ret
  obtain ⟨a2, n2, cap2, f2, rfl, h1, h2⟩ := hfn.nat
  exact ⟨_, rfl, ⟨n2, f2, h1.mono hb1.size, h2⟩, hb1.trans (hb2.mono hb1.size)⟩

end Go.Proofs.Ytdlpemmoobbgnaa

namespace Go.Proofs.Ytdlpemmoobbgnaa
open Go.RowKit

theorem FrA.off {k : IntKind} {e : TypeId} {w : World} {base : Nat} {v : Value} {n : Nat} {f : Nat → Int} (h : FrA k e w base v n f) : v.ownBlock = none ∨ v.ownBlock ≠ some w.heap.size := by
  cases hv : v.ownBlock with
  | none => exact Or.inl rfl
  | some b => right; have := (h.lt hv).2; intro e; injection e with e; omega

/-- digits, followed by zeros -/
def zx (f : Nat → Int) (n i : Nat) : Int := if i < n then f i else 0
theorem zx_dv {B : Int} {f : Nat → Int} {n m : Nat} (h : n ≤ m) : dv B (zx f n) m = dv B f n := by
  rw [dv_more (f := zx f n) h (fun i hi _ => if_neg (by omega))]
  exact dv_congr fun i hi => if_pos hi

/-- the carries and digits of a sum -/
def ca (X Y : Nat → Int) : Nat → Int
  | 0 => 0
  | i + 1 => (X i + Y i + ca X Y i) / 65536
end Go.Proofs.Ytdlpemmoobbgnaa

namespace Go.Proofs.Ytdlpemmoobbgnaa
open Go.RowKit

/-- the borrows and digits of a difference -/
def bw (X Y : Nat → Int) : Nat → Int
  | 0 => 0
  | i + 1 => if X i - Y i - bw X Y i < 0 then 1 else 0
end Go.Proofs.Ytdlpemmoobbgnaa

namespace Go.Proofs.Ytdlpemmoobbgnaa
open Go.RowKit

/-- the value v reads as the integer z -/
def RdZ (w : World) (v : Value) (z : Int) : Prop := ∃ r : Raw, RdI w v r ∧ r.val = z ∧ r.n ≤ 274877906944
/-- v is the integer z in least form, its words in a block of their own from base on -/
def FrZ (w : World) (base : Nat) (v : Value) (z : Int) : Prop := ∃ m n f, v = .agg #[.bool (decide (z < 0)), m] ∧ FrA .u64 22 w base m n f ∧ Dig 18446744073709551616 n f (z.natAbs : Int)
/-- the size of z takes at most S words -/
def ZB (S : Nat) (z : Int) : Prop := (z.natAbs : Int) < 18446744073709551616 ^ S

theorem Dig.words {n : Nat} {f : Nat → Int} {N : Int} (h : Dig 18446744073709551616 n f N) : Words n f := fun i hi => by have := h.bd i hi; omega
theorem words_bd {n : Nat} {f : Nat → Int} (h : Words n f) : ∀ i, i < n → 0 ≤ f i ∧ f i < 18446744073709551616 := fun i hi => by have := h i hi; omega
theorem natFrom_bd {n : Nat} {f : Nat → Int} (h : Words n f) : 0 ≤ natFrom f 0 n ∧ natFrom f 0 n < 18446744073709551616 ^ n := by
  rw [natFrom_dv0]; exact dv_bd (by omega) (words_bd h)

theorem ZB.mono {S T : Nat} {z : Int} (h : ZB S z) (hST : S ≤ T) : ZB T z := Int.lt_of_lt_of_le h (pow_le' (by omega) hST)
theorem RdI.zb {w : World} {v : Value} {r : Raw} (h : RdI w v r) : ZB r.n r.val := by
  obtain ⟨m, _, h⟩ := h
  have := natFrom_bd h.2
  unfold ZB Raw.val Raw.mag
  split <;> omega
theorem ZB.add {S T : Nat} {x y : Int} (hx : ZB S x) (hy : ZB T y) : ZB (S + T + 1) (x + y) := by
  unfold ZB at *
  have h1 := pow_le' (B := 18446744073709551616) (by omega) (show S ≤ S + T by omega)
  have h2 := pow_le' (B := 18446744073709551616) (by omega) (show T ≤ S + T by omega)
  have h3 : (18446744073709551616 : Int) ^ (S + T + 1) = 18446744073709551616 ^ (S + T) * 18446744073709551616 := Int.pow_succ _ _
  omega
theorem ZB.neg {S : Nat} {x : Int} (hx : ZB S x) : ZB S (-x) := by unfold ZB at *; rw [Int.natAbs_neg]; exact hx
theorem FrZ.rd {w : World} {base : Nat} {v : Value} {z : Int} (h : FrZ w base v z) {S : Nat} (hz : ZB S z) (hS : S ≤ 274877906944) : RdZ w v z := by
  obtain ⟨m, n, f, rfl, h1, h2⟩ := h
  have hn : n ≤ S := h2.len (by omega) hz
  refine ⟨⟨decide (z < 0), n, f⟩, ⟨m, rfl, h1.read, h2.words⟩, ?_, by show n ≤ _; omega⟩
  unfold Raw.val Raw.mag
  simp only [natFrom_dv0, h2.val]
  by_cases hneg : z < 0
  · rw [decide_eq_true hneg, if_pos rfl]; omega
  · rw [decide_eq_false hneg, if_neg (by simp)]; omega
theorem FrZ.below {w w' : World} {base : Nat} {v : Value} {z : Int} (h : FrZ w base v z) (hb : Below w.heap.size w w') : FrZ w' base v z := by
  obtain ⟨m, n, f, e, h1, h2⟩ := h
  exact ⟨m, n, f, e, h1.below hb, h2⟩
theorem FrZ.mono {w : World} {base base' : Nat} {v : Value} {z : Int} (h : FrZ w base v z) (hb : base' ≤ base) : FrZ w base' v z := by
  obtain ⟨m, n, f, e, h1, h2⟩ := h
  exact ⟨m, n, f, e, h1.mono hb, h2⟩
theorem RdZ.below {w w' : World} {v : Value} {z : Int} (h : RdZ w v z) (hb : Below w.heap.size w w') : RdZ w' v z := by
  obtain ⟨r, h1, h2⟩ := h
  exact ⟨r, h1.below hb, h2⟩

theorem cells2 (w : World) (u v : Value) (t : TypeId) : ∀ i y, [u, v][i]? = some y → (w.alloc (.cells #[u, v] t)).cell? ⟨w.heap.size, i, none⟩ = some y ∧ (w.alloc (.cells #[u, v] t)).frozen? ⟨w.heap.size, i, none⟩ = false := by
  intro i y hy
  have h := heap_alloc_new w (.cells #[u, v] t)
  refine ⟨by rw [cell_of_row _ _ _ _ _ _ h]; simpa using hy, ?_⟩
  unfold World.frozen?; simp only; rw [h]; simp

/-- what is stored in a box of two cells -/
def stored2 (w3 : World) (b : Nat) (u v : Value) : World := (w3.setCell ⟨b, 0, none⟩ u).setCell ⟨b, 1, none⟩ v
theorem stored2_gb (w3 : World) (b : Nat) (u v : Value) : w3.grownBy (stored2 w3 b u v) (some b) := gb_trans (gb_set _ _ _) (gb_set _ _ _)
theorem stored2_fr {k : IntKind} {e : TypeId} {w3 : World} {b : Nat} {x : Value} {n : Nat} {f : Nat → Int} (h : FrA k e w3 (b + 1) x n f) (u v : Value) : FrA k e (stored2 w3 b u v) b x n f := by
  refine (h.grown (stored2_gb w3 b u v) ?_).mono (by omega)
  cases hb : x.ownBlock with
  | none => exact Or.inl rfl
  | some k => right; have := (h.lt hb).1; intro e; injection e with e; omega
theorem stored2_below {w w3 : World} (h : Below w.heap.size w w3) (u v : Value) : Below w.heap.size w (stored2 w3 w.heap.size u v) :=
  h.grown (stored2_gb w3 _ u v) h.size (fun k hk => by injection hk with hk; omega)

set_option maxHeartbeats 400000 in
theorem made_any (s : Bool) (v : Value) (n : Nat) (f : Nat → Int) (w : World) (hn : n ≤ 1099511627776) (hr : RdW w v n f) :
    Calls Try.prog 70 #[.bool s, v] w fun e w' => ∃ v', e = .returned v' ∧ FrZ w' w.heap.size v' (if s then - natFrom f 0 n else natFrom f 0 n) ∧ Below w.heap.size w w' := by
  have hN := (natFrom_bd hr.2).1
  have hl := fun (w1 : World) (hb : Below w.heap.size w w1) => Least01_any v n f w1 hn (hr.below hb)
  obtain ⟨a, cap, rfl, -⟩ := hr.1
  obtain ⟨N, hNe⟩ : ∃ N, N = natFrom f 0 n := ⟨_, rfl⟩
  rw [← hNe] at hN hl ⊢
  have HL := Lib.hid hl
  clear hr hl hNe
  have hb0 : Below w.heap.size w (w.alloc (.cells #[.bool false, .slice none 0 0] 56)) := (Below.refl _ _).alloc (Nat.le_refl _) _
  have z := cells2 w (.bool false) (.slice none 0 0) 56
  have hs0 : (w.alloc (.cells #[.bool false, .slice none 0 0] 56)).heap.size = w.heap.size + 1 := by simp
  have HB0 := Lib.hid hb0
  have Z := Lib.hid z
  have HS0 := Lib.hid hs0
  clear hb0 z hs0
  cases s with
  | false =>
    simp only [Bool.false_eq_true, if_false]
    go_enter Try.func70, Try.ntmps70
    go_wp2_with fail
    refine (HL.out _ HB0.out).mono ?_
    rintro e w3 ⟨v3, rfl, hfn, hb3⟩
    obtain ⟨a2, n2, cap2, f2, rfl, h1, h2⟩ := hfn.nat
    have hz := Z.out
    have x0 := cell_stays hb3 (hz 0 _ rfl).1
    have x1 := cell_stays hb3 (hz 1 _ rfl).1
    have y0 := froz_stays hb3 (hz 0 _ rfl).1 (hz 0 _ rfl).2
    have y1 := froz_stays hb3 (hz 1 _ rfl).1 (hz 1 _ rfl).2
    rw [HS0.out] at h1 hb3
    have hbw : Below w.heap.size w w3 := HB0.out.trans (hb3.mono (by omega))
    have H1 := Lib.hid h1
    have H2 := Lib.hid h2
    have HBW := Lib.hid hbw
    clear h1 h2 hfn hbw hb3 hz
    go_wp2_with fail
    refine bodyPost_ret (v := .agg #[.bool false, .slice a2 n2 cap2]) ?_ rfl ⟨_, rfl, ⟨_, n2, f2, ?_, stored2_fr H1.out (.bool false) (.slice a2 n2 cap2), ?_⟩, stored2_below HBW.out (.bool false) (.slice a2 n2 cap2)⟩
    · simp [results, Try.results70, go_sem, x0, x1]
    · rw [decide_eq_false (by omega)]
    · rw [Int.natAbs_of_nonneg hN]; exact H2.out
  | true =>
    simp only [if_true]
    go_enter Try.func70, Try.ntmps70
    go_wp2_with fail
    refine (HL.out _ HB0.out).mono ?_
    rintro e w3 ⟨v3, rfl, hfn, hb3⟩
    obtain ⟨a2, n2, cap2, f2, rfl, h1, h2⟩ := hfn.nat
    have hz := Z.out
    have x0 := cell_stays hb3 (hz 0 _ rfl).1
    have x1 := cell_stays hb3 (hz 1 _ rfl).1
    have y0 := froz_stays hb3 (hz 0 _ rfl).1 (hz 0 _ rfl).2
    have y1 := froz_stays hb3 (hz 1 _ rfl).1 (hz 1 _ rfl).2
    rw [HS0.out] at h1 hb3
    have hbw : Below w.heap.size w w3 := HB0.out.trans (hb3.mono (by omega))
    have H1 := Lib.hid h1
    have H2 := Lib.hid h2
    have HBW := Lib.hid hbw
    clear h1 h2 hfn hbw hb3 hz
    go_wp2_with fail
    refine bodyPost_ret (v := .agg #[.bool (decide (0 < n2)), .slice a2 n2 cap2]) ?_ rfl ⟨_, rfl, ⟨_, n2, f2, ?_, stored2_fr H1.out (.bool (decide (0 < n2))) (.slice a2 n2 cap2), ?_⟩, stored2_below HBW.out (.bool (decide (0 < n2))) (.slice a2 n2 cap2)⟩
    · simp [results, Try.results70, go_sem, x0, x1]
    · have hz := H2.out.zero_iff (by omega)
      have : decide (0 < n2) = decide (-N < 0) := by rw [decide_eq_decide]; omega
      rw [this]
    · rw [Int.natAbs_neg, Int.natAbs_of_nonneg hN]; exact H2.out

/-- the answer of a call that stores it in a box of two cells -/
theorem FrZ.stored {w3 : World} {b : Nat} {v : Value} {z : Int} (h : FrZ w3 (b + 1) v z) : ∃ a n cap, v = .agg #[.bool (decide (z < 0)), .slice a n cap] ∧ FrZ (stored2 w3 b (.bool (decide (z < 0))) (.slice a n cap)) b v z := by
  obtain ⟨m, n, f, rfl, h1, h2⟩ := h
  obtain ⟨a, cap, rfl⟩ := h1.slice
  exact ⟨a, n, cap, rfl, _, n, f, rfl, stored2_fr h1 _ _, h2⟩

end Go.Proofs.Ytdlpemmoobbgnaa

namespace Go.Proofs.Ytdlpemmoobbgnaa
open Go.RowKit

/-- two boxes of two cells, just made -/
theorem boxes2 (w : World) (a0 a1 c0 c1 : Value) (t : TypeId) :
    let W := (w.alloc (.cells #[a0, a1] t)).alloc (.cells #[c0, c1] t)
    (W.cell? ⟨w.heap.size, 0, none⟩ = some a0 ∧ W.cell? ⟨w.heap.size, 1, none⟩ = some a1 ∧
      W.cell? ⟨w.heap.size + 1, 0, none⟩ = some c0 ∧ W.cell? ⟨w.heap.size + 1, 1, none⟩ = some c1 ∧ W.frozen? ⟨w.heap.size + 1, 0, none⟩ = false ∧ W.frozen? ⟨w.heap.size + 1, 1, none⟩ = false) ∧
    Below w.heap.size w W ∧ W.heap.size = w.heap.size + 2 := by
  intro W
  obtain ⟨w1, h1⟩ : ∃ w1, w1 = w.alloc (.cells #[a0, a1] t) := ⟨_, rfl⟩
  have hW : W = w1.alloc (.cells #[c0, c1] t) := by rw [h1]
  have s1 : w1.heap.size = w.heap.size + 1 := by rw [h1]; simp
  have b1' : Below w.heap.size w w1 := by rw [h1]; exact (Below.refl _ _).alloc (Nat.le_refl _) _
  have b3 : Below w1.heap.size w1 W := by rw [hW]; exact (Below.refl _ _).alloc (Nat.le_refl _) _
  have k1 := cells2 w a0 a1 t
  have k3 := cells2 w1 c0 c1 t
  rw [← h1] at k1
  rw [← hW, s1] at k3
  have sW : W.heap.size = w.heap.size + 2 := by rw [hW]; simp [s1]
  clear_value W
  exact ⟨⟨cell_stays b3 (k1 0 _ rfl).1, cell_stays b3 (k1 1 _ rfl).1, (k3 0 _ rfl).1, (k3 1 _ rfl).1, (k3 0 _ rfl).2, (k3 1 _ rfl).2⟩, b1'.trans (b3.mono (by omega)), sW⟩

theorem RdZ.parts {w : World} {v : Value} {z : Int} (h : RdZ w v z) : ∃ b a n cap f, v = .agg #[.bool b, .slice a n cap] ∧ RdW w (.slice a n cap) n f ∧ n ≤ 274877906944 ∧ z = (if b then - natFrom f 0 n else natFrom f 0 n) := by
  obtain ⟨r, ⟨m, rfl, hr⟩, rfl, hn⟩ := h
  obtain ⟨a, cap, rfl, h2⟩ := hr.1
  exact ⟨r.neg, a, r.n, cap, r.f, rfl, hr, hn, rfl⟩

set_option maxHeartbeats 400000 in
theorem Least05_any (x : Value) (a : Int) (w : World) (hx : RdZ w x a) :
    Calls Try.prog 42 #[x] w fun e w' => ∃ v, e = .returned v ∧ FrZ w' w.heap.size v a ∧ Below w.heap.size w w' := by
  obtain ⟨p, am, n, cm, f, rfl, hr, hn, ha⟩ := hx.parts
  obtain ⟨⟨x0, x1, z0, z1, z2, z3⟩, hb, hs3⟩ := boxes2 w (.bool p) (.slice am n cm) (.bool false) (.slice none 0 0) 56
  have hadd := made_any p _ n f _ (by omega) (hr.below hb)
  rw [← ha] at hadd
  have HADD := Lib.hid hadd
  have HB := Lib.hid hb
  have HS3 := Lib.hid hs3
  clear hx hr ha hb hs3 hadd
  go_enter Try.func42, Try.ntmps42
  go_wp2_with fail
  refine HADD.out.mono ?_
  rintro e w5 ⟨v5, rfl, hz, hb5⟩
  obtain ⟨aq, nq, cq, rfl, hst⟩ := FrZ.stored (b := w.heap.size + 1) (hz.mono (by have := HS3.out; omega))
  have z0' := z0
  have z1' := z1
  have z0 := cell_stays hb5 z0
  have z1 := cell_stays hb5 z1
  have z2 := froz_stays hb5 z0' z2
  have z3 := froz_stays hb5 z1' z3
  have hbw := HB.out.trans (hb5.mono HB.out.size)
  have hbl : Below w.heap.size w (stored2 w5 (w.heap.size + 1) (.bool (decide (a < 0))) (.slice aq nq cq)) := hbw.grown (stored2_gb _ _ _ _) hbw.size (fun k hk => by injection hk with hk; omega)
  have HST := Lib.hid (hst.mono (show w.heap.size ≤ w.heap.size + 1 by omega))
  have HBL := Lib.hid hbl
  clear hz hst hbl hbw hb5 z0' z1'
  go_wp2_with fail
  refine bodyPost_ret (v := .agg #[.bool (decide (a < 0)), .slice aq nq cq]) ?_ rfl ⟨_, rfl, HST.out, HBL.out⟩
  simp [results, Try.results42, go_sem, z0, z1]

/-- 1, 0 or -1 -/
def sgn (a : Int) : Int := if a < 0 then -1 else if 0 < a then 1 else 0

theorem one_word (w : World) (x : Int) (x0 : 0 ≤ x) (x1 : x ≤ 18446744073709551615) (e : TypeId) : RdW (w.alloc (.cells #[.int .u64 x] e)) (.slice (some ⟨w.heap.size, 0, none⟩) 1 1) 1 (fun _ => x) := by
  refine ⟨⟨_, 1, rfl, Nat.le_refl _, by omega, fun _ => ⟨w.heap.size, 0, rfl, fun i hi => ?_⟩⟩, fun _ _ => ⟨x0, x1⟩⟩
  obtain rfl : i = 0 := by omega
  rw [cell_of_row _ _ _ _ _ _ (heap_alloc_new w _)]; rfl

set_option maxHeartbeats 400000 in
theorem Of05_any (x : Int) (x0 : 0 ≤ x) (x1 : x ≤ 9223372036854775807) (w : World) :
    Calls Try.prog 103 #[.int .i64 x] w fun e w' => ∃ v, e = .returned v ∧ FrZ w' w.heap.size v x ∧ Below w.heap.size w w' := by
  have hb0 : Below w.heap.size w (w.alloc (.cells #[.bool false, .slice none 0 0] 56)) := (Below.refl _ _).alloc (Nat.le_refl _) _
  have z := cells2 w (.bool false) (.slice none 0 0) 56
  have hs0 : (w.alloc (.cells #[.bool false, .slice none 0 0] 56)).heap.size = w.heap.size + 1 := by simp
  have hm := fun (W : World) => made_any false _ 1 (fun _ => x) _ (by omega) (one_word W x x0 (by omega) 22)
  have hN : (if false = true then - natFrom (fun _ => x) 0 1 else natFrom (fun _ => x) 0 1) = x := by rw [if_neg (by simp)]; simp [natFrom]
  rw [hN] at hm
  have hbb := fun (W : World) => ((Below.refl W.heap.size W).alloc (Nat.le_refl _) (.cells #[.int .u64 x] 22))
  have HM := Lib.hid hm
  have HBB := Lib.hid hbb
  have HB0 := Lib.hid hb0
  have Z := Lib.hid z
  have HS0 := Lib.hid hs0
  clear hb0 z hs0 hm hN hbb
  go_enter Try.func103, Try.ntmps103
  go_wp2_with fail
  have hz := Z.out
  have hs0 := HS0.out
  rw [← hs0]
  have hb0 := HB0.out
  clear Z HS0 HB0
  generalize w.alloc (.cells #[.bool false, .slice none 0 0] 56) = W at hz hb0 hs0 ⊢
  have hbW := HBB.out W
  refine (HM.out W).mono ?_
  rintro e w5 ⟨v5, rfl, hzz, hb5⟩
  have hbW5 : Below W.heap.size W w5 := hbW.trans (hb5.mono hbW.size)
  have z0 := cell_stays hbW5 (hz 0 _ rfl).1
  have z1 := cell_stays hbW5 (hz 1 _ rfl).1
  have z2 := froz_stays hbW5 (hz 0 _ rfl).1 (hz 0 _ rfl).2
  have z3 := froz_stays hbW5 (hz 1 _ rfl).1 (hz 1 _ rfl).2
  obtain ⟨aq, nq, cq, rfl, hst⟩ := FrZ.stored (b := w.heap.size) (hzz.mono (by have := hbW.size; omega))
  have hbw := hb0.trans (hbW5.mono hb0.size)
  have HST := Lib.hid hst
  have HBL := Lib.hid (stored2_below hbw (.bool (decide (x < 0))) (.slice aq nq cq))
  clear hzz hst hbw hb5 hbW hbW5 hz hb0 hs0
  go_wp2_with fail
  refine bodyPost_ret (v := .agg #[.bool (decide (x < 0)), .slice aq nq cq]) ?_ rfl ⟨_, rfl, HST.out, HBL.out⟩
  simp [results, Try.results103, go_sem, z0, z1]

end Go.Proofs.Ytdlpemmoobbgnaa

namespace Go.Proofs.Ytdlpemmoobbgnaa
open Go.RowKit

end Go.Proofs.Ytdlpemmoobbgnaa

namespace Go.Proofs.Ytdlpemmoobbgnaa
open Go.RowKit

/-- the words when the digits from c on have been put in -/
def wl (f : Nat → Int) (n c t : Nat) : Int := jq f n t (4 - (c - 4 * t))

/-- the product so far: i rows done, j places of the next -/
structure MI (X Y : Nat → Int) (q K i j : Nat) (D : Nat → Int) (c : Int) : Prop where
  bd : ∀ t, 0 ≤ D t ∧ D t < 65536
  cb : 0 ≤ c ∧ c < 65536
  top : ∀ t, i + q ≤ t → D t = 0
  val : dv 65536 D K + c * 65536 ^ (i + j) = dv 65536 X i * dv 65536 Y q + X i * 65536 ^ i * dv 65536 Y j

theorem dv_upd (B : Int) (D : Nat → Int) (k : Nat) (v : Int) : ∀ {K : Nat}, k < K → dv B (fun t => if t = k then v else D t) K = dv B D K + (v - D k) * B ^ k
  | 0, h => absurd h (by omega)
  | K + 1, h => by
    simp only [dv]
    by_cases e : k = K
    · subst e
      rw [dv_congr (g := D) (fun i hi => if_neg (by omega)), if_pos rfl]; grind
    · rw [dv_upd B D k v (by omega), if_neg (by omega)]; grind

theorem mul_bd {x y d c : Int} (x0 : 0 ≤ x ∧ x < 65536) (y0 : 0 ≤ y ∧ y < 65536) (d0 : 0 ≤ d ∧ d < 65536) (c0 : 0 ≤ c ∧ c < 65536) :
    0 ≤ x * y ∧ x * y ≤ 4294836225 ∧ 0 ≤ (d + x * y + c) / 65536 ∧ (d + x * y + c) / 65536 < 65536 ∧ 0 ≤ (d + x * y + c) % 65536 ∧ (d + x * y + c) % 65536 < 65536 := by
  have h1 : 0 ≤ x * y := Int.mul_nonneg x0.1 y0.1
  have h2 : x * y ≤ 65535 * 65535 := Int.mul_le_mul (by omega) (by omega) y0.1 (by omega)
  omega

theorem MI.step {X Y : Nat → Int} {q K i j : Nat} {D : Nat → Int} {c : Int} (h : MI X Y q K i j D c) (hj : j < q) (hK : i + q ≤ K) (hX : 0 ≤ X i ∧ X i < 65536) (hY : 0 ≤ Y j ∧ Y j < 65536) :
    MI X Y q K i (j + 1) (fun t => if t = i + j then (D (i + j) + X i * Y j + c) % 65536 else D t) ((D (i + j) + X i * Y j + c) / 65536) := by
  obtain ⟨b1, b2, b3, b4, b5, b6⟩ := mul_bd hX hY (h.bd (i + j)) h.cb
  refine ⟨fun t => ?_, ⟨b3, b4⟩, fun t ht => ?_, ?_⟩
  · split
    · exact ⟨b5, b6⟩
    · exact h.bd t
  · rw [if_neg (by omega)]; exact h.top t ht
  · rw [dv_upd _ _ _ _ (by omega)]
    have hv := h.val
    simp only [dv]
    obtain ⟨s, hs⟩ : ∃ s, s = D (i + j) + X i * Y j + c := ⟨_, rfl⟩
    rw [← hs]
    have e : s % 65536 = s - 65536 * (s / 65536) := by omega
    rw [e, show i + (j + 1) = i + j + 1 by omega, Int.pow_succ]
    obtain ⟨u, hu⟩ : ∃ u, u = s / 65536 := ⟨_, rfl⟩
    rw [← hu]
    have hp : (65536 : Int) ^ (i + j) = 65536 ^ i * 65536 ^ j := Int.pow_add _ _ _
    rw [hp] at hv ⊢
    grind

theorem MI.row {X Y : Nat → Int} {q K i : Nat} {D : Nat → Int} {c : Int} (h : MI X Y q K i q D c) (hK : i + q < K) : MI X Y q K (i + 1) 0 (fun t => if t = i + q then c else D t) 0 := by
  refine ⟨fun t => ?_, by omega, fun t ht => ?_, ?_⟩
  · split
    · exact h.cb
    · exact h.bd t
  · rw [if_neg (by omega)]; exact h.top t (by omega)
  · rw [dv_upd _ _ _ _ hK, h.top (i + q) (Nat.le_refl _)]
    have hv := h.val
    simp only [dv] at hv ⊢
    grind

theorem MI.start (X Y : Nat → Int) (q K : Nat) : MI X Y q K 0 0 (fun _ => 0) 0 :=
  ⟨fun _ => by omega, by omega, fun _ _ => rfl, by rw [dv_zero (fun _ _ => rfl)]; simp [dv]⟩
theorem MI.next {X Y : Nat → Int} {q K i : Nat} {D : Nat → Int} {c : Int} (h : MI X Y q K i 0 D c) : MI X Y q K i 0 D 0 ↔ c = 0 ∨ MI X Y q K i 0 D 0 := ⟨Or.inr, fun h' => by
  rcases h' with e | h'
  · subst e; exact h
  · exact h'⟩

end Go.Proofs.Ytdlpemmoobbgnaa

namespace Go.Proofs.Ytdlpemmoobbgnaa
open Go.RowKit

end Go.Proofs.Ytdlpemmoobbgnaa

namespace Go.Proofs.Ytdlpemmoobbgnaa
open Go.RowKit

theorem FrZ.grown {w w' : World} {base lb : Nat} {v : Value} {z : Int} (h : FrZ w base v z) (hg : w.grownBy w' (some lb)) (hl : lb < base) : FrZ w' base v z := by
  obtain ⟨m, n, f, rfl, h1, h2⟩ := h
  refine ⟨m, n, f, rfl, h1.grown hg ?_, h2⟩
  cases hb : m.ownBlock with
  | none => exact Or.inl rfl
  | some b => right; have := (h1.lt hb).1; intro e; injection e with e; omega
theorem dig_none : Dig 18446744073709551616 0 (fun _ => 0) 0 := by
  constructor
  all_goals first | rfl | (intro h; omega) | (intro i hi; omega)
theorem frz_zero (w : World) (base : Nat) : FrZ w base (.agg #[.bool false, .slice none 0 0]) 0 :=
  ⟨.slice none 0 0, 0, fun _ => 0, rfl, Or.inl ⟨rfl, rfl⟩, dig_none⟩

/-- block lb holds n integers, z 0, z 1, .., each in least form and in memory of the call's own -/
structure ZG (T : TypeId) (w : World) (base bm lb n : Nat) (z : Nat → Int) : Prop where
  blk : Blk w lb (2 * n) T
  own : base ≤ lb
  lt : lb < bm
  cells : ∀ q, q < n → ∃ a m c, w.cell? ⟨lb, q * 2, none⟩ = some (.bool (decide (z q < 0))) ∧ w.cell? ⟨lb, q * 2 + 1, none⟩ = some (.slice a m c) ∧ FrZ w bm (.agg #[.bool (decide (z q < 0)), .slice a m c]) (z q)

section
variable {T : TypeId} {w w' : World} {base bm lb n : Nat} {z : Nat → Int}

theorem ZG.below (h : ZG T w base bm lb n z) (hb : Below w.heap.size w w') : ZG T w' base bm lb n z :=
  { h with
    blk := h.blk.grown (gb_below hb none) (by simp)
    cells := fun q hq => by
      obtain ⟨a, m, c, h1, h2, h3⟩ := h.cells q hq
      exact ⟨a, m, c, cell_stays hb h1, cell_stays hb h2, h3.below hb⟩ }
theorem ZG.mono (h : ZG T w base bm lb n z) {base' : Nat} (h1 : base' ≤ base) : ZG T w base' bm lb n z := { h with own := Nat.le_trans h1 h.own }
theorem ZG.congr (h : ZG T w base bm lb n z) {y : Nat → Int} (e : ∀ i, i < n → z i = y i) : ZG T w base bm lb n y :=
  { h with cells := fun q hq => by rw [← e q hq]; exact h.cells q hq }
theorem ZG.froz (h : ZG T w base bm lb n z) {i : Nat} (hi : i < 2 * n) : w.frozen? ⟨lb, i, none⟩ = false := (h.blk.cell hi).2
/-- a store beside all of it -/
theorem ZG.set (h : ZG T w base bm lb n z) {a : Addr} (ha : a.block < bm) (hl : a.block ≠ lb) (v : Value) : ZG T (w.setCell a v) base bm lb n z :=
  { h with
    blk := h.blk.other hl v
    cells := fun q hq => by
      obtain ⟨x, m, c, h1, h2, h3⟩ := h.cells q hq
      have hg := gb_set w a v
      exact ⟨x, m, c, hg.cell h1 (by intro e; injection e with e; exact hl e.symm), hg.cell h2 (by intro e; injection e with e; exact hl e.symm), h3.grown hg ha⟩ }

theorem ZG.start (w : World) (hb : base ≤ w.heap.size) (hn : w.heap.size < bm) (n : Nat) : ZG T (w.alloc (.cells (madeCells #[.bool false, .slice none 0 0] (n * 2)) T)) base bm w.heap.size n (fun _ => 0) := by
  refine ⟨⟨_, heap_alloc_new w _, by simp [madeCells]; omega⟩, hb, hn, fun q hq => ⟨none, 0, 0, ?_, ?_, frz_zero _ _⟩⟩
  · rw [cell_of_row _ _ _ _ _ _ (heap_alloc_new w _)]
    simp [madeCells, show q * 2 < n * 2 by omega]
  · rw [cell_of_row _ _ _ _ _ _ (heap_alloc_new w _)]
    simp [madeCells, show q * 2 + 1 < n * 2 by omega]

/-- one entry written -/
theorem ZG.put (h : ZG T w base bm lb n z) {k : Nat} (hk : k < n) {y : Int} {a : Option Addr} {m c : Nat} (hz : FrZ w bm (.agg #[.bool (decide (y < 0)), .slice a m c]) y) :
    ZG T ((w.setCell ⟨lb, k * 2, none⟩ (.bool (decide (y < 0)))).setCell ⟨lb, k * 2 + 1, none⟩ (.slice a m c)) base bm lb n (fun q => if q = k then y else z q) := by
  have hg : w.grownBy ((w.setCell ⟨lb, k * 2, none⟩ (.bool (decide (y < 0)))).setCell ⟨lb, k * 2 + 1, none⟩ (.slice a m c)) (some lb) := gb_trans (gb_set _ _ _) (gb_set _ _ _)
  obtain ⟨u1, e1⟩ := Option.isSome_iff_exists.1 (h.blk.cell (i := k * 2) (by omega)).1
  obtain ⟨u2, e2⟩ := Option.isSome_iff_exists.1 (h.blk.cell (i := k * 2 + 1) (by omega)).1
  refine ⟨(h.blk.set _ _).set _ _, h.own, h.lt, fun q hq => ?_⟩
  by_cases e : q = k
  · subst e
    rw [if_pos rfl]
    refine ⟨a, m, c, ?_, ?_, hz.grown hg h.lt⟩
    · rw [World.cell?_setCell_other _ _ _ _ (by intro e; injection e with _ e _; omega)]
      exact World.cell?_setCell_same _ _ _ e1
    · refine World.cell?_setCell_same _ _ _ (u := u2) ?_
      rw [World.cell?_setCell_other _ _ _ _ (by intro e; injection e with _ e _; omega)]; exact e2
  · rw [if_neg e]
    obtain ⟨x, m', c', h1, h2, h3⟩ := h.cells q hq
    refine ⟨x, m', c', ?_, ?_, h3.grown hg h.lt⟩
    · rw [World.cell?_setCell_other _ _ _ _ (by intro e; injection e with _ e _; omega), World.cell?_setCell_other _ _ _ _ (by intro e; injection e with _ e _; omega)]; exact h1
    · rw [World.cell?_setCell_other _ _ _ _ (by intro e; injection e with _ e _; omega), World.cell?_setCell_other _ _ _ _ (by intro e; injection e with _ e _; omega)]; exact h2

instance : Inhabited Raw := ⟨⟨false, 0, fun _ => 0⟩⟩
theorem ZG.read (h : ZG T w base bm lb n z) (hn : n ≤ 1048576) {S : Nat} (hS : S ≤ 274877906944) (hz : ∀ q, q < n → ZB S (z q)) :
    ∃ x, RdL w (.slice (some ⟨lb, 0, none⟩) n n) n x ∧ ∀ q, q < n → (x q).n ≤ S ∧ (x q).val = z q := by
  have key : ∀ q, q < n → ∃ r : Raw, (∃ m, w.cell? ⟨lb, 0 + q * 2, none⟩ = some (.bool r.neg) ∧ w.cell? ⟨lb, 0 + q * 2 + 1, none⟩ = some m ∧ RdW w m r.n r.f) ∧ r.n ≤ S ∧ r.val = z q := fun q hq => by
    obtain ⟨a, m, c, h1, h2, h3⟩ := h.cells q hq
    have h4 := h3
    obtain ⟨m', nn, f, e, g1, g2⟩ := h4
    have hnS : nn ≤ S := g2.len (by omega) (hz q hq)
    obtain ⟨r, ⟨mv, e2, hr⟩, hv, -⟩ := h3.rd (hz q hq) hS
    simp only [Value.agg.injEq, Array.mk.injEq, List.cons.injEq, and_true] at e e2
    obtain ⟨_, rfl⟩ := e
    obtain ⟨e3, rfl⟩ := e2
    obtain ⟨aa, cc, e4, -⟩ := hr.1
    obtain ⟨ab, cb, e5, -⟩ := g1.read
    have hnn : r.n = nn := by rw [e4] at e5; injection e5
    refine ⟨r, ⟨_, ?_, by rw [Nat.zero_add]; exact h2, hr⟩, by omega, hv⟩
    rw [Nat.zero_add, ← e3]; exact h1
  obtain ⟨x, hx⟩ := Go.Deep.choose_lt (α := Raw) key
  exact ⟨x, ⟨some ⟨lb, 0, none⟩, n, rfl, Nat.le_refl _, by omega, fun _ => ⟨lb, 0, rfl, fun i hi => (hx i hi).1⟩⟩, fun q hq => (hx q hq).2⟩
end

set_option maxHeartbeats 400000 in
theorem Check09_any (r c : Int) (a : Option Addr) (n cap : Nat) (hn : n ≤ 17592186044416) (w : World) (hr : 0 ≤ r ∧ r ≤ 64) (hc : 0 ≤ c ∧ c ≤ 64) (he : (n : Int) = r * c) :
    Calls Try.prog 41 #[.agg #[.int .i64 r, .int .i64 c, .slice a n cap]] w fun e w' => e = .returned (.int .i64 0) ∧ Below w.heap.size w w' := by
  obtain ⟨m0, m1⟩ := prod64 hr hc
  obtain ⟨h0, h1⟩ := hr
  obtain ⟨h2, h3⟩ := hc
  have hne : ((n : Int) != r * c) = false := by rw [bne_eq_false_iff_eq]; exact he
  clear he
  go_enter Try.func41, Try.ntmps41
  go_wp2_with fail
  go_ret
  exact ⟨rfl, (Below.refl _ _).alloc (Nat.le_refl _) _⟩

end Go.Proofs.Ytdlpemmoobbgnaa
