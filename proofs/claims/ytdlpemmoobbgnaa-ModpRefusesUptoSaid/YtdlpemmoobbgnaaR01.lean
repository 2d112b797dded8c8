/- The walks of trellisref01.trim, Split, Join, Least. -/
import Derived.Test.YtdlpemmoobbgnaaDig
import Derived.Test.YtdlpemmoobbgnaaGrid
import Derived.Test.YtdlpemmoobbgnaaAnsB
set_option linter.unusedVariables false
set_option linter.unusedSimpArgs false
namespace Go.Proofs.Ytdlpemmoobbgnaa
open Go.RowKit

theorem infoN : (Try.prog.info? 3).map (fun i => (i.zero, i.size, i.bytes)) = some (some (.int .i64 0), 1, 8) := by kernel_rfl

/-- fresh digits of the number N to the base 2^16; fresh words of the number N in least form -/
def FrD (w : World) (base : Nat) (v : Value) (N : Int) : Prop := ∃ n f, FrA .i64 3 w base v n f ∧ Dig 65536 n f N
def FrN (w : World) (base : Nat) (v : Value) (N : Int) : Prop := ∃ n f, FrA .u64 22 w base v n f ∧ Dig 18446744073709551616 n f N

theorem mk_nums (l n : Nat) (hl : l ≤ n) (hn : n ≤ 17592186044416) (u : World) : (Instr.makeSlice 45 (.int .i64 l) (.int .i64 n)).run Try.prog u =
    .ok (.slice (some ⟨u.heap.size, 0, none⟩) l n) (u.alloc (.cells (madeCells #[.int .i64 0] n) 3)) := by
  obtain ⟨i0, hi, hz0, hz1, hz2⟩ := info_parts infoN
  have h := run_make (P := Try.prog) u 45 3 i0 (.int .i64 0) Try.underlying45 hi hz0 .i64 .i64 (l : Int) (n : Int) (by omega) (by omega) (by rw [hz2]; omega) (by omega)
  simpa [hz1, Value.cells] using h
theorem mk_wds (l n : Nat) (hl : l ≤ n) (hn : n ≤ 17592186044416) (u : World) : (Instr.makeSlice 54 (.int .i64 l) (.int .i64 n)).run Try.prog u =
    .ok (.slice (some ⟨u.heap.size, 0, none⟩) l n) (u.alloc (.cells (madeCells #[.int .u64 0] n) 22)) := by
  obtain ⟨i0, hi, hz0, hz1, hz2⟩ := info_parts infoW
  have h := run_make (P := Try.prog) u 54 22 i0 (.int .u64 0) Try.underlying54 hi hz0 .i64 .i64 (l : Int) (n : Int) (by omega) (by omega) (by rw [hz2]; omega) (by omega)
  simpa [hz1, Value.cells] using h

theorem mk_nums0 (n : Nat) (hn : n ≤ 17592186044416) (u : World) : (Instr.makeSlice 45 (.int .i64 0) (.int .i64 n)).run Try.prog u =
    .ok (.slice (some ⟨u.heap.size, 0, none⟩) 0 n) (u.alloc (.cells (madeCells #[.int .i64 0] n) 3)) := mk_nums 0 n (Nat.zero_le _) hn u
theorem mk_wds0 (n : Nat) (hn : n ≤ 17592186044416) (u : World) : (Instr.makeSlice 54 (.int .i64 0) (.int .i64 n)).run Try.prog u =
    .ok (.slice (some ⟨u.heap.size, 0, none⟩) 0 n) (u.alloc (.cells (madeCells #[.int .u64 0] n) 22)) := mk_wds 0 n (Nat.zero_le _) hn u
theorem own_made (w : World) (base : Nat) (z : Value) (n : Nat) (e : TypeId) (hb : base ≤ w.heap.size) (hn : n ≤ maxLen) :
    (w.alloc (.cells (madeCells #[z] n) e)).ownsRow base e 1 (.slice (some ⟨w.heap.size, 0, none⟩) 0 n) 0 [] :=
  ⟨by simp, Or.inr ⟨w.heap.size, n, madeCells #[z] n, rfl, hb, heap_alloc_new w _, by omega, hn, by simp [madeCells], by simp⟩⟩

theorem own_none {w : World} (base : Nat) (e : TypeId) (b cap : Nat) {c : Array Value} (hb : base ≤ b) (h : w.heap[b]? = some (.cells c e (0, 0))) (hc : c.size = cap) (hm : cap ≤ maxLen) : w.ownsRow base e 1 (.slice (some ⟨b, 0, none⟩) 0 cap) 0 [] :=
  ⟨by simp, Or.inr ⟨b, cap, c, rfl, hb, h, by omega, hm, by omega, by simp⟩⟩

/-- one number more behind a row of the call's own: 'append(l, x)' -/
theorem wp_push {P : Program} {wr : World} {ops : Array Oper} {rest : List Oper} {o : Oper} {a : Act} {Q : Exit → Act → World → Prop} (hgd : o.guard = none) (s x : Operand) (t : TypeId)
    (ho : o.op = .call { callee := .builtin .append, args := #[s, x], argTypes := #[t, t] }) {e : TypeId} {z : Value} (ht : P.underlying t = some (.slice e)) (hi : (P.info? e).map (fun i => (i.zero, i.size, i.bytes)) = some (some z, 1, 8)) (hz : z.cells.size = 1)
    {base : Nat} {v : Value} {n : Nat} {xs : List Value} (hown : wr.ownsRow base e 1 v n xs) (hs : a.eval s = v) {u : Value} (hx : a.eval x = .slice (some ⟨wr.heap.size, 0, none⟩) 1 1) (hu : u.oneCell' = true) (hb : base ≤ wr.heap.size) (hn : n ≤ 17592186044415)
    (h : ∀ v' w', w'.ownsRow base e 1 v' (n + 1) (xs ++ [u]) → Below base wr w' → wpList P ops Q rest (a.put o.dst v') w') : wpList P ops Q (o :: rest) a (wr.alloc (.cells #[u] e)) := by
  obtain ⟨i0, hi, hz0, hz1, hz2⟩ := info_parts hi
  refine wpList_append_own _ hgd s x t ho base e i0 z 1 8 ht hi hz0 hz1 hz2 hz (by omega) v n xs hs (hown.alloc _) ⟨wr.heap.size, 0, none⟩ 1 1 [u] hx rfl ?_ ?_ (by unfold maxLen; omega) (by omega) (by simp; omega) fun v' w' h1 h2 _ => h v' w' h1 ?_
  · intro j y hj
    match j, hj with
    | 0, hj => simp at hj; subst hj; simp [Addr.add]
  · intro y hy; simp at hy; subst hy; exact hu
  · exact ((Below.refl _ _).alloc hb _).grown h2 (by simp; omega) fun k hk => (hown.lt k hk).1

theorem own_fr {k : IntKind} {w : World} {base : Nat} {e : TypeId} {v : Value} {n : Nat} {f : Nat → Int} (h : w.ownsRow base e 1 v n ((List.range n).map fun i => .int k (f i))) (hn : n ≤ 17592186044416) : FrA k e w base v n f := by
  obtain ⟨h0, h⟩ := h
  rcases h with ⟨rfl, h⟩ | ⟨g, cap, cur, rfl, h2, h3, h4, h5, h6, h7⟩
  · exact Or.inl ⟨rfl, h⟩
  · refine Or.inr ⟨g, cap, rfl, h4, hn, h2, ⟨cur, h3, by omega⟩, fun i hi => ⟨?_, ?_⟩⟩
    · rw [Nat.zero_add, cell_of_row _ _ _ _ _ _ h3]
      have := congrArg (·[i]?) h7
      rw [List.getElem?_take, if_pos (by omega)] at this
      simpa [hi] using this
    · unfold World.frozen?
      rw [show (⟨g, 0 + i, none⟩ : Addr).block = g from rfl, h3]; simp

theorem FrA.take {k : IntKind} {e : TypeId} {w : World} {base : Nat} {a : Option Addr} {n cap m : Nat} {f : Nat → Int} (h : FrA k e w base (.slice a n cap) n f) (hm : m ≤ n) : FrA k e w base (.slice a m cap) m f := by
  rcases h with ⟨h1, h2⟩ | ⟨b, cap', h1, h2, h3, h4, h5, h6⟩
  · obtain rfl : m = 0 := by omega
    simp only [Value.slice.injEq] at h1
    obtain ⟨rfl, _, rfl⟩ := h1
    exact Or.inl ⟨rfl, rfl⟩
  · simp only [Value.slice.injEq] at h1
    obtain ⟨rfl, _, rfl⟩ := h1
    exact Or.inr ⟨b, cap, rfl, by omega, by omega, h4, h5, fun i hi => h6 i (by omega)⟩

theorem FrA.slice {k : IntKind} {e : TypeId} {w : World} {base : Nat} {v : Value} {n : Nat} {f : Nat → Int} (h : FrA k e w base v n f) : ∃ a cap, v = .slice a n cap := by
  rcases h with ⟨rfl, rfl⟩ | ⟨b, cap, rfl, _⟩
  · exact ⟨_, _, rfl⟩
  · exact ⟨_, _, rfl⟩

set_option maxHeartbeats 400000 in
theorem trim_any (a : Option Addr) (n cap : Nat) (f : Nat → Int) (w : World) (hr : RdA .i64 w (.slice a n cap) n f) :
    Calls Try.prog 128 #[.slice a n cap] w fun e w' => e = .returned (.slice a (sz f n) cap) ∧ w = w' := by
  obtain ⟨a', cap', e, h1, h2, h3⟩ := wd_get hr
  simp only [Value.slice.injEq, true_and] at e
  obtain ⟨rfl, rfl⟩ := e
  have H3 := Lib.hid h3
  clear h3 hr
  go_enter Try.func128, Try.ntmps128
  go_wp2_with fail
  go_loop [3] (fun kv => ∃ k : Nat, k ≤ n ∧ Hid (sz f k = sz f n) ∧ kv = .int .i64 k) (fun kv => (intOf kv).toNat)
  case atStart => exact ⟨n, Nat.le_refl _, rfl, rfl⟩
  case round =>
    obtain ⟨k, k1, k2, rfl⟩ := hrel
    rcases Nat.eq_zero_or_pos k with e | hk
    · subst e
      go_wp2_with fail
      go_ret
      exact ⟨by rw [← k2.out]; rfl, rfl⟩
    · obtain ⟨b, o, rfl, hc⟩ := H3.out (k - 1) (by omega)
      have hk' : (0 : Int) < (k : Int) := by omega
      obtain ⟨x, hx⟩ : ∃ x, x = f (k - 1) := ⟨_, rfl⟩
      rw [← hx] at hc
      obtain ⟨q, hq⟩ : ∃ q, q = k - 1 := ⟨_, rfl⟩
      rw [← hq] at hc
      have hq1 : (k : Int) - 1 = (q : Int) := by omega
      have hq2 : q < n := by omega
      have HQ := Lib.hid hq
      have HX := Lib.hid hx
      clear hq hx
      by_cases hz : x = 0
      · have hzb : (x == 0) = true := beq_iff_eq.2 hz
        have HZ := Lib.hid hz
        clear hz
        go_wp2_with fail
        go_round
        case rel =>
          refine ⟨q, by omega, ?_, rfl⟩
          show _ = _
          rw [← k2.out, show k = q + 1 by have := HQ.out; omega]
          show _ = if f q = 0 then sz f q else q + 1
          rw [if_pos (by rw [HQ.out, ← HX.out]; exact HZ.out)]
        case measure => simp [intOf]; omega
      · have hzb : (x == 0) = false := beq_eq_false_iff_ne.2 hz
        have hfin : Hid (sz f n = k) := by
          show _ = _
          rw [← k2.out, show k = q + 1 by have := HQ.out; omega]
          show (if f q = 0 then sz f q else q + 1) = _
          rw [if_neg (by rw [HQ.out, ← HX.out]; exact hz)]
        clear hz
        go_wp2_with fail
        go_ret
        exact ⟨by rw [hfin.out]; rfl, rfl⟩

theorem spl_snoc (f : Nat → Int) (q : Nat) : ((List.range (q + 1)).map fun i => Value.int .i64 (spl f i)) = ((List.range q).map fun i => Value.int .i64 (spl f i)) ++ [.int .i64 (spl f q)] := by
  rw [List.range_succ, List.map_append]; rfl

theorem map_snoc (k : IntKind) (f : Nat → Int) (q : Nat) : ((List.range (q + 1)).map fun i => Value.int k (f i)) = ((List.range q).map fun i => Value.int k (f i)) ++ [.int k (f q)] := by
  rw [List.range_succ, List.map_append]; rfl

theorem word_step (x : Int) (x0 : 0 ≤ x) (k : Nat) : x / 65536 ^ k / 65536 = x / 65536 ^ (k + 1) ∧ 0 ≤ x / 65536 ^ k := by
  have hp := pow_pos' (show (0 : Int) < 65536 by omega) k
  exact ⟨by rw [Int.ediv_ediv_of_nonneg (by omega), Int.pow_succ], Int.ediv_nonneg x0 (by omega)⟩

theorem word_le (x : Int) (x0 : 0 ≤ x) (x1 : x ≤ 18446744073709551615) (k : Nat) : x / 65536 ^ k ≤ 18446744073709551615 :=
  Int.le_trans (Int.ediv_le_self _ x0) x1

set_option maxHeartbeats 1000000 in
set_option maxRecDepth 100000 in
theorem Split_any (v : Value) (n : Nat) (f : Nat → Int) (w : World) (hn : n ≤ 1099511627776) (hr : RdW w v n f) :
    Calls Try.prog 106 #[v] w fun e w' => ∃ v', e = .returned v' ∧ FrD w' w.heap.size v' (natFrom f 0 n) ∧ Below w.heap.size w w' := by
  obtain ⟨hr, hw⟩ := hr
  obtain ⟨a, cap, rfl, h1, h2, h3⟩ := wd_get hr
  have H3 := Lib.hid h3
  have HW := Lib.hid hw
  clear h3 hr hw
  go_enter Try.func106, Try.ntmps106
  obtain ⟨K, hK⟩ : ∃ K, K = 4 * n := ⟨_, rfl⟩
  have e4 : (4 : Int) * n = (K : Int) := by omega
  have hKb : K ≤ 17592186044416 := by omega
  have mk : ∀ u : World, (Instr.makeSlice 45 (.int .i64 0) (.int .i64 (4 * (n : Int)))).run Try.prog u =
      .ok (.slice (some ⟨u.heap.size, 0, none⟩) 0 K) (u.alloc (.cells (madeCells #[.int .i64 0] K) 3)) := by
    rw [e4]; exact mk_nums0 K hKb
  clear hK e4
  go_wp2_with fail
  have HO := Lib.hid (own_made w w.heap.size (.int .i64 0) K 3 (Nat.le_refl _) (by unfold maxLen; omega))
  have hb1 : Below w.heap.size w (w.alloc (.cells (madeCells #[.int .i64 0] K) 3)) := (Below.refl _ _).alloc (Nat.le_refl _) _
  clear mk
  generalize w.alloc (.cells (madeCells #[.int .i64 0] K) 3) = w1 at HO hb1 ⊢
  go_loopw [3, 4] (fun dv iv wr => ∃ j : Nat, j ≤ n ∧ iv = .int .i64 j ∧ wr.ownsRow w.heap.size 3 1 dv (4 * j) ((List.range (4 * j)).map fun i => .int .i64 (spl f i)) ∧ Below w.heap.size w wr) (fun _ iv _ => n - (intOf iv).toNat)
  case atStart => exact ⟨0, by omega, rfl, HO.out, hb1⟩
  case round =>
    clear HO hb1
    obtain ⟨j, j1, rfl, hown, hbel⟩ := hrel
    obtain ⟨da, dc, rfl⟩ := own_slice hown
    have HO := Lib.hid hown
    clear hown
    by_cases hj : j < n
    · obtain ⟨b, o, rfl, hc⟩ := H3.out j hj
      have hc := cell_stays hbel hc
      obtain ⟨x, hx⟩ : ∃ x, x = f j := ⟨_, rfl⟩
      obtain ⟨x0, x1⟩ := HW.out j hj
      rw [← hx] at hc x0 x1
      have HX := Lib.hid hx
      clear hx
      go_wp2_with fail
      go_loopw [3, 5, 6] (fun dv xv kv wr => ∃ k : Nat, k ≤ 4 ∧ kv = .int .i64 k ∧ xv = .int .u64 (x / 65536 ^ k) ∧ wr.ownsRow w.heap.size 3 1 dv (4 * j + k) ((List.range (4 * j + k)).map fun i => .int .i64 (spl f i)) ∧ Below w.heap.size w wr) (fun _ _ kv _ => 4 - (intOf kv).toNat)
      case atStart => exact ⟨0, by omega, rfl, by rw [Int.pow_zero, Int.ediv_one], HO.out, hbel⟩
      case round =>
        clear HO hbel hc
        obtain ⟨k, k1, rfl, rfl, hown, hbel⟩ := hrel
        obtain ⟨da, dc, rfl⟩ := own_slice hown
        have HO := Lib.hid hown
        clear hown
        obtain ⟨s1, s2⟩ := word_step x x0 k
        have s3 := word_le x x0 x1 k
        obtain ⟨y, hy⟩ : ∃ y, y = x / 65536 ^ k := ⟨_, rfl⟩
        rw [← hy] at s1 s2 s3 ⊢
        have HS1 := Lib.hid s1
        have HY := Lib.hid hy
        clear s1 hy
        by_cases hk : k < 4
        · have hsp : Hid (spl f (4 * j + k) = y % 65536) := by show _ = _; rw [spl_at f j k hk, ← HX.out, HY.out]
          obtain ⟨q, hq⟩ : ∃ q, q = 4 * j + k := ⟨_, rfl⟩
          rw [← hq] at HO hsp ⊢
          have HQ := Lib.hid hq
          have hq2 : q ≤ 4398046511104 := by omega
          clear hq
          go_wp2_with (at_builtin; refine wp_push rfl _ _ 45 rfl Try.underlying45 infoN rfl HO.out rfl rfl rfl hbel.size (by omega) ?_)
          · intro v' w2 hown' hb2
            have hb2 : Below w.heap.size w w2 := hbel.trans hb2
            have HO' := Lib.hid hown'
            clear hown' hbel
            go_wp2_with fail
            go_roundw
            case rel =>
              refine ⟨k + 1, by omega, by go_num, by rw [← HS1.out], ?_, hb2⟩
              rw [show 4 * j + (k + 1) = q + 1 by have := HQ.out; omega, map_snoc, hsp.out]
              exact HO'.out
            case measure => simp [intOf]; omega
        · obtain rfl : k = 4 := by omega
          go_wp2_with fail
          go_roundw
          case rel => exact ⟨j + 1, by omega, by go_num, by rw [show 4 * (j + 1) = 4 * j + 4 by omega]; exact HO.out, hbel⟩
          case measure => simp [intOf]; omega
    · obtain rfl : j = n := by omega
      have hfr := own_fr HO.out (by omega)
      have HF := Lib.hid hfr
      clear hfr
      go_wp2_with (go_at_call 128; refine (trim_any _ _ _ (spl f) _ HF.out.read).mono ?_; rintro e w3 ⟨rfl, rfl⟩)
      go_ret
      refine ⟨_, rfl, ⟨_, spl f, HF.out.take (sz_le _ _), ?_⟩, hbel⟩
      rw [natFrom_dv0]
      exact Dig.split fun i hi => by have := HW.out i hi; omega

end Go.Proofs.Ytdlpemmoobbgnaa
