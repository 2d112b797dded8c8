/- The walks of trellisref01.Join, Least; trellisref05.made, Least, Of, Neg, Abs. -/
import Derived.Test.YtdlpemmoobbgnaaR01
set_option linter.unusedVariables false
set_option linter.unusedSimpArgs false
namespace Go.Proofs.Ytdlpemmoobbgnaa
open Go.RowKit

/-- the upper c digits of the word t -/
def jq (f : Nat → Int) (m t : Nat) : Nat → Int
  | 0 => 0
  | c + 1 => jq f m t c * 65536 + (if 4 * t + (3 - c) < m then f (4 * t + (3 - c)) else 0)

theorem jq_four (f : Nat → Int) (m t : Nat) : jq f m t 4 = joi f m t := by
  simp only [jq, joi, Nat.sub_self, Nat.add_zero, show 3 - 0 = 3 from rfl, show 3 - 1 = 2 from rfl, show 3 - 2 = 1 from rfl]
  omega

theorem jq_bd {f : Nat → Int} {m : Nat} (h : ∀ i, i < m → 0 ≤ f i ∧ f i < 65536) (t : Nat) : ∀ c, c ≤ 3 → 0 ≤ jq f m t c ∧ jq f m t c ≤ 281474976710655 := by
  have a (k : Nat) : 0 ≤ (if k < m then f k else 0) ∧ (if k < m then f k else 0) < 65536 := by
    split
    · exact h k (by assumption)
    · omega
  have := a (4 * t + (3 - 0)); have := a (4 * t + (3 - 1)); have := a (4 * t + (3 - 2))
  intro c hc
  rcases (by omega : c = 0 ∨ c = 1 ∨ c = 2 ∨ c = 3) with r | r | r | r <;> subst r <;> simp only [jq] <;> omega

set_option maxHeartbeats 1000000 in
set_option maxRecDepth 100000 in
theorem Join_any (v : Value) (n : Nat) (f : Nat → Int) (w : World) (hn : n ≤ 17592186044416) (hf : ∀ i, i < n → 0 ≤ f i ∧ f i < 65536) (hr : RdA .i64 w v n f) :
    Calls Try.prog 108 #[v] w fun e w' => ∃ v', e = .returned v' ∧ FrN w' w.heap.size v' (dv 65536 f n) ∧ Below w.heap.size w w' := by
  obtain ⟨a, cap, rfl, h1, h2, h3⟩ := wd_get hr
  have H3 := Lib.hid h3
  have HR := Lib.hid hr
  have HD := Lib.hid (dig_sz hf)
  have HB := Lib.hid hf
  have hle := sz_le f n
  obtain ⟨m, hm⟩ : ∃ m, m = sz f n := ⟨_, rfl⟩
  rw [← hm] at hle HD
  have HM := Lib.hid hm
  clear h3 hr hf hm
  obtain ⟨K, hK⟩ : ∃ K, K = m / 4 + 1 := ⟨_, rfl⟩
  have hKb : K ≤ 17592186044416 := by omega
  have mk : ∀ u : World, (Instr.makeSlice 54 (.int .i64 0) (.int .i64 ((m : Int) / 4 + 1))).run Try.prog u =
      .ok (.slice (some ⟨u.heap.size, 0, none⟩) 0 K) (u.alloc (.cells (madeCells #[.int .u64 0] K) 22)) := by
    rw [show (m : Int) / 4 + 1 = (K : Int) by omega]; exact mk_wds0 K hKb
  have HK := Lib.hid hK
  clear hK
  go_enter Try.func108, Try.ntmps108
  go_wp2_with (go_at_call 128; refine (trim_any _ _ _ f _ HR.out).mono ?_; rw [← HM.out]; rintro e w3 ⟨rfl, rfl⟩)
  have HO := Lib.hid (own_made w w.heap.size (.int .u64 0) K 22 (Nat.le_refl _) (by unfold maxLen; omega))
  have hb1 : Below w.heap.size w (w.alloc (.cells (madeCells #[.int .u64 0] K) 22)) := (Below.refl _ _).alloc (Nat.le_refl _) _
  clear mk
  generalize w.alloc (.cells (madeCells #[.int .u64 0] K) 22) = w1 at HO hb1 ⊢
  go_loopw [3, 4] (fun dv iv wr => ∃ t T : Nat, Hid (T = 4 * t) ∧ T < m + 4 ∧ iv = .int .i64 T ∧ wr.ownsRow w.heap.size 22 1 dv t ((List.range t).map fun i => .int .u64 (joi f m i)) ∧ Below w.heap.size w wr) (fun _ iv _ => m + 4 - (intOf iv).toNat)
  case atStart => exact ⟨0, 0, rfl, by omega, rfl, HO.out, hb1⟩
  case round =>
    clear HO hb1
    obtain ⟨t, T, HT, t1, rfl, hown, hbel⟩ := hrel
    obtain ⟨da, dc, rfl⟩ := own_slice hown
    have HO := Lib.hid hown
    clear hown
    by_cases ht : T < m
    · go_wp2_with fail
      go_loop [5, 6] (fun wv kv => ∃ c : Nat, c ≤ 4 ∧ kv = .int .i64 ((c : Int) - 1) ∧ wv = .int .u64 (jq f m t (4 - c))) (fun _ kv => (intOf kv + 1).toNat)
      case atStart => exact ⟨4, by omega, rfl, rfl⟩
      case round =>
        obtain ⟨c, c1, rfl, rfl⟩ := hrel
        rcases c with _ | j
        · rw [show 4 - 0 = 4 from rfl, jq_four]
          obtain ⟨y, hy⟩ : ∃ y, y = joi f m t := ⟨_, rfl⟩
          rw [← hy]
          have HY := Lib.hid hy
          have htb : t ≤ 4398046511104 := by have := HT.out; omega
          clear hy
          go_wp2_with (at_builtin; refine wp_push rfl _ _ 54 rfl Try.underlying54 infoW rfl HO.out rfl rfl rfl hbel.size (by omega) ?_)
          · intro v' w2 hown' hb2
            have hb2 : Below w.heap.size w w2 := hbel.trans hb2
            have HO' := Lib.hid hown'
            clear hown' hbel
            go_wp2_with fail
            go_roundw
            case rel =>
              refine ⟨t + 1, T + 4, ?_, by omega, by go_num, ?_, hb2⟩
              · show _ = _; have := HT.out; omega
              · rw [map_snoc, ← HY.out]; exact HO'.out
            case measure => simp [intOf]; omega
        · obtain ⟨y0, y1⟩ := jq_bd (fun i hi => HB.out i (show i < n by omega)) t (3 - j) (by omega) (m := m)
          have hs : Hid (jq f m t (4 - j) = jq f m t (4 - (j + 1)) * 65536 + (if T + j < m then f (T + j) else 0)) := by
            show _ = _
            rw [show 4 - j = (4 - (j + 1)) + 1 by omega, HT.out]
            show _ * 65536 + (if 4 * t + (3 - (4 - (j + 1))) < m then f (4 * t + (3 - (4 - (j + 1)))) else 0) = _
            rw [show 3 - (4 - (j + 1)) = j by omega]
          rw [show 3 - j = 4 - (j + 1) by omega] at y0 y1
          obtain ⟨y, hy⟩ : ∃ y, y = jq f m t (4 - (j + 1)) := ⟨_, rfl⟩
          rw [← hy] at y0 y1 hs ⊢
          clear hy
          by_cases hq : T + j < m
          · obtain ⟨b, o, rfl, hc⟩ := H3.out (T + j) (by omega)
            obtain ⟨x0, x1⟩ := HB.out (T + j) (by omega)
            rw [if_pos hq] at hs
            obtain ⟨x, hx⟩ : ∃ x, x = f (T + j) := ⟨_, rfl⟩
            rw [← hx] at hc x0 x1 hs
            have hc := cell_stays hbel hc
            have hq' : (T : Int) + j < m := by omega
            clear hx
            go_wp2_with fail
            go_round
            case rel => exact ⟨j, by omega, by go_num, by rw [hs.out]⟩
            case measure => simp [intOf]
          · rw [if_neg hq] at hs
            have hq' : ¬ (T : Int) + j < m := by omega
            go_wp2_with fail
            go_round
            case rel => exact ⟨j, by omega, by go_num, by rw [hs.out, Int.add_zero]⟩
            case measure => simp [intOf]
    · have hfr := own_fr HO.out (by have := HT.out; omega)
      have HF := Lib.hid hfr
      clear hfr
      go_wp2_with fail
      go_ret
      refine ⟨_, rfl, ⟨_, joi f m, HF.out, ?_⟩, hbel⟩
      exact Dig.join HD.out (by have := HT.out; omega) (by have := HT.out; omega)

theorem FrN.nat {w : World} {base : Nat} {v : Value} {N : Int} (h : FrN w base v N) : ∃ a n cap f, v = .slice a n cap ∧ FrA .u64 22 w base (.slice a n cap) n f ∧ Dig 18446744073709551616 n f N := by
  obtain ⟨n, f, h1, h2⟩ := h
  obtain ⟨a, cap, rfl⟩ := h1.slice
  exact ⟨a, n, cap, f, rfl, h1, h2⟩

set_option maxHeartbeats 400000 in
theorem Least01_any (v : Value) (n : Nat) (f : Nat → Int) (w : World) (hn : n ≤ 1099511627776) (hr : RdW w v n f) :
    Calls Try.prog 97 #[v] w fun e w' => ∃ v', e = .returned v' ∧ FrN w' w.heap.size v' (natFrom f 0 n) ∧ Below w.heap.size w w' := by
  have HR := Lib.hid hr
  have hlt : natFrom f 0 n < 65536 ^ (4 * n) := by
    rw [natFrom_dv0, Int.pow_mul]
    exact (dv_bd (by omega) (fun i hi => by have := hr.2 i hi; omega)).2
  have HL := Lib.hid hlt
  obtain ⟨a, cap, rfl, -⟩ := hr.1
  clear hr hlt
  go_enter Try.func97, Try.ntmps97
  go_wp2_with (first
    | (go_at_call 106; refine (Split_any _ n f _ hn HR.out).mono ?_; rintro e w1 ⟨v1, rfl, ⟨m, g, hfr, hdig⟩, hb1⟩; have hm : m ≤ 17592186044416 := (by have := hdig.len (by omega) HL.out; omega); have HFR := Lib.hid hfr; have HDG := Lib.hid hdig; clear hfr hdig)
    | (go_at_call 108; refine (Join_any _ m g _ hm HDG.out.bd HFR.out.read).mono ?_; rw [HDG.out.val]; rintro e w2 ⟨v2, rfl, hfn, hb2⟩))
  go_ret
  obtain ⟨a2, n2, cap2, f2, rfl, h1, h2⟩ := hfn.nat
  exact ⟨_, rfl, ⟨n2, f2, h1.mono hb1.size, h2⟩, hb1.trans (hb2.mono hb1.size)⟩

end Go.Proofs.Ytdlpemmoobbgnaa
