/- Plain: the rising lists of K numbers below N, one after the other, as minors.Sets makes them. The walk of the iterator that minors.Sets answers, for rounds that are told their list. A range over a function whose iterator keeps one list of its own (the block behind the loop's two) and lays a new value for each round; the body may leave the loop. The walk of trellisref14.Next: the choice behind a choice, or none. The walks of trellisref14.Some for one choice, trellisref11.LikeNums where it answers yes, the law's below100003. The walks of trellisref11.LikeNums where it answers yes, of the law's below100003, of minors.Sets; the iterator where there is nothing to choose. -/
import Derived.Test.YtncldpadakckjaaGA
import Derived.Test.YtncldpadakckjaaGE
import Derived.Test.YtncldpadakckjaaGM
import Derived.Sort.QuietIn
import Derived.Test.YtncldpadakckjaaGI
set_option linter.unusedVariables false
set_option linter.unusedSimpArgs false
namespace Go.Proofs.Ytncldpadakckjaa

/-- how many of the first j places are left in front of those that stand as high as they can -/
def hiI (N K : Nat) (P : Nat → Nat) : Nat → Nat
  | 0 => 0
  | j + 1 => if P j = N - K + j then hiI N K P j else j + 1
def nxtS (N K : Nat) (P : Nat → Nat) : Nat → Nat := fun j =>
  if j + 1 < hiI N K P K then P j else P (hiI N K P K - 1) + 1 + (j + 1 - hiI N K P K)
def setS (N K : Nat) : Nat → Nat → Nat
  | 0 => fun i => i
  | t + 1 => nxtS N K (setS N K t)
/-- the list number t is the last one -/
def LastS (N K t : Nat) : Prop := hiI N K (setS N K t) K = 0

theorem hiI_le (N K : Nat) (P : Nat → Nat) : ∀ j, hiI N K P j ≤ j
  | 0 => Nat.le_refl _
  | j + 1 => by
    unfold hiI
    split
    · have := hiI_le N K P j; omega
    · omega
theorem hiI_high (N K : Nat) (P : Nat → Nat) : ∀ j i, hiI N K P j ≤ i → i < j → P i = N - K + i
  | 0, i, _, h => absurd h (by omega)
  | j + 1, i, h1, h2 => by
    unfold hiI at h1
    split at h1
    · rename_i e
      by_cases hij : i = j
      · subst hij; exact e
      · exact hiI_high N K P j i h1 (by omega)
    · omega
theorem hiI_ne (N K : Nat) (P : Nat → Nat) : ∀ j, 0 < hiI N K P j → P (hiI N K P j - 1) ≠ N - K + (hiI N K P j - 1)
  | 0, h => absurd h (by unfold hiI; omega)
  | j + 1, h => by
    by_cases e : P j = N - K + j
    · have h1 : hiI N K P (j + 1) = hiI N K P j := by show (if P j = N - K + j then hiI N K P j else j + 1) = _; rw [if_pos e]
      rw [h1] at h ⊢
      exact hiI_ne N K P j h
    · have h1 : hiI N K P (j + 1) = j + 1 := by show (if P j = N - K + j then hiI N K P j else j + 1) = _; rw [if_neg e]
      rw [h1]
      exact e
/-- where the search from above stands -/
theorem hiI_down (N K : Nat) (P : Nat → Nat) : ∀ j i, i ≤ j → (∀ k, i ≤ k → k < j → P k = N - K + k) → hiI N K P j = hiI N K P i
  | 0, i, h, _ => by obtain rfl : i = 0 := by omega
                     rfl
  | j + 1, i, h, hk => by
    by_cases e : i = j + 1
    · rw [e]
    · show (if P j = N - K + j then hiI N K P j else j + 1) = _
      rw [if_pos (hk j (by omega) (by omega))]
      exact hiI_down N K P j i (by omega) (fun k h1 h2 => hk k h1 (by omega))

/-- each number lies where room is left for those behind it -/
def RisS (N K : Nat) (P : Nat → Nat) : Prop := ∀ i, i < K → P i ≤ N - K + i
theorem RisS.nxt {N K : Nat} {P : Nat → Nat} (h : RisS N K P) (h0 : 0 < hiI N K P K) : RisS N K (nxtS N K P) := by
  intro i hi
  unfold nxtS
  have hk := hiI_le N K P K
  have hne := hiI_ne N K P K h0
  split
  · exact h i hi
  · have := h (hiI N K P K - 1) (by omega)
    omega
theorem setS_ris {N K : Nat} (hK : K ≤ N) : ∀ t, (∀ s, s < t → ¬ LastS N K s) → RisS N K (setS N K t)
  | 0, _ => fun i _ => by show i ≤ _; omega
  | t + 1, h => (setS_ris hK t (fun s hs => h s (by omega))).nxt (Nat.pos_of_ne_zero (h t (by omega)))
theorem setS_lt {N K t : Nat} (hK : K ≤ N) (h : ∀ s, s < t → ¬ LastS N K s) {i : Nat} (hi : i < K) : setS N K t i < N := by
  have := setS_ris hK t h i hi
  omega

/-- the first j numbers as digits in base B -/
def vS (B : Nat) (P : Nat → Nat) : Nat → Nat
  | 0 => 0
  | j + 1 => vS B P j * B + P j
theorem vS_congr {B : Nat} {P P' : Nat → Nat} : ∀ {j}, (∀ i, i < j → P i = P' i) → vS B P j = vS B P' j
  | 0, _ => rfl
  | j + 1, h => by
    unfold vS
    rw [vS_congr (j := j) (fun i hi => h i (by omega)), h j (by omega)]
theorem vS_lt {B : Nat} {P : Nat → Nat} : ∀ {j}, (∀ i, i < j → P i < B) → vS B P j < B ^ j
  | 0, _ => by simp [vS]
  | j + 1, h => by
    have h1 := vS_lt (j := j) (fun i hi => h i (by omega))
    have h2 := h j (by omega)
    unfold vS
    rw [Nat.pow_succ]
    have : (vS B P j + 1) * B ≤ B ^ j * B := Nat.mul_le_mul_right B h1
    rw [Nat.add_mul, Nat.one_mul] at this
    omega
theorem vS_step {B : Nat} {P P' : Nat → Nat} {h : Nat} (h0 : 0 < h) (he : ∀ i, i + 1 < h → P' i = P i) (h1 : P' (h - 1) = P (h - 1) + 1) : ∀ j, h ≤ j → (∀ i, i < j → P i < B) → vS B P j + 1 ≤ vS B P' j := by
  intro j
  induction j with
  | zero => intro hj; omega
  | succ j ih =>
    intro hj hB
    have hBj := hB j (by omega)
    by_cases e : h = j + 1
    · subst e
      unfold vS
      rw [vS_congr (P := P') (P' := P) (fun i hi => he i (by omega))]
      have : P' j = P j + 1 := h1
      omega
    · have hi := ih (by omega) (fun i hi => hB i (by omega))
      unfold vS
      have : (vS B P j + 1) * B ≤ vS B P' j * B := Nat.mul_le_mul_right B hi
      rw [Nat.add_mul, Nat.one_mul] at this
      omega
theorem nxtS_less {N K : Nat} {P : Nat → Nat} (hK : K ≤ N) (hr : RisS N K P) (h0 : 0 < hiI N K P K) : (N + 1) ^ K - vS (N + 1) (nxtS N K P) K < (N + 1) ^ K - vS (N + 1) P K := by
  have hB : ∀ i, i < K → P i < N + 1 := fun i hi => by have := hr i hi; omega
  have hB' : ∀ i, i < K → nxtS N K P i < N + 1 := fun i hi => by have := hr.nxt h0 i hi; omega
  have h1 := vS_step (B := N + 1) (P := P) (P' := nxtS N K P) h0 (fun i hi => by unfold nxtS; rw [if_pos hi]) (by
    unfold nxtS; rw [if_neg (by omega)]; omega) K (hiI_le N K P K) hB
  have h2 := vS_lt hB'
  omega
end Go.Proofs.Ytncldpadakckjaa

namespace Go.Proofs.Ytncldpadakckjaa
open Go.RowKit Go.Shelf

attribute [local go_sem] Oper.semAt_some

theorem mk_nums0' (n : Nat) (hn : n ≤ 17592186044416) (u : World) : (Instr.makeSlice 25 (.int .i64 0) (.int .i64 n)).run Try.prog u =
    .ok (.slice (some ⟨u.heap.size, 0, none⟩) 0 n) (u.alloc (.cells (madeCells #[.int .i64 0] n) 3)) := mk_nums 0 n (Nat.zero_le _) hn u
/-- the number in a cell -/
def cellN (w : World) (b i : Nat) : Nat := match w.cell? ⟨b, i, none⟩ with
  | some (.int _ z) => z.toNat
  | _ => 0
theorem cellN_row {w : World} {b K : Nat} {f : Nat → Nat} (h : RowAt .i64 w b 0 K (fun i => (f i : Int))) {i : Nat} (hi : i < K) : cellN w b i = f i := by
  unfold cellN
  rw [(h.get0 hi rfl).1]
  simp
/-- a list made with room for n numbers -/
theorem own_madeN (w : World) (n : Nat) (hn : n ≤ maxLen) : (w.alloc (.cells (madeCells #[.int .i64 0] n) 3)).ownsRow w.heap.size 3 1 (.slice (some ⟨w.heap.size, 0, none⟩) 0 n) 0 [] :=
  ⟨by simp, Or.inr ⟨w.heap.size, n, madeCells #[.int .i64 0] n, rfl, Nat.le_refl _, heap_alloc_new w _, Nat.zero_le _, hn, by simp [madeCells], by simp⟩⟩

set_option maxHeartbeats 8000000 in
set_option maxRecDepth 100000 in
theorem sets1_in (n : Nat) (hn : 1 ≤ n) (nb kb N K X : Nat) (hN : N ≤ 64) (hK : K ≤ N) (l : Nat) (J : Nat → World → Prop) (Jx : World → Prop) (W : World) (hX : X = W.heap.size)
    (hJ : ∀ t W W' r, J t W → W.grownBy W' r → (∀ k, r = some k → k = X) → J t W')
    (hJm : ∀ t W, J t W → W.cell? ⟨nb, 0, none⟩ = some (.int .i64 N) ∧ W.cell? ⟨kb, 0, none⟩ = some (.int .i64 K))
    (hY : ∀ t W0 W, (∀ s, s < t → ¬ LastS N K s) → J t W0 → J t W → X < W0.heap.size → Below W0.heap.size W0 W → W0.heap.size < W.heap.size → OwnL W W0.heap.size 3 (.slice (some ⟨W0.heap.size, 0, none⟩) K K) K (fun i => .int .i64 (setS N K t i : Nat)) →
      YieldAt Fence.wide (n - 1) Try.prog l #[.slice (some ⟨W0.heap.size, 0, none⟩) K K] W fun e W' => (e = .returned (.bool true) ∧ J (t + 1) W' ∧ W'.heap[X]? = W.heap[X]?) ∨ (e = .returned (.bool false) ∧ Jx W'))
    (h0 : J 0 W) :
    CallsIn Fence.wide n Try.prog 71 #[.func (.yield l) #[] #[], .pointer (some ⟨nb, 0, none⟩), .pointer (some ⟨kb, 0, none⟩)] W fun e W' => (∃ v, e = .returned v) ∧
      ((∃ t, (∀ s, s < t → ¬ LastS N K s) ∧ LastS N K t ∧ J (t + 1) W') ∨ Jx W') := by
  refine callsIn_of_wp Try.func71 rfl trivial ?_ rfl
  simp only [Try.ntmps71, List.size_toArray, List.length_cons, List.length_nil, Nat.reduceAdd, Nat.reduceSub, Array.replicate_succ, Array.replicate_zero, List.push_toArray, List.append_toArray, List.nil_append, List.cons_append]
  obtain ⟨c0, c1⟩ := hJm 0 W h0
  have mk := fun u => mk_nums K K (Nat.le_refl K) (by omega) u
  have mk0 := fun u => mk_nums0' K (by omega) u
  have a1 : ¬ (N : Int) < 0 := by omega
  have a2 : ¬ (64 : Int) < (N : Int) := by omega
  have a3 : ¬ (K : Int) < 0 := by omega
  have a4 : ¬ (N : Int) < (K : Int) := by omega
  have hK64 : K ≤ 64 := by omega
  have hb1 := bl_alloc W (.cells (madeCells #[.int .i64 0] K) 3)
  have hJ1 := hJ 0 _ _ none h0 (gb_below hb1 none) (fun _ e => by cases e)
  have hB1 := Blk.made W (.int .i64 0) K 3
  have hR1 : RowAt .i64 (W.alloc (.cells (madeCells #[.int .i64 0] K) 3)) W.heap.size 0 K (fun j => if j < 0 then (j : Int) else 0) := (CellsAt.made W (.int .i64 0) K 3).congr (fun i _ => by simp)
  have HJ := Lib.hid hJ
  have HJM := Lib.hid hJm
  have HY := Lib.hid hY
  have HJ1 := Lib.hid hJ1
  have HB1 := Lib.hid hB1
  have HR1 := Lib.hid hR1
  clear hJ hJm hY hJ1 hB1 hR1 hb1 h0
  gi_wp2
  generalize W.alloc (.cells (madeCells #[.int .i64 0] K) 3) = W1 at *
  rw [← hX] at *
  gi_loopw [27, 5] (fun iv _ wr => ∃ i : Nat, i ≤ K ∧ iv = .int .i64 i ∧ J 0 wr ∧ RowAt .i64 wr X 0 K (fun j => if j < i then (j : Int) else 0) ∧ Blk wr X K 3) (fun iv _ _ => K - (intOf iv).toNat)
  case atStart => exact ⟨0, Nat.zero_le _, rfl, HJ1.out, HR1.out, HB1.out⟩
  case round =>
    clear HJ1 HR1 HB1
    obtain ⟨i, hi, rfl, hj, hr, hb⟩ := hrel
    obtain ⟨c0, c1⟩ := HJM.out 0 wr hj
    by_cases hc : i < K
    · have hc' : (i : Int) < K := by omega
      obtain ⟨r0, r1⟩ := hr.get0 hc rfl
      have hJ2 := HJ.out 0 _ _ (some X) hj (gb_set wr ⟨X, i, none⟩ (.int .i64 i)) (fun _ e => by cases e; rfl)
      have hr2 := (hr.set0 hc i).congr (g := fun j => if j < i + 1 then (j : Int) else 0) (fun j hj => by
        by_cases e : j = i
        · subst e; rw [if_pos rfl, if_pos (by omega)]
        · rw [if_neg e]
          by_cases h : j < i
          · rw [if_pos h, if_pos (by omega)]
          · rw [if_neg h, if_neg (by omega)])
      have HJ2 := Lib.hid hJ2
      have HR2 := Lib.hid hr2
      have HB2 := Lib.hid (hb.set i (.int .i64 i))
      clear hj hr hb hJ2 hr2
      gi_wp2
      go_roundw
      case rel => exact ⟨i + 1, by omega, by go_num, HJ2.out, HR2.out, HB2.out⟩
      case measure => simp [intOf]; omega
    · obtain rfl : i = K := by omega
      have HJ2 := Lib.hid hj
      have HR2 := Lib.hid (hr.congr (g := fun j => ((setS N i 0 j : Nat) : Int)) (fun j hj => by rw [if_pos hj]; rfl))
      have HB2 := Lib.hid hb
      have hc' : ¬ (i : Int) < i := by omega
      clear hj hr hb
      gi_wp2
      obtain ⟨wa, hwa⟩ : ∃ x, x = wr := ⟨_, rfl⟩
      subst hwa
      obtain ⟨K, hKK⟩ : ∃ x, x = i := ⟨_, rfl⟩
      subst hKK
      gi_loopw [6, 7] (fun _ _ wr => ∃ t, (∀ s, s < t → ¬ LastS N K s) ∧ J t wr ∧ RowAt .i64 wr X 0 K (fun j => ((setS N K t j : Nat) : Int)) ∧ Blk wr X K 3) (fun _ _ wr => (N + 1) ^ K - vS (N + 1) (fun i => cellN wr X i) K)
      case atStart => exact ⟨0, fun s hs => absurd hs (by omega), HJ2.out, HR2.out, HB2.out⟩
      case round =>
        clear HJ2 HR2 HB2 c0 c1
        obtain ⟨t, hl, hj, hr, hb⟩ := hrel
        obtain ⟨c0, c1⟩ := HJM.out t wr hj
        have hmeas : vS (N + 1) (fun i => cellN wr X i) K = vS (N + 1) (setS N K t) K := vS_congr fun i hi => cellN_row hr hi
        have HME := Lib.hid hmeas
        have hXW := hb.lt
        have hba := bl_alloc wr (.cells (madeCells #[.int .i64 0] K) 3)
        have ho := own_madeN wr K (by unfold maxLen; omega)
        have hra := hr.below hba
        have HLS := Lib.hid hl
        have HO := Lib.hid ho
        obtain ⟨i0, hi, hz0, hz1, hz2⟩ := info_parts infoN
        have hnews : ∀ j u, ((List.range K).map fun i => Value.int .i64 (setS N K t i : Nat))[j]? = some u → (wr.alloc (.cells (madeCells #[.int .i64 0] K) 3)).cell? (Addr.add ⟨X, 0, none⟩ j) = some u := fun j u hj => by
          simp only [List.getElem?_map] at hj
          by_cases hjn : j < K
          · rw [List.getElem?_range hjn] at hj
            simp at hj
            rw [← hj, Addr.add_lit]
            exact (hra j hjn).1
          · rw [List.getElem?_eq_none (by simp; omega)] at hj
            simp at hj
        have hone : ∀ u ∈ ((List.range K).map fun i => Value.int .i64 (setS N K t i : Nat)), u.oneCell' = true := fun u hu => by
          simp at hu
          obtain ⟨i, -, rfl⟩ := hu
          rfl
        have hya : ∀ w3, w3.ownsRow wr.heap.size 3 1 (.slice (some ⟨wr.heap.size, 0, none⟩) (0 + K) K) (0 + K) ([] ++ ((List.range K).map fun i => Value.int .i64 (setS N K t i : Nat))) → (wr.alloc (.cells (madeCells #[.int .i64 0] K) 3)).grownBy w3 (some wr.heap.size) →
            YieldAt Fence.wide (n - 1) Try.prog l #[.slice (some ⟨wr.heap.size, 0, none⟩) K K] w3 fun e W' => (e = .returned (.bool true) ∧ J (t + 1) W' ∧ RowAt .i64 W' X 0 K (fun j => ((setS N K t j : Nat) : Int)) ∧ Blk W' X K 3) ∨ (e = .returned (.bool false) ∧ Jx W') := fun w3 h1 h2 => by
          have hgb : wr.grownBy w3 none := ⟨h2.os, h2.tape, h2.output, by have := h2.size; simp at this; omega, fun k hk _ => (h2.block k (by simp; omega) (fun e => by injection e with e; omega)).trans (hba.block k hk)⟩
          have hbl : Below wr.heap.size wr w3 := ⟨hgb.os, hgb.tape, hgb.output, hgb.size, fun k hk => hgb.block k hk (fun e => by cases e)⟩
          rw [Nat.zero_add] at h1
          have hlt : wr.heap.size < w3.heap.size := by have := h2.size; simp at this; omega
          refine (HY.out t wr w3 HLS.out hj (HJ.out t _ _ none hj hgb (fun _ e => by cases e)) hXW hbl hlt h1).mono fun e W' h => ?_
          rcases h with ⟨e1, e2, e3⟩ | h
          · have e4 : W'.heap[X]? = wr.heap[X]? := e3.trans (hbl.block X hXW)
            refine Or.inl ⟨e1, e2, hr.block e4, ?_⟩
            obtain ⟨cur, g1, g2⟩ := hb
            exact ⟨cur, e4.trans g1, g2⟩
          · exact Or.inr h
        have HYA := Lib.hid hya
        have HI := Lib.hid (And.intro hi (And.intro hz0 (And.intro hz1 hz2)))
        have HN := Lib.hid (And.intro hnews hone)
        clear hya hnews hone hi hz0 hz1 hz2 ho hra hba hj hr hb hl hmeas
        gi_wp2_with (gi_at_builtin; refine wpListIn_append_fits _ (by rfl) _ _ 25 (by rfl) wr.heap.size 3 i0 1 Try.underlying25 HI.out.1 HI.out.2.2.1 wr.heap.size 0 K [] (by rfl) HO.out ⟨X, 0, none⟩ K K ((List.range K).map fun i => Value.int .i64 (setS N K t i : Nat)) (by rfl) (by simp) HN.out.1 HN.out.2 (by omega) ?_; intro w3 g1 g2; obtain ⟨fn, tmps, assign, body, hy, hR⟩ := HYA.out w3 g1 g2)
        obtain ⟨wb, hwb⟩ : ∃ x, x = wr := ⟨_, rfl⟩
        subst hwb
        refine hR.mono ?_
        rintro e W3 (⟨rfl, hj, hr, hb⟩ | ⟨rfl, hx⟩)
        · have HJ3 := Lib.hid hj
          have HR3 := Lib.hid hr
          have HB3 := Lib.hid hb
          obtain ⟨c0, c1⟩ := HJM.out _ W3 hj
          clear hj hr hb hR hy HYA HN HO HI g1 g2
          gi_wp2
          gi_loopw [6] (fun iv wr => ∃ (h : Nat) (z : Int), h ≤ K ∧ iv = .int .i64 z ∧ z = (h : Int) - 1 ∧ (∀ q, h ≤ q → q < K → setS N K t q = N - K + q) ∧ J (t + 1) wr ∧ RowAt .i64 wr X 0 K (fun j => ((setS N K t j : Nat) : Int)) ∧ Blk wr X K 3) (fun iv _ => (intOf iv + 1).toNat)
          case atStart => exact ⟨K, _, Nat.le_refl _, rfl, rfl, fun q h1 h2 => absurd h2 (by omega), HJ3.out, HR3.out, HB3.out⟩
          case round =>
            clear HJ3 HR3 HB3 c0 c1
            obtain ⟨h, z, hh, rfl, hz, hq, hj, hr, hb⟩ := hrel
            obtain ⟨c0, c1⟩ := HJM.out _ wr hj
            have HJ4 := Lib.hid hj
            have HR4 := Lib.hid hr
            have HB4 := Lib.hid hb
            have HQ4 := Lib.hid hq
            rcases h with _ | m
            · obtain rfl : z = -1 := by omega
              clear hj hr hb hq hz
              gi_wp2
              gi_quiet (fail)
              gi_wp2
              refine bodyPost_ret (results_none rfl _ _ _) rfl ?_
              exact ⟨⟨_, rfl⟩, Or.inl ⟨t, HLS.out, by unfold LastS; rw [hiI_down N K _ K 0 (Nat.zero_le _) HQ4.out]; rfl, HJ.out _ _ _ none HJ4.out (gb_drewN _ _ _) (fun _ e => by cases e)⟩⟩
            · obtain rfl : z = (m : Int) := by omega
              obtain ⟨r0, r1⟩ := hr.get0 (show m < K by omega) rfl
              obtain ⟨p, hp⟩ : ∃ p, p = setS N K t m := ⟨_, rfl⟩
              rw [← hp] at r0
              have HP := Lib.hid hp
              have hm' : (m : Int) < (K : Int) := by omega
              have hm0 : (0 : Int) ≤ (m : Int) := by omega
              have hmK : m < K := by omega
              clear hj hr hb hq hz hp
              by_cases e : p = N - K + m
              · have ee : ((p : Int) == (N : Int) - K + m) = true := by rw [beq_iff_eq]; omega
                have HE := Lib.hid e
                clear e
                gi_wp2
                gi_quiet (fail)
                gi_wp2
                go_roundw
                case rel => exact ⟨m, _, by omega, by go_num, rfl, fun q h1 h2 => by
                  by_cases e : q = m
                  · rw [e, ← HP.out]; exact HE.out
                  · exact HQ4.out q (by omega) h2, HJ.out _ _ _ none HJ4.out (gb_drewN _ _ _) (fun _ e => by cases e), HR4.out.gb (gb_drewN _ _ none) (by simp), HB4.out.grown (gb_drewN _ _ none) (by simp)⟩
                case measure => simp [intOf] <;> omega
              · have ee : ((p : Int) == (N : Int) - K + m) = false := by rw [beq_eq_false_iff_ne]; have h2 : p ≤ N - K + m := by rw [HP.out]; exact setS_ris hK t HLS.out m hmK
                                                                         omega
                have hh : hiI N K (setS N K t) K = m + 1 := by
                  rw [hiI_down N K _ K (m + 1) (by omega) HQ4.out]
                  show (if setS N K t m = N - K + m then hiI N K (setS N K t) m else m + 1) = m + 1
                  rw [if_neg (by rw [← HP.out]; exact e)]
                have HE := Lib.hid hh
                clear e hh
                gi_wp2
                gi_quiet (fail)
                have HJ5 := Lib.hid (HJ.out _ _ _ none HJ4.out (gb_drewN wr nq none) (fun _ e => by cases e))
                have HR5 := Lib.hid (HR4.out.gb (gb_drewN wr nq none) (by simp))
                have HB5 := Lib.hid (HB4.out.grown (gb_drewN wr nq none) (by simp))
                generalize wr.drewN nq = w5 at *
                clear HJ4 HR4 HB4 HQ4 r0 r1 c0 c1 ee
                obtain ⟨r0, r1⟩ := HR5.out.get0 hmK rfl
                rw [← HP.out] at r0
                have hn0 : nxtS N K (setS N K t) m = p + 1 := by
                  unfold nxtS; rw [HE.out, if_neg (by omega)]
                  show setS N K t m + 1 + (m + 1 - (m + 1)) = _
                  rw [← HP.out]; omega
                have HJ6 := Lib.hid (HJ.out _ _ _ (some X) HJ5.out (gb_set w5 ⟨X, m, none⟩ (.int .i64 ((p : Int) + 1))) (fun _ e => by cases e; rfl))
                have HR6 := Lib.hid ((HR5.out.set0 hmK ((p : Int) + 1)).congr (g := fun j => if j < m + 1 then ((nxtS N K (setS N K t) j : Nat) : Int) else ((setS N K t j : Nat) : Int)) (fun j hj => by
                  by_cases e : j = m
                  · rw [if_pos e, if_pos (by omega), e, hn0]; rfl
                  · rw [if_neg e]
                    by_cases h : j < m + 1
                    · rw [if_pos h]; congr 1; unfold nxtS; rw [HE.out, if_pos (by omega)]
                    · rw [if_neg h]))
                have HB6 := Lib.hid (HB5.out.set m (.int .i64 ((p : Int) + 1)))
                have hp64 : p ≤ 64 := by have h2 := setS_lt hK HLS.out hmK; rw [← HP.out] at h2; omega
                clear hn0
                have hm1 : ¬ (m : Int) < 0 := by omega
                gi_wp2
                generalize w5.setCell ⟨X, m, none⟩ (.int .i64 ((p : Int) + 1)) = w6 at *
                clear HJ5 HR5 HB5 r0 r1
                gi_loopw [7] (fun jv wr => ∃ q : Nat, m + 1 ≤ q ∧ q ≤ K ∧ jv = .int .i64 q ∧ J (t + 1) wr ∧ RowAt .i64 wr X 0 K (fun j => if j < q then ((nxtS N K (setS N K t) j : Nat) : Int) else ((setS N K t j : Nat) : Int)) ∧ Blk wr X K 3) (fun jv _ => K - (intOf jv).toNat)
                case atStart => exact ⟨m + 1, Nat.le_refl _, by omega, by go_num, HJ6.out, HR6.out, HB6.out⟩
                case round =>
                  clear HJ6 HR6 HB6
                  obtain ⟨q, hq1, hq2, rfl, hj, hr, hb⟩ := hrel
                  obtain ⟨c0, c1⟩ := HJM.out _ wr hj
                  by_cases hqK : q < K
                  · have hq' : (q : Int) < K := by omega
                    obtain ⟨s, rfl⟩ : ∃ s, q = s + 1 := ⟨q - 1, by omega⟩
                    obtain ⟨r0, r1⟩ := hr.get0 (show s < K by omega) (if_pos (show s < s + 1 by omega))
                    obtain ⟨r2, r3⟩ := hr.get0 hqK rfl
                    obtain ⟨y, hy⟩ : ∃ y, y = nxtS N K (setS N K t) s := ⟨_, rfl⟩
                    have hris : RisS N K (nxtS N K (setS N K t)) := (setS_ris hK t HLS.out).nxt (by rw [HE.out]; omega)
                    have hy64 : y ≤ 64 := by have := hris s (by omega); omega
                    have hn1 : nxtS N K (setS N K t) (s + 1) = y + 1 := by
                      rw [hy]; unfold nxtS; rw [HE.out]
                      rw [if_neg (by omega)]
                      by_cases e : s + 1 < m + 1
                      · omega
                      · rw [if_neg e]; omega
                    rw [← hy] at r0
                    have HJ7 := Lib.hid (HJ.out _ _ _ (some X) hj (gb_set wr ⟨X, s + 1, none⟩ (.int .i64 ((y : Int) + 1))) (fun _ e => by cases e; rfl))
                    have HR7 := Lib.hid ((hr.set0 hqK ((y : Int) + 1)).congr (g := fun j => if j < s + 1 + 1 then ((nxtS N K (setS N K t) j : Nat) : Int) else ((setS N K t j : Nat) : Int)) (fun j hj => by
                      by_cases e : j = s + 1
                      · rw [if_pos e, if_pos (by omega), e, hn1]; rfl
                      · rw [if_neg e]
                        by_cases h : j < s + 1
                        · rw [if_pos h, if_pos (by omega)]
                        · rw [if_neg h, if_neg (by omega)]))
                    have HB7 := Lib.hid (hb.set (s + 1) (.int .i64 ((y : Int) + 1)))
                    clear hj hr hb hy hn1 hris
                    gi_wp2
                    go_roundw
                    case rel => exact ⟨s + 1 + 1, by omega, by omega, by go_num, HJ7.out, HR7.out, HB7.out⟩
                    case measure => simp [intOf] <;> omega
                  · obtain rfl : q = K := by omega
                    have hq' : ¬ (q : Int) < q := by omega
                    have hr' : RowAt .i64 wr X 0 q (fun j => ((setS N q (t + 1) j : Nat) : Int)) := hr.congr fun j hj => by rw [if_pos hj]; rfl
                    have HJ7 := Lib.hid hj
                    have HR7 := Lib.hid hr'
                    have HB7 := Lib.hid hb
                    have hms : vS (N + 1) (fun i => cellN wr X i) q = vS (N + 1) (nxtS N q (setS N q t)) q := vS_congr fun i hi => cellN_row hr' hi
                    have HMS := Lib.hid hms
                    clear hj hr hb hr' hms
                    gi_wp2
                    go_roundw
                    case rel => exact ⟨t + 1, fun s hs => by
                      rcases Nat.lt_succ_iff_lt_or_eq.1 hs with h | h
                      · exact HLS.out s h
                      · rw [h]; unfold LastS; rw [HE.out]; omega, HJ7.out, HR7.out, HB7.out⟩
                    case measure => rw [HME.out, HMS.out]; exact nxtS_less hK (setS_ris hK t HLS.out) (by rw [HE.out]; omega)
        · have HX := Lib.hid hx
          clear hx hR hy
          gi_wp2
          refine bodyPost_ret (results_none rfl _ _ _) rfl ?_
          exact ⟨⟨_, rfl⟩, Or.inr HX.out⟩
end Go.Proofs.Ytncldpadakckjaa

namespace Go.Proofs.Ytncldpadakckjaa
open Go.RowKit Go.Shelf

/-- how a body ends: it goes on, or leaves by a jump -/
def stopsPost (X : Nat) (I : World → Prop) (Ix : Code → World → Prop) (W : World) : Exit → Act → World → Prop
  | .normal, _, W' => KeepsOthers W W' ∧ W'.heap[X]? = W.heap[X]? ∧ I W'
  | .ret, _, W' => KeepsOthers W W' ∧ Ix .ret W'
  | .exit id, _, W' => KeepsOthers W W' ∧ Ix (.exit id) W'
  | _, _, _ => False

theorem range_stops {P : Program} {n : Nat} {g : Operand} {ps : Array Tmp} {assign body : Code} {Q : Exit → Act → World → Prop} {a : Act} {w : World} (h1 : 1 ≤ n)
    {gf : Nat} {lb : Array Value} (hg : a.eval g = .func (.func gf) #[] lb) (eg : ∀ args w, (callFunc gf args).run P w = .ok (.enter gf args) w) (hps : ps.size = 1)
    (Done : Nat → Prop) (Row : Nat → World → World → Value → Prop) (hRow : ∀ t W0 W W' v, Row t W0 W v → W.grownBy W' (some (w.heap.size + 1)) → Row t W0 W' v)
    (I : Nat → World → Prop) (Ix : Code → World → Prop)
    (hI : ∀ t W W' r, I t W → W.grownBy W' r → (∀ k, r = some k → k = w.heap.size + 1 ∨ k = w.heap.size + 2) → I t W')
    (hIx : ∀ c W W' r, Ix c W → W.grownBy W' r → (∀ k, r = some k → k = w.heap.size + 1) → Ix c W')
    (hseq : ∀ (l : Nat) (J : Nat → World → Prop) (Jx : World → Prop) (W : World), W.heap.size = w.heap.size + 2 →
      (∀ t W W' r, J t W → W.grownBy W' r → (∀ k, r = some k → k = w.heap.size + 2) → J t W') → (∀ t W, J t W → I t W) →
      (∀ t W0 W v, Row t W0 W v → J t W0 → J t W → YieldAt Fence.wide (n - 1 - 1) P l #[v] W fun e W' => (e = .returned (.bool true) ∧ J (t + 1) W' ∧ W'.heap[w.heap.size + 2]? = W.heap[w.heap.size + 2]?) ∨ (e = .returned (.bool false) ∧ Jx W')) → J 0 W →
      CallsIn Fence.wide (n - 1) P gf (#[.func (.yield l) #[] #[]] ++ lb) W fun e W' => (∃ v, e = .returned v) ∧ ((∃ t, Done t ∧ J t W') ∨ Jx W'))
    (h0 : I 0 w)
    (hround : ∀ (l t : Nat) (v : Value), ∃ a' : Act, (∀ (W : World) (K : Act → World → Prop), K a' W →
      assign.wpIn (Fence.wide.inRound l) (n - 1 - 1) P (Exit.then K (fun _ _ _ => False)) { tmps := (ps.zip #[v]).foldl (fun t (p, v) => t.setIfInBounds p v) a.tmps, defers := [] } W) ∧
      ∀ (W0 W : World), I t W0 → I t W → Row t W0 W v → body.wpIn (Fence.wide.inRound l) (n - 1 - 1) P (stopsPost (w.heap.size + 2) (I (t + 1)) Ix W) a' W)
    (hdone : ∀ (D t : Nat) (W : World), D = w.heap.size → Done t → I t W → W.heap[D]? = some (.deferred (some [])) → Q .normal { a with defers := { target := .collected D, args := #[] } :: a.defers } W)
    (hstop : ∀ (D : Nat) (c : Code) (W : World), D = w.heap.size → Ix c W → W.heap[D]? = some (.deferred (some [])) → c.wpIn Fence.wide n P Q { a with defers := { target := .collected D, args := #[] } :: a.defers } W) :
    (Code.rangeFunc g ps assign body).wpIn Fence.wide n P Q a w := by
  refine wpIn_rangeFunc fun fn hfn => ?_
  obtain ⟨B, hB⟩ : ∃ B, B = w.heap.size := ⟨_, rfl⟩
  rw [← hB] at hRow hI hIx hseq hround hdone hstop
  obtain ⟨rc, hrc⟩ : ∃ rc : LoopState → Option Code → Loop, rc = fun st pe => { state := st, pending := pe, fn, tmps := a.tmps, params := ps, assign, body, defers := B } := ⟨_, rfl⟩
  obtain ⟨u, hu⟩ : ∃ u, u = w.alloc (.deferred (some [])) := ⟨_, rfl⟩
  obtain ⟨v, hv⟩ : ∃ v, v = u.alloc (.loop (rc .ready none)) := ⟨_, rfl⟩
  have su : u.heap.size = B + 1 := by rw [hu, hB]; simp
  have sv : v.heap.size = B + 2 := by rw [hv]; simp [su]
  have bu : Below w.heap.size w u := by rw [hu]; exact (Below.refl _ _).alloc (Nat.le_refl _) _
  have bv : Below u.heap.size u v := by rw [hv]; exact (Below.refl _ _).alloc (Nat.le_refl _) _
  have kD : v.heap[B]? = some (.deferred (some [])) := by
    rw [hv]; exact (Below.heap_alloc _ _ _ (by omega)).trans (by rw [hu, hB]; exact World.alloc_heap_new w _)
  have kL : v.heap[B + 1]? = some (.loop (rc .ready none)) := by rw [hv, ← su]; exact World.alloc_heap_new u _
  have iB : ∀ {t W W'}, I t W → Below W.heap.size W W' → I t W' := fun h hb => hI _ _ _ none h (gb_below hb none) (fun k e => by cases e)
  have iP : ∀ {t W} (o : Obj), I t W → I t (W.putObj (B + 1) o) := fun o h => hI _ _ _ (some (B + 1)) h (grownBy_putObj' _ _ o) (fun k e => by cases e; exact Or.inl rfl)
  have xP : ∀ {c W} (o : Obj), Ix c W → Ix c (W.putObj (B + 1) o) := fun o h => hIx _ _ _ (some (B + 1)) h (grownBy_putObj' _ _ o) (fun k e => by cases e; rfl)
  have hi0 : I 0 v := iB (iB h0 bu) bv
  refine ⟨B + 1, [{ target := .collected B, args := #[] }], v, { target := .fn (.func gf) lb, args := #[.func (.yield (B + 1)) #[] #[]] }, v, gf, #[.func (.yield (B + 1)) #[] #[]] ++ lb, v, ?_, ?_, ?_, ?_, fun _ => h1, ?_⟩
  · rw [hv, hu, hrc, hB]; exact run_enterLoop_outer _ _ _ _ _
  · simp only [resolve, hg]
    simp [go_sem]
  · intro f' hf'; trivial
  · simp [invoke, go_sem, eg]
  · refine (hseq (B + 1) (fun t W => I t W ∧ W.heap[B + 1]? = some (.loop (rc .ready none)) ∧ W.heap[B]? = some (.deferred (some [])))
      (fun W => ∃ c, Ix c W ∧ W.heap[B + 1]? = some (.loop (rc .done (some c))) ∧ W.heap[B]? = some (.deferred (some []))) v sv ?_ (fun t W h => h.1) ?_ ⟨hi0, kL, kD⟩).mono ?_
    · rintro t W W' r ⟨ci, cL, cD⟩ hg hr
      refine ⟨hI _ _ _ r ci hg (fun k e => Or.inr (hr k e)), ?_, ?_⟩
      · exact (hg.block _ (Array.getElem?_eq_some_iff.1 cL).1 (fun e => by have := hr _ e.symm; omega)).trans cL
      · exact (hg.block _ (Array.getElem?_eq_some_iff.1 cD).1 (fun e => by have := hr _ e.symm; omega)).trans cD
    · rintro t W0 W x hrow ⟨ci0, -, -⟩ ⟨ci, cL, cD⟩
      have hy := run_yield (P := P) (args := #[x]) cL (by rw [hrc]; simp [hps])
      have hbr := run_beginRound (P := P) cL (by rw [hrc])
      have hlt : B + 1 < W.heap.size := (Array.getElem?_eq_some_iff.1 cL).1
      have cL2 : (W.putObj (B + 1) (.loop { rc .ready none with state := .busy })).heap[B + 1]? = some (.loop { rc .ready none with state := .busy }) := World.putObj_heap_same hlt
      have cD2 : (W.putObj (B + 1) (.loop { rc .ready none with state := .busy })).heap[B]? = some (.deferred (some [])) := (World.putObj_heap_other (by omega)).trans cD
      have cX2 : (W.putObj (B + 1) (.loop { rc .ready none with state := .busy })).heap[B + 2]? = W.heap[B + 2]? := World.putObj_heap_other (by omega)
      have ci2 := iP (.loop { rc .ready none with state := .busy }) ci
      have hrow2 := hRow _ _ _ _ _ hrow (grownBy_putObj' W (B + 1) (.loop { rc .ready none with state := .busy }))
      generalize W.putObj (B + 1) (.loop { rc .ready none with state := .busy }) = W2 at *
      rw [hrc] at hy
      obtain ⟨a', hassign, hbody⟩ := hround (B + 1) t x
      refine ⟨fn, _, assign, body, hy, roundIn_of_wpIn hfn (hassign W _ ⟨W2, hbr, ?_⟩)⟩
      have fin : ∀ (jump : Option Code) (W3 : World), KeepsOthers W2 W3 →
          (Instr.endRound (B + 1) jump).run P W3 = .ok (.bool jump.isNone) (W3.putObj (B + 1) (.loop (rc (if jump.isNone then .ready else .done) jump))) ∧
          (W3.putObj (B + 1) (.loop (rc (if jump.isNone then .ready else .done) jump))).heap[B + 1]? = some (.loop (rc (if jump.isNone then .ready else .done) jump)) ∧
          (W3.putObj (B + 1) (.loop (rc (if jump.isNone then .ready else .done) jump))).heap[B]? = some (.deferred (some [])) := fun jump W3 hk3 => by
        have cL3 := hk3.same _ _ cL2 rfl
        have cD3 := hk3.same _ _ cD2 rfl
        have he := run_endRound (P := P) jump cL3
        rw [hrc] at he ⊢
        exact ⟨he, World.putObj_heap_same (Array.getElem?_eq_some_iff.1 cL3).1, (World.putObj_heap_other (by omega)).trans cD3⟩
      refine wpIn_mono (hbody W0 W2 ci0 ci2 hrow2) ?_
      rintro e a3 W3 hp
      cases e with
      | normal =>
        obtain ⟨hk, hx3, hi3⟩ := hp
        obtain ⟨he, cL4, cD4⟩ := fin none W3 hk
        exact ⟨_, _, he, Or.inl ⟨rfl, ⟨iP _ hi3, cL4, cD4⟩, ((World.putObj_heap_other (by omega)).trans hx3).trans cX2⟩⟩
      | ret =>
        obtain ⟨hk, hi3⟩ := hp
        obtain ⟨he, cL4, cD4⟩ := fin (some .ret) W3 hk
        exact ⟨_, _, he, Or.inr ⟨rfl, .ret, xP _ hi3, cL4, cD4⟩⟩
      | exit id =>
        obtain ⟨hk, hi3⟩ := hp
        obtain ⟨he, cL4, cD4⟩ := fin (some (.exit id)) W3 hk
        exact ⟨_, _, he, Or.inr ⟨rfl, .exit id, xP _ hi3, cL4, cD4⟩⟩
      | goto t => exact hp.elim
      | panic ch => exact hp.elim
      | outgrown => exact hp.elim
    · rintro e W2 ⟨⟨v, rfl⟩, (⟨t, hd, ci, cL, cD⟩ | ⟨c, hc, cL, cD⟩)⟩
      · have he := run_endLoop (P := P) cL (by rw [hrc]; simp)
        have hpn : (rc .ready none).pending = none := by rw [hrc]
        rw [hpn] at he
        exact ⟨none, _, he, hdone B t _ rfl hd (iP _ ci) ((World.putObj_heap_other (by omega)).trans cD)⟩
      · have he := run_endLoop (P := P) cL (by rw [hrc]; simp)
        have hpn : (rc .done (some c)).pending = some c := by rw [hrc]
        rw [hpn] at he
        exact ⟨some c, _, he, hstop B c _ rfl (xP _ hc) ((World.putObj_heap_other (by omega)).trans cD)⟩
end Go.Proofs.Ytncldpadakckjaa

namespace Go.Proofs.Ytncldpadakckjaa
open Go.RowKit

/-- a list of n numbers of the call's own -/
def NumL (w : World) (base : Nat) (v : Value) (n : Nat) (P : Nat → Nat) : Prop := OwnL w base 3 v n (fun i => .int .i64 (P i : Nat))
theorem NumL.read {w : World} {base : Nat} {v : Value} {n : Nat} {P : Nat → Nat} (h : NumL w base v n P) (hn : n ≤ 64) : RdI64 w v n P := (own_fr (k := .i64) (f := fun i => (P i : Int)) h (by omega)).read
theorem NumL.below {w w' : World} {base : Nat} {v : Value} {n : Nat} {P : Nat → Nat} (h : NumL w base v n P) (hb : Below w.heap.size w w') : NumL w' base v n P := own_below h hb
theorem NumL.congr {w : World} {base : Nat} {v : Value} {n : Nat} {P P' : Nat → Nat} (h : NumL w base v n P) (e : ∀ i, i < n → P i = P' i) : NumL w base v n P' := OwnL.congr h fun i hi => by rw [e i hi]
/-- out of a row of cells -/
theorem numL_row {w : World} {base g n cap : Nat} {P : Nat → Nat} (hr : RowAt .i64 w g 0 n (fun i => (P i : Int))) (hb : Blk w g cap 3) (hbg : base ≤ g) (hn : n ≤ cap) (hc : cap ≤ maxLen) : NumL w base (.slice (some ⟨g, 0, none⟩) n cap) n P := by
  obtain ⟨cur, h1, h2⟩ := hb
  refine ⟨by simp, Or.inr ⟨g, cap, cur, rfl, hbg, h1, hn, hc, by omega, ?_⟩⟩
  apply List.ext_getElem?
  intro i
  rw [Nat.mul_one, List.getElem?_take]
  by_cases hi : i < n
  · rw [if_pos hi]
    have := (hr i hi).1
    rw [Nat.zero_add, cell_of_row _ _ _ _ _ _ h1] at this
    simp [hi, this]
  · rw [if_neg hi, List.getElem?_eq_none (by simp; omega)]
theorem NumL.row {w : World} {base : Nat} {v : Value} {n : Nat} {P : Nat → Nat} (h : NumL w base v n P) (hn : 0 < n) : ∃ g cap, v = .slice (some ⟨g, 0, none⟩) n cap ∧ base ≤ g ∧ n ≤ cap ∧ cap ≤ maxLen ∧ RowAt .i64 w g 0 n (fun i => (P i : Int)) ∧ Blk w g cap 3 := by
  obtain ⟨h0, h⟩ := id h
  rcases h with ⟨rfl, h⟩ | ⟨g, cap, cur, rfl, h2, h3, h4, h5, h6, h7⟩
  · omega
  · obtain ⟨g', cap', e, -, -, -, hc⟩ := OwnL.cell h hn
    simp only [Value.slice.injEq, Option.some.injEq, Addr.mk.injEq, and_true, true_and] at e
    obtain ⟨rfl, rfl⟩ := e
    exact ⟨g, cap, rfl, h2, h4, h5, fun i hi => by rw [Nat.zero_add]; exact hc i hi, cur, h3, by omega⟩
/-- the row of one more choice: the step at the place m, and behind it -/
theorem nxtS_at {N K m : Nat} {P : Nat → Nat} (hh : hiI N K P K = m + 1) : nxtS N K P m = P m + 1 := by
  unfold nxtS; rw [hh, if_neg (by omega)]
  show P m + 1 + (m + 1 - (m + 1)) = _
  omega
theorem nxtS_front {N K m j : Nat} {P : Nat → Nat} (hh : hiI N K P K = m + 1) (hj : j < m) : nxtS N K P j = P j := by
  unfold nxtS; rw [hh, if_pos (by omega)]
theorem nxtS_succ {N K m s : Nat} {P : Nat → Nat} (hh : hiI N K P K = m + 1) (hs : m ≤ s) : nxtS N K P (s + 1) = nxtS N K P s + 1 := by
  unfold nxtS; rw [hh, if_neg (by omega), if_neg (by omega)]; omega
theorem row_put {P P' : Nat → Nat} {m i : Nat} (h1 : P' m = i) (h2 : ∀ j, j < m → P' j = P j) (j : Nat) : (if j = m then (i : Int) else ((P j : Nat) : Int)) = if j < m + 1 then ((P' j : Nat) : Int) else ((P j : Nat) : Int) := by
  by_cases e : j = m
  · rw [if_pos e, if_pos (by omega), e, h1]
  · rw [if_neg e]
    by_cases h : j < m + 1
    · rw [if_pos h, h2 j (by omega)]
    · rw [if_neg h]
theorem row_next {P P' : Nat → Nat} {q i : Nat} (h1 : P' q = i) (j : Nat) : (if j = q then (i : Int) else if j < q then ((P' j : Nat) : Int) else ((P j : Nat) : Int)) = if j < q + 1 then ((P' j : Nat) : Int) else ((P j : Nat) : Int) := by
  by_cases e : j = q
  · rw [if_pos e, if_pos (by omega), e, h1]
  · rw [if_neg e]
    by_cases h : j < q
    · rw [if_pos h, if_pos (by omega)]
    · rw [if_neg h, if_neg (by omega)]

set_option maxHeartbeats 8000000 in
set_option maxRecDepth 100000 in
theorem Next_any (v : Value) (K N : Nat) (P : Nat → Nat) (w : World) (hN : N ≤ 64) (hK : K ≤ N) (hv : RdI64 w v K P) (hP : RisS N K P) :
    Calls Try.prog 32 #[v, .int .i64 N] w fun e w' => Below w.heap.size w w' ∧ ((hiI N K P K = 0 ∧ e = .returned (.slice none 0 0)) ∨ (0 < hiI N K P K ∧ ∃ g cap, e = .returned (.slice (some ⟨g, 0, none⟩) K cap) ∧ NumL w' w.heap.size (.slice (some ⟨g, 0, none⟩) K cap) K (nxtS N K P))) := by
  obtain ⟨a, cap, rfl, h1, h2, h3⟩ := wd_get hv
  have hK64 : K ≤ 64 := by omega
  have H3 := Lib.hid h3
  have HR := Lib.hid hP
  clear hv h3 hP
  go_enter Try.func32, Try.ntmps32
  go_wp2_with fail
  go_loopw [6] (fun iv wr => (∃ (h : Nat) (z : Int), h ≤ K ∧ iv = .int .i64 z ∧ z = (h : Int) - 1 ∧ ∀ q, h ≤ q → q < K → P q = N - K + q) ∧ wr = w) (fun iv _ => (intOf iv + 1).toNat)
  case atStart => exact ⟨⟨K, _, Nat.le_refl _, rfl, rfl, fun q h1 h2 => absurd h2 (by omega)⟩, rfl⟩
  case round =>
    obtain ⟨⟨h, z, hh, rfl, hz, hq⟩, hw⟩ := hrel
    obtain rfl := hw.symm
    clear hw
    have HQ := Lib.hid hq
    rcases h with _ | m
    · obtain rfl : z = -1 := by omega
      have HE := Lib.hid (show hiI N K P K = 0 by rw [hiI_down N K _ K 0 (Nat.zero_le _) hq]; rfl)
      clear hq hz
      go_wp2_with fail
      go_ret
      exact ⟨Below.refl _ _, Or.inl ⟨HE.out, rfl⟩⟩
    · obtain rfl : z = (m : Int) := by omega
      have hmK : m < K := by omega
      have hm' : (m : Int) < (K : Int) := by omega
      obtain ⟨b, o, rfl, hd⟩ := H3.out m hmK
      obtain ⟨p, hp⟩ : ∃ p, p = P m := ⟨_, rfl⟩
      rw [← hp] at hd
      have HP := Lib.hid hp
      clear hq hz hp
      by_cases e : p = N - K + m
      · have ee : ((p : Int) == (N : Int) - K + m) = true := by rw [beq_iff_eq]; omega
        have HE := Lib.hid e
        clear e
        go_wp2_with fail
        go_roundw
        case rel => exact ⟨⟨m, _, by omega, by go_num, rfl, fun q h1 h2 => by
          by_cases e : q = m
          · rw [e, ← HP.out]; exact HE.out
          · exact HQ.out q (by omega) h2⟩, by first | rfl | trivial⟩
        case measure => simp [intOf] <;> omega
      · have ee : ((p : Int) == (N : Int) - K + m) = false := by
          rw [beq_eq_false_iff_ne]
          have h2 : p ≤ N - K + m := by rw [HP.out]; exact HR.out m hmK
          omega
        have hh : hiI N K P K = m + 1 := by
          rw [hiI_down N K _ K (m + 1) (by omega) HQ.out]
          show (if P m = N - K + m then hiI N K P m else m + 1) = m + 1
          rw [if_neg (by rw [← HP.out]; exact e)]
        have HE := Lib.hid hh
        have hba := bl_alloc w (.cells #[] 3)
        have ho : (w.alloc (.cells #[] 3)).ownsRow w.heap.size 3 1 (.slice (some ⟨w.heap.size, 0, none⟩) 0 0) 0 [] := own_none _ _ _ 0 (Nat.le_refl _) (heap_alloc_new w _) rfl (Nat.zero_le _)
        have HO := Lib.hid ho
        have HBA := Lib.hid hba
        obtain ⟨i0, hi, hz0, hz1, hz2⟩ := info_parts infoN
        have HI := Lib.hid (And.intro hi (And.intro hz0 (And.intro hz1 hz2)))
        have hnews : ∀ j u, ((List.range K).map fun i => Value.int .i64 (P i : Nat))[j]? = some u → (w.alloc (.cells #[] 3)).cell? (Addr.add ⟨b, o, none⟩ j) = some u := fun j u hj => by
          simp only [List.getElem?_map] at hj
          by_cases hjn : j < K
          · rw [List.getElem?_range hjn] at hj
            simp at hj
            obtain ⟨b', o', e, hc⟩ := H3.out j hjn
            simp only [Option.some.injEq, Addr.mk.injEq, and_true] at e
            obtain ⟨rfl, rfl⟩ := e
            rw [← hj]
            rw [Addr.add_lit]
            exact cell_stays HBA.out hc
          · rw [List.getElem?_eq_none (by simp; omega)] at hj
            simp at hj
        have hone : ∀ u ∈ ((List.range K).map fun i => Value.int .i64 (P i : Nat)), u.oneCell' = true := fun u hu => by
          simp at hu
          obtain ⟨i, -, rfl⟩ := hu
          rfl
        have HN := Lib.hid (And.intro hnews hone)
        have hp64 : p ≤ 64 := by have := HR.out m hmK; rw [← HP.out] at this; omega
        clear hnews hone ho hba hi hz0 hz1 hz2 hh e
        go_wp2_with (at_builtin; (refine wpList_append_own _ (by rfl) _ _ 25 (by rfl) w.heap.size 3 i0 (.int .i64 0) 1 8 Try.underlying25 HI.out.1 HI.out.2.1 HI.out.2.2.1 HI.out.2.2.2 rfl (by decide) (.slice (some ⟨w.heap.size, 0, none⟩) 0 0) 0 _ (by rfl) HO.out ⟨b, o, none⟩ K cap ((List.range K).map fun i => .int .i64 (P i : Nat)) (by rfl) (by simp) HN.out.1 HN.out.2 (by unfold maxLen; omega) (by omega) (by simp) ?_); intro v' w2 g1 g2 _; rw [Nat.zero_add, List.nil_append] at g1; obtain ⟨g, c2, rfl, hg, hc1, hc2, hr, hb⟩ := NumL.row (P := P) g1 (by omega); have HB2 := Lib.hid (HBA.out.grown g2 HBA.out.size (fun k hk => by simp [Value.ownBlock] at hk; omega)); obtain ⟨r0, r1⟩ := hr.get0 hmK rfl; rw [← HP.out] at r0; have HR2 := Lib.hid hr; have HK2 := Lib.hid hb; clear g1 g2 hr hb)
        have hn0 : nxtS N K P m = p + 1 := by rw [nxtS_at HE.out, HP.out]
        have HR3 := Lib.hid ((HR2.out.set0 hmK ((p : Int) + 1)).congr (g := fun j => if j < m + 1 then ((nxtS N K P j : Nat) : Int) else ((P j : Nat) : Int)) (fun j _ => row_put (i := p + 1) hn0 (fun j hj => nxtS_front HE.out hj) j))
        have HK3 := Lib.hid (HK2.out.set m (.int .i64 ((p : Int) + 1)))
        have HB3 := Lib.hid (HB2.out.grown (gb_set w2 ⟨g, m, none⟩ (.int .i64 ((p : Int) + 1))) HB2.out.size (fun k hk => by cases hk; exact hg))
        generalize w2.setCell ⟨g, m, none⟩ (.int .i64 ((p : Int) + 1)) = w3 at *
        clear hn0 HR2 HK2 HB2 r0 r1 HN HI HO HBA ee
        go_loopw [8] (fun jv wr => ∃ q : Nat, m + 1 ≤ q ∧ q ≤ K ∧ jv = .int .i64 q ∧ RowAt .i64 wr g 0 K (fun j => if j < q then ((nxtS N K P j : Nat) : Int) else ((P j : Nat) : Int)) ∧ Blk wr g c2 3 ∧ Below w.heap.size w wr) (fun jv _ => K - (intOf jv).toNat)
        case atStart => exact ⟨m + 1, Nat.le_refl _, by omega, by go_num, HR3.out, HK3.out, HB3.out⟩
        case round =>
          clear HR3 HK3 HB3
          obtain ⟨q, hq1, hq2, rfl, hr, hb, hbl⟩ := hrel
          by_cases hqK : q < K
          · have hq' : (q : Int) < K := by omega
            obtain ⟨s, rfl⟩ : ∃ s, q = s + 1 := ⟨q - 1, by omega⟩
            obtain ⟨r0, r1⟩ := hr.get0 (show s < K by omega) (if_pos (show s < s + 1 by omega))
            obtain ⟨r2, r3⟩ := hr.get0 hqK rfl
            obtain ⟨y, hy⟩ : ∃ y, y = nxtS N K P s := ⟨_, rfl⟩
            have hris : RisS N K (nxtS N K P) := HR.out.nxt (by rw [HE.out]; omega)
            have hy64 : y ≤ 64 := by have := hris s (by omega); omega
            have hn1 : nxtS N K P (s + 1) = y + 1 := by rw [hy]; exact nxtS_succ HE.out (by omega)
            rw [← hy] at r0
            have HR7 := Lib.hid ((hr.set0 hqK ((y : Int) + 1)).congr (g := fun j => if j < s + 1 + 1 then ((nxtS N K P j : Nat) : Int) else ((P j : Nat) : Int)) (fun j _ => row_next (i := y + 1) hn1 j))
            have HK7 := Lib.hid (hb.set (s + 1) (.int .i64 ((y : Int) + 1)))
            have HB7 := Lib.hid (hbl.grown (gb_set wr ⟨g, s + 1, none⟩ (.int .i64 ((y : Int) + 1))) hbl.size (fun k hk => by cases hk; exact hg))
            clear hr hb hbl hy hn1 hris
            go_wp2_with fail
            go_roundw
            case rel => exact ⟨s + 1 + 1, by omega, by omega, by go_num, HR7.out, HK7.out, HB7.out⟩
            case measure => simp [intOf] <;> omega
          · obtain rfl : q = K := by omega
            have hq' : ¬ (q : Int) < q := by omega
            have HF := Lib.hid (numL_row (base := w.heap.size) (P := nxtS N q P) (hr.congr (g := fun j => ((nxtS N q P j : Nat) : Int)) (fun j hj => by rw [if_pos hj])) hb hg hc1 hc2)
            have HB7 := Lib.hid hbl
            clear hr hb hbl
            go_wp2_with fail
            go_ret
            exact ⟨HB7.out, Or.inr ⟨by rw [HE.out]; omega, _, _, rfl, HF.out⟩⟩
end Go.Proofs.Ytncldpadakckjaa

namespace Go.Proofs.Ytncldpadakckjaa
open Go.RowKit

theorem infoNs : (Try.prog.info? 25).map (fun i => (i.zero, i.size, i.bytes)) = some (some (.slice none 0 0), 1, 24) := by kernel_rfl
theorem mk_nums' (n : Nat) (hn : n ≤ 17592186044416) (u : World) : (Instr.makeSlice 25 (.int .i64 n) (.int .i64 n)).run Try.prog u =
    .ok (.slice (some ⟨u.heap.size, 0, none⟩) n n) (u.alloc (.cells (madeCells #[.int .i64 0] n) 3)) := mk_nums n n (Nat.le_refl _) hn u
/-- a list of lists with one element, the choice P; an empty one -/
def WL1 (w : World) (base : Nat) (v : Value) (K : Nat) (P : Nat → Nat) : Prop := ∃ u, w.ownsRow base 25 1 v 1 [u] ∧ NumL w base u K P
def WL0 (w : World) (base : Nat) (v : Value) : Prop := w.ownsRow base 25 1 v 0 []
theorem news_one (w : World) (v : Value) (t : TypeId) : ∀ j u, [v][j]? = some u → (w.alloc (.cells #[v] t)).cell? (Addr.add ⟨w.heap.size, 0, none⟩ j) = some u := by
  intro j y hj
  match j, hj with
  | 0, hj => simp at hj; subst hj; simp [Addr.add]
theorem one_one {v : Value} (h : v.oneCell' = true) : ∀ u ∈ [v], u.oneCell' = true := by
  intro y hy; simp at hy; subst hy; exact h
theorem row_fill (i j : Nat) : (if j = i then (i : Int) else if j < i then (j : Int) else 0) = if j < i + 1 then (j : Int) else 0 := by
  by_cases e : j = i
  · subst e; rw [if_pos rfl, if_pos (by omega)]
  · rw [if_neg e]
    by_cases h : j < i
    · rw [if_pos h, if_pos (by omega)]
    · rw [if_neg h, if_neg (by omega)]

set_option maxHeartbeats 8000000 in
set_option maxRecDepth 100000 in
theorem Some_good (K N : Nat) (w : World) (hN : N ≤ 64) (hK : K ≤ N) :
    Calls Try.prog 30 #[.int .i64 N, .int .i64 K, .int .i64 1] w fun e w' => Below w.heap.size w w' ∧ ∃ g cap, e = .returned (.slice (some ⟨g, 0, none⟩) 1 cap) ∧ WL1 w' w.heap.size (.slice (some ⟨g, 0, none⟩) 1 cap) K (setS N K 0) := by
  have hK64 : K ≤ 64 := by omega
  have a1 : ¬ (N : Int) < 0 := by omega
  have a2 : ¬ (64 : Int) < (N : Int) := by omega
  have a3 : ¬ (K : Int) < 0 := by omega
  have a4 : ¬ (N : Int) < (K : Int) := by omega
  have mk := fun u => mk_nums' K (by omega) u
  have hb1 := bl_alloc w (.cells (madeCells #[.int .i64 0] K) 3)
  have HB1 := Lib.hid hb1
  have HK1 := Lib.hid (Blk.made w (.int .i64 0) K 3)
  have hR1 : RowAt .i64 (w.alloc (.cells (madeCells #[.int .i64 0] K) 3)) w.heap.size 0 K (fun j => if j < 0 then (j : Int) else 0) := (CellsAt.made w (.int .i64 0) K 3).congr (fun i _ => by simp)
  have HR1 := Lib.hid hR1
  clear hb1 hR1
  go_enter Try.func30, Try.ntmps30
  go_wp2_with fail
  generalize hX : w.heap.size = X at *
  generalize w.alloc (.cells (madeCells #[.int .i64 0] K) 3) = W1 at *
  have HX := Lib.hid hX
  clear a1 a2 a3 a4 mk hX
  go_loopw [9] (fun iv wr => ∃ i : Nat, i ≤ K ∧ iv = .int .i64 i ∧ RowAt .i64 wr X 0 K (fun j => if j < i then (j : Int) else 0) ∧ Blk wr X K 3 ∧ Below X w wr) (fun iv _ => K - (intOf iv).toNat)
  case atStart => exact ⟨0, Nat.zero_le _, rfl, HR1.out, HK1.out, HB1.out⟩
  case round =>
    clear HR1 HK1 HB1
    obtain ⟨i, hi, rfl, hr, hb, hbl⟩ := hrel
    by_cases hc : i < K
    · have hc' : (i : Int) < K := by omega
      obtain ⟨r0, r1⟩ := hr.get0 hc rfl
      have HR2 := Lib.hid ((hr.set0 hc i).congr (g := fun j => if j < i + 1 then (j : Int) else 0) (fun j _ => row_fill i j))
      have HK2 := Lib.hid (hb.set i (.int .i64 i))
      have HB2 := Lib.hid (hbl.grown (gb_set wr ⟨X, i, none⟩ (.int .i64 i)) (by have := hbl.size; have := HX.out; omega) (fun k hk => by cases hk; exact Nat.le_refl _))
      clear hr hb hbl
      go_wp2_with fail
      go_roundw
      case rel => exact ⟨i + 1, by omega, by go_num, HR2.out, HK2.out, HB2.out⟩
      case measure => simp [intOf]; omega
    · obtain rfl : i = K := by omega
      have hc' : ¬ (i : Int) < i := by omega
      have HF := Lib.hid (numL_row (base := X) (P := setS N i 0) (hr.congr (g := fun j => ((setS N i 0 j : Nat) : Int)) (fun j hj => by rw [if_pos hj]; rfl)) hb (Nat.le_refl _) (Nat.le_refl _) (by unfold maxLen; omega))
      have HB2 := Lib.hid hbl
      clear hr hb hbl
      go_wp2_with fail
      obtain ⟨wa, hwa⟩ : ∃ x, x = wr := ⟨_, rfl⟩
      subst hwa
      obtain ⟨K, hKK⟩ : ∃ x, x = i := ⟨_, rfl⟩
      subst hKK
      go_loopw [7, 8] (fun lv sv wr => Below X w wr ∧ ((lv = .slice none 0 0 ∧ sv = .slice (some ⟨X, 0, none⟩) K K ∧ NumL wr X (.slice (some ⟨X, 0, none⟩) K K) K (setS N K 0)) ∨ ∃ g cap, lv = .slice (some ⟨g, 0, none⟩) 1 cap ∧ WL1 wr X (.slice (some ⟨g, 0, none⟩) 1 cap) K (setS N K 0))) (fun lv _ _ => match lv with | .slice _ n _ => 1 - n | _ => 0)
      case atStart => exact ⟨HB2.out, Or.inl ⟨rfl, rfl, HF.out⟩⟩
      case round =>
        clear HB2 HF
        obtain ⟨hbl, (⟨rfl, rfl, hs⟩ | ⟨g, cap, rfl, hw⟩)⟩ := hrel
        · obtain ⟨i0, hi, hz0, hz1, hz2⟩ := info_parts infoNs
          have HI := Lib.hid (And.intro hi (And.intro hz0 (And.intro hz1 hz2)))
          have HB3 := Lib.hid hbl
          have HS3 := Lib.hid hs
          have hsz := hbl.size
          rw [HX.out] at hsz
          clear hi hz0 hz1 hz2 hbl hs
          have hstep : ∀ w2 a2 c2, w2.ownsRow X 25 1 (.slice a2 1 c2) 1 [.slice (some ⟨X, 0, none⟩) K K] → (wr.alloc (.cells #[.slice (some ⟨X, 0, none⟩) K K] 25)).grownBy w2 (Value.slice none 0 0).ownBlock → Below X w w2 ∧ WL1 w2 X (.slice a2 1 c2) K (setS N K 0) ∧ NumL w2 X (.slice (some ⟨X, 0, none⟩) K K) K (setS N K 0) ∧ ∃ g, a2 = some ⟨g, 0, none⟩ := fun w2 a2 c2 g1 g2 => by
            have hb : Below wr.heap.size wr w2 := by
              have h := gb_trans (gb_below (bl_alloc wr (.cells #[.slice (some ⟨X, 0, none⟩) K K] 25)) none) g2
              exact ⟨h.os, h.tape, h.output, h.size, fun k hk => h.block k hk (fun e => by cases e)⟩
            have hn := HS3.out.below hb
            refine ⟨HB3.out.trans (hb.mono hsz), ⟨_, g1, hn⟩, hn, ?_⟩
            rcases g1.2 with ⟨e, e2⟩ | ⟨g, cap, cur, e, -⟩
            · injection e with _ e _; omega
            · injection e with e _ _; exact ⟨g, e⟩
          have HST := Lib.hid hstep
          clear hstep
          by_cases hk0 : K = 0
          · have hk : ((K : Int) == 0) = true := by rw [beq_iff_eq]; omega
            clear hk0
            go_wp2_with (at_builtin; (refine wpList_append_own _ (by rfl) _ _ 52 (by rfl) X 25 i0 (.slice none 0 0) 1 24 Try.underlying52 HI.out.1 HI.out.2.1 HI.out.2.2.1 HI.out.2.2.2 rfl (by decide) (.slice none 0 0) 0 [] (by rfl) ⟨rfl, Or.inl ⟨rfl, rfl⟩⟩ ⟨wr.heap.size, 0, none⟩ 1 1 [.slice (some ⟨X, 0, none⟩) K K] (by rfl) (by simp) (news_one _ _ _) (one_one rfl) (by unfold maxLen; omega) (by omega) (by simp; omega) ?_); intro v' w2 g1 g2 _; rw [Nat.zero_add, List.nil_append] at g1; obtain ⟨a2, c2, rfl⟩ := own_slice g1; have HG1 := Lib.hid g1; have HG2 := Lib.hid g2; clear g1 g2)
            obtain ⟨h1, h2, h3, g, rfl⟩ := HST.out _ _ _ HG1.out HG2.out
            have H1 := Lib.hid h1
            have H2 := Lib.hid h2
            clear h1 h2 h3 HG1 HG2 HST
            go_ret
            rw [← HX.out] at *
            exact ⟨H1.out, _, _, rfl, H2.out⟩
          · have hk : ((K : Int) == 0) = false := by rw [beq_eq_false_iff_ne]; omega
            clear hk0
            go_wp2_with (at_builtin; (refine wpList_append_own _ (by rfl) _ _ 52 (by rfl) X 25 i0 (.slice none 0 0) 1 24 Try.underlying52 HI.out.1 HI.out.2.1 HI.out.2.2.1 HI.out.2.2.2 rfl (by decide) (.slice none 0 0) 0 [] (by rfl) ⟨rfl, Or.inl ⟨rfl, rfl⟩⟩ ⟨wr.heap.size, 0, none⟩ 1 1 [.slice (some ⟨X, 0, none⟩) K K] (by rfl) (by simp) (news_one _ _ _) (one_one rfl) (by unfold maxLen; omega) (by omega) (by simp; omega) ?_); intro v' w2 g1 g2 _; rw [Nat.zero_add, List.nil_append] at g1; obtain ⟨a2, c2, rfl⟩ := own_slice g1; have HG1 := Lib.hid g1; have HG2 := Lib.hid g2; clear g1 g2)
            obtain ⟨h1, h2, h3, g, rfl⟩ := HST.out _ _ _ HG1.out HG2.out
            have H1 := Lib.hid h1
            have H2 := Lib.hid h2
            have HNX := Lib.hid (Next_any _ K N (setS N K 0) w2 hN (by omega) (h3.read hK64) (setS_ris (by omega) 0 (fun s hs => absurd hs (by omega))))
            have hX2 : X ≤ w2.heap.size := by have := h1.size; have := HX.out; omega
            clear h1 h2 h3 HG1 HG2 HST
            have he0 : ∀ w : World, (binOp .eql 25 (.slice none 0 0) (.slice none 0 0)).run Try.prog w = .ok (.bool true) w := fun _ => rfl
            have he1 : ∀ (g n c : Nat) (w : World), (binOp .eql 25 (.slice (some ⟨g, 0, none⟩) n c) (.slice none 0 0)).run Try.prog w = .ok (.bool false) w := fun _ _ _ _ => rfl
            refine HNX.out.mono ?_
            rintro e w4 ⟨hb4, (⟨-, rfl⟩ | ⟨-, g4, c4, rfl, -⟩)⟩
            · have H4 := Lib.hid (H1.out.trans (hb4.mono hX2))
              have H5 := Lib.hid (show WL1 w4 X _ K (setS N K 0) from by obtain ⟨u, k1, k2⟩ := H2.out; exact ⟨u, own_below k1 hb4, k2.below hb4⟩)
              clear hb4 H1 H2 HNX
              go_wp2_with fail
              go_ret
              rw [← HX.out] at *
              exact ⟨H4.out, _, _, rfl, H5.out⟩
            · have H4 := Lib.hid (H1.out.trans (hb4.mono hX2))
              have H5 := Lib.hid (show WL1 w4 X _ K (setS N K 0) from by obtain ⟨u, k1, k2⟩ := H2.out; exact ⟨u, own_below k1 hb4, k2.below hb4⟩)
              clear hb4 H1 H2 HNX
              go_wp2_with fail
              go_roundw
              case rel => exact ⟨H4.out, Or.inr ⟨_, _, rfl, H5.out⟩⟩
              case measure => simp
        · have HB3 := Lib.hid hbl
          have HW3 := Lib.hid hw
          clear hbl hw
          go_wp2_with fail
          go_ret
          rw [← HX.out] at *
          exact ⟨HB3.out, _, _, rfl, HW3.out⟩
end Go.Proofs.Ytncldpadakckjaa

namespace Go.Proofs.Ytncldpadakckjaa
open Go.RowKit Go.Shelf

set_option maxHeartbeats 2000000 in
set_option maxRecDepth 100000 in
theorem LikeNums_yes (x y : Value) (K : Nat) (P : Nat → Nat) (w : World) (hK : K ≤ 64) (hx : RdI64 w x K P) (hy : RdI64 w y K P) :
    Calls Try.prog 31 #[x, y] w fun e w' => e = .returned (.bool true) ∧ Below w.heap.size w w' := by
  obtain ⟨a, ca, rfl, h1, h2, h3⟩ := wd_get hx
  obtain ⟨b, cb, rfl, k1, k2, k3⟩ := wd_get hy
  have H3 := Lib.hid h3
  have K3 := Lib.hid k3
  clear hx hy h3 k3
  go_enter Try.func31, Try.ntmps31
  go_wp2_with fail
  go_loopw [5] (fun iv wr => (∃ i : Nat, i ≤ K ∧ iv = .int .i64 i) ∧ Below w.heap.size w wr) (fun iv _ => K - (intOf iv).toNat)
  case atStart => exact ⟨⟨0, Nat.zero_le _, rfl⟩, Below.refl _ _⟩
  case round =>
    obtain ⟨⟨i, hi, rfl⟩, hbl⟩ := hrel
    by_cases hc : i < K
    · have hc' : (i : Int) < (K : Int) := by omega
      have hi0 : (0 : Int) ≤ (i : Int) := by omega
      obtain ⟨g1, o1, rfl, d1⟩ := H3.out i hc
      obtain ⟨g2, o2, rfl, d2⟩ := K3.out i hc
      replace d1 := below_keep hbl (World.block_lt_of_cell? _ _ d1) d1
      replace d2 := below_keep hbl (World.block_lt_of_cell? _ _ d2) d2
      generalize P i = p at *
      have HB := Lib.hid hbl
      clear hbl
      go_wp2_with fail
      go_quiet (fail)
      have HB2 := Lib.hid (show Below w.heap.size w (wr.drewN nq) from ⟨HB.out.os, HB.out.tape, HB.out.output, HB.out.size, HB.out.block⟩)
      go_wp2_with fail
      go_roundw
      case rel => exact ⟨⟨i + 1, by omega, by go_num⟩, HB2.out⟩
      case measure => simp [intOf] <;> omega
    · obtain rfl : i = K := by omega
      have hc' : ¬ (i : Int) < (i : Int) := by omega
      have HB := Lib.hid hbl
      clear hbl
      go_wp2_with fail
      go_ret
      exact ⟨rfl, HB.out⟩

set_option maxHeartbeats 2000000 in
theorem below_any' (n : Int) (hn : -9223372036854775808 ≤ n ∧ n ≤ 9223372036854775807) (w : World) :
    Calls Try.prog 28 #[.int .i64 n] w fun e w' => (∃ c : Nat, c ≤ 100002 ∧ e = .returned (.int .i64 c)) ∧ w = w' := by
  have h1 : Int.tmod n 100003 < 100003 := Int.tmod_lt_of_pos n (by omega)
  have h2 : -100003 < Int.tmod n 100003 := Int.lt_tmod_of_pos n (by omega)
  go_enter Try.func28, Try.ntmps28
  by_cases hneg : Int.tmod n 100003 < 0
  · go_wp2_with fail
    go_ret
    exact ⟨⟨(-(Int.tmod n 100003)).toNat, by omega, by go_num⟩, rfl⟩
  · go_wp2_with fail
    go_ret
    exact ⟨⟨(Int.tmod n 100003).toNat, by omega, by go_num⟩, rfl⟩

theorem Sets_any (N K : Int) (w : World) :
    Calls Try.prog 29 #[.int .i64 N, .int .i64 K] w fun e w' => e = .returned (.func (.func 71) #[] #[.pointer (some ⟨w.heap.size, 0, none⟩), .pointer (some ⟨w.heap.size + 1, 0, none⟩)]) ∧ w' = (w.alloc (.cells #[.int .i64 N] 3)).alloc (.cells #[.int .i64 K] 3) := by
  go_enter Try.func29, Try.ntmps29
  go_wp2_with fail
  go_ret
  exact ⟨rfl, rfl⟩
end Go.Proofs.Ytncldpadakckjaa
