/- Plain: the rising lists of K numbers below N, one after the other, as minors.Sets makes them. Two lists without one place, built side by side by append. The walk of trellisref14.Next: the choice behind a choice, or none. The walks of trellisref14.Some for one choice, trellisref11.LikeNums where it answers yes, the law's below100003. Plain: how many choices there are: the binomial numbers, and the place of the last choice. trellisref14.Some, Sets: all choices. -/
import Derived.Test.YtejliecmdkmgiaaGA
import Derived.Test.YtejliecmdkmgiaaGX
import Derived.Test.YtejliecmdkmgiaaGI
import Derived.Test.YtejliecmdkmgiaaGH
set_option linter.unusedVariables false
set_option linter.unusedSimpArgs false
namespace Go.Proofs.Ytejliecmdkmgiaa

/-- how many of the first j places are left in front of those that stand as high as they can -/
def hiI (N K : Nat) (P : Nat → Nat) : Nat → Nat
  | 0 => 0
  | j + 1 => if P j = N - K + j then hiI N K P j else j + 1
def nxtS (N K : Nat) (P : Nat → Nat) : Nat → Nat := fun j =>
  if j + 1 < hiI N K P K then P j else P (hiI N K P K - 1) + 1 + (j + 1 - hiI N K P K)
def setS (N K : Nat) : Nat → Nat → Nat
  | 0 => fun i => i
  | t + 1 => nxtS N K (setS N K t)
/-- the list number t is the last one -/
def LastS (N K t : Nat) : Prop := hiI N K (setS N K t) K = 0

theorem hiI_le (N K : Nat) (P : Nat → Nat) : ∀ j, hiI N K P j ≤ j
  | 0 => Nat.le_refl _
  | j + 1 => by
    unfold hiI
    split
    · have := hiI_le N K P j; omega
    · omega
theorem hiI_high (N K : Nat) (P : Nat → Nat) : ∀ j i, hiI N K P j ≤ i → i < j → P i = N - K + i
  | 0, i, _, h => absurd h (by omega)
  | j + 1, i, h1, h2 => by
    unfold hiI at h1
    split at h1
    · rename_i e
      by_cases hij : i = j
      · subst hij; exact e
      · exact hiI_high N K P j i h1 (by omega)
    · omega
theorem hiI_ne (N K : Nat) (P : Nat → Nat) : ∀ j, 0 < hiI N K P j → P (hiI N K P j - 1) ≠ N - K + (hiI N K P j - 1)
  | 0, h => absurd h (by unfold hiI; omega)
  | j + 1, h => by
    by_cases e : P j = N - K + j
    · have h1 : hiI N K P (j + 1) = hiI N K P j := by show (if P j = N - K + j then hiI N K P j else j + 1) = _; rw [if_pos e]
      rw [h1] at h ⊢
      exact hiI_ne N K P j h
    · have h1 : hiI N K P (j + 1) = j + 1 := by show (if P j = N - K + j then hiI N K P j else j + 1) = _; rw [if_neg e]
      rw [h1]
      exact e
/-- where the search from above stands -/
theorem hiI_down (N K : Nat) (P : Nat → Nat) : ∀ j i, i ≤ j → (∀ k, i ≤ k → k < j → P k = N - K + k) → hiI N K P j = hiI N K P i
  | 0, i, h, _ => by obtain rfl : i = 0 := by omega
                     rfl
  | j + 1, i, h, hk => by
    by_cases e : i = j + 1
    · rw [e]
    · show (if P j = N - K + j then hiI N K P j else j + 1) = _
      rw [if_pos (hk j (by omega) (by omega))]
      exact hiI_down N K P j i (by omega) (fun k h1 h2 => hk k h1 (by omega))

/-- each number lies where room is left for those behind it -/
def RisS (N K : Nat) (P : Nat → Nat) : Prop := ∀ i, i < K → P i ≤ N - K + i
theorem RisS.nxt {N K : Nat} {P : Nat → Nat} (h : RisS N K P) (h0 : 0 < hiI N K P K) : RisS N K (nxtS N K P) := by
  intro i hi
  unfold nxtS
  have hk := hiI_le N K P K
  have hne := hiI_ne N K P K h0
  split
  · exact h i hi
  · have := h (hiI N K P K - 1) (by omega)
    omega
theorem setS_ris {N K : Nat} (hK : K ≤ N) : ∀ t, (∀ s, s < t → ¬ LastS N K s) → RisS N K (setS N K t)
  | 0, _ => fun i _ => by show i ≤ _; omega
  | t + 1, h => (setS_ris hK t (fun s hs => h s (by omega))).nxt (Nat.pos_of_ne_zero (h t (by omega)))
theorem setS_lt {N K t : Nat} (hK : K ≤ N) (h : ∀ s, s < t → ¬ LastS N K s) {i : Nat} (hi : i < K) : setS N K t i < N := by
  have := setS_ris hK t h i hi
  omega

/-- the first j numbers as digits in base B -/
def vS (B : Nat) (P : Nat → Nat) : Nat → Nat
  | 0 => 0
  | j + 1 => vS B P j * B + P j
theorem vS_congr {B : Nat} {P P' : Nat → Nat} : ∀ {j}, (∀ i, i < j → P i = P' i) → vS B P j = vS B P' j
  | 0, _ => rfl
  | j + 1, h => by
    unfold vS
    rw [vS_congr (j := j) (fun i hi => h i (by omega)), h j (by omega)]
theorem vS_lt {B : Nat} {P : Nat → Nat} : ∀ {j}, (∀ i, i < j → P i < B) → vS B P j < B ^ j
  | 0, _ => by simp [vS]
  | j + 1, h => by
    have h1 := vS_lt (j := j) (fun i hi => h i (by omega))
    have h2 := h j (by omega)
    unfold vS
    rw [Nat.pow_succ]
    have : (vS B P j + 1) * B ≤ B ^ j * B := Nat.mul_le_mul_right B h1
    rw [Nat.add_mul, Nat.one_mul] at this
    omega
theorem vS_step {B : Nat} {P P' : Nat → Nat} {h : Nat} (h0 : 0 < h) (he : ∀ i, i + 1 < h → P' i = P i) (h1 : P' (h - 1) = P (h - 1) + 1) : ∀ j, h ≤ j → (∀ i, i < j → P i < B) → vS B P j + 1 ≤ vS B P' j := by
  intro j
  induction j with
  | zero => intro hj; omega
  | succ j ih =>
    intro hj hB
    have hBj := hB j (by omega)
    by_cases e : h = j + 1
    · subst e
      unfold vS
      rw [vS_congr (P := P') (P' := P) (fun i hi => he i (by omega))]
      have : P' j = P j + 1 := h1
      omega
    · have hi := ih (by omega) (fun i hi => hB i (by omega))
      unfold vS
      have : (vS B P j + 1) * B ≤ vS B P' j * B := Nat.mul_le_mul_right B hi
      rw [Nat.add_mul, Nat.one_mul] at this
      omega
theorem nxtS_less {N K : Nat} {P : Nat → Nat} (hK : K ≤ N) (hr : RisS N K P) (h0 : 0 < hiI N K P K) : (N + 1) ^ K - vS (N + 1) (nxtS N K P) K < (N + 1) ^ K - vS (N + 1) P K := by
  have hB : ∀ i, i < K → P i < N + 1 := fun i hi => by have := hr i hi; omega
  have hB' : ∀ i, i < K → nxtS N K P i < N + 1 := fun i hi => by have := hr.nxt h0 i hi; omega
  have h1 := vS_step (B := N + 1) (P := P) (P' := nxtS N K P) h0 (fun i hi => by unfold nxtS; rw [if_pos hi]) (by
    unfold nxtS; rw [if_neg (by omega)]; omega) K (hiI_le N K P K) hB
  have h2 := vS_lt hB'
  omega
end Go.Proofs.Ytejliecmdkmgiaa

namespace Go.Proofs.Ytejliecmdkmgiaa
open Go.RowKit

/-- the list of the places below c without k -/
def SkL (w : World) (base : Nat) (v : Value) (k c : Nat) : Prop := OwnL w base 3 v (if k < c then c - 1 else c) (fun i => .int .i64 (laZ.sk k i : Nat))
theorem SkL.start (w : World) (base k : Nat) : SkL w base (.slice none 0 0) k 0 := ⟨rfl, Or.inl ⟨rfl, rfl⟩⟩
theorem SkL.parts {w : World} {base : Nat} {v : Value} {k c : Nat} (h : SkL w base v k c) : ∃ a m cap, v = .slice a m cap := by
  obtain ⟨a, cap, e, -⟩ := OwnL.slice h
  exact ⟨a, _, cap, e⟩
theorem SkL.skip {w : World} {base : Nat} {v : Value} {k : Nat} (h : SkL w base v k k) : SkL w base v k (k + 1) := by
  unfold SkL at *
  rw [if_pos (by omega), show k + 1 - 1 = k by omega]
  rw [if_neg (by omega)] at h
  exact h
theorem SkL.full {w : World} {base : Nat} {v : Value} {k n : Nat} (h : SkL w base v k n) (hk : k < n) (hn : n ≤ 64) : RdI64 w v (n - 1) (laZ.sk k) := by
  unfold SkL at h
  rw [if_pos hk] at h
  exact (own_fr (k := .i64) (f := fun i => (laZ.sk k i : Int)) h (by omega)).read

end Go.Proofs.Ytejliecmdkmgiaa

namespace Go.Proofs.Ytejliecmdkmgiaa
open Go.RowKit

/-- a list of n numbers of the call's own -/
def NumL (w : World) (base : Nat) (v : Value) (n : Nat) (P : Nat → Nat) : Prop := OwnL w base 3 v n (fun i => .int .i64 (P i : Nat))
theorem NumL.read {w : World} {base : Nat} {v : Value} {n : Nat} {P : Nat → Nat} (h : NumL w base v n P) (hn : n ≤ 64) : RdI64 w v n P := (own_fr (k := .i64) (f := fun i => (P i : Int)) h (by omega)).read
theorem NumL.below {w w' : World} {base : Nat} {v : Value} {n : Nat} {P : Nat → Nat} (h : NumL w base v n P) (hb : Below w.heap.size w w') : NumL w' base v n P := own_below h hb
theorem NumL.congr {w : World} {base : Nat} {v : Value} {n : Nat} {P P' : Nat → Nat} (h : NumL w base v n P) (e : ∀ i, i < n → P i = P' i) : NumL w base v n P' := OwnL.congr h fun i hi => by rw [e i hi]
/-- out of a row of cells -/
theorem numL_row {w : World} {base g n cap : Nat} {P : Nat → Nat} (hr : RowAt .i64 w g 0 n (fun i => (P i : Int))) (hb : Blk w g cap 3) (hbg : base ≤ g) (hn : n ≤ cap) (hc : cap ≤ maxLen) : NumL w base (.slice (some ⟨g, 0, none⟩) n cap) n P := by
  obtain ⟨cur, h1, h2⟩ := hb
  refine ⟨by simp, Or.inr ⟨g, cap, cur, rfl, hbg, h1, hn, hc, by omega, ?_⟩⟩
  apply List.ext_getElem?
  intro i
  rw [Nat.mul_one, List.getElem?_take]
  by_cases hi : i < n
  · rw [if_pos hi]
    have := (hr i hi).1
    rw [Nat.zero_add, cell_of_row _ _ _ _ _ _ h1] at this
    simp [hi, this]
  · rw [if_neg hi, List.getElem?_eq_none (by simp; omega)]
theorem NumL.row {w : World} {base : Nat} {v : Value} {n : Nat} {P : Nat → Nat} (h : NumL w base v n P) (hn : 0 < n) : ∃ g cap, v = .slice (some ⟨g, 0, none⟩) n cap ∧ base ≤ g ∧ n ≤ cap ∧ cap ≤ maxLen ∧ RowAt .i64 w g 0 n (fun i => (P i : Int)) ∧ Blk w g cap 3 := by
  obtain ⟨h0, h⟩ := id h
  rcases h with ⟨rfl, h⟩ | ⟨g, cap, cur, rfl, h2, h3, h4, h5, h6, h7⟩
  · omega
  · obtain ⟨g', cap', e, -, -, -, hc⟩ := OwnL.cell h hn
    simp only [Value.slice.injEq, Option.some.injEq, Addr.mk.injEq, and_true, true_and] at e
    obtain ⟨rfl, rfl⟩ := e
    exact ⟨g, cap, rfl, h2, h4, h5, fun i hi => by rw [Nat.zero_add]; exact hc i hi, cur, h3, by omega⟩
/-- the row of one more choice: the step at the place m, and behind it -/
theorem nxtS_at {N K m : Nat} {P : Nat → Nat} (hh : hiI N K P K = m + 1) : nxtS N K P m = P m + 1 := by
  unfold nxtS; rw [hh, if_neg (by omega)]
  show P m + 1 + (m + 1 - (m + 1)) = _
  omega
theorem nxtS_front {N K m j : Nat} {P : Nat → Nat} (hh : hiI N K P K = m + 1) (hj : j < m) : nxtS N K P j = P j := by
  unfold nxtS; rw [hh, if_pos (by omega)]
theorem nxtS_succ {N K m s : Nat} {P : Nat → Nat} (hh : hiI N K P K = m + 1) (hs : m ≤ s) : nxtS N K P (s + 1) = nxtS N K P s + 1 := by
  unfold nxtS; rw [hh, if_neg (by omega), if_neg (by omega)]; omega
theorem row_put {P P' : Nat → Nat} {m i : Nat} (h1 : P' m = i) (h2 : ∀ j, j < m → P' j = P j) (j : Nat) : (if j = m then (i : Int) else ((P j : Nat) : Int)) = if j < m + 1 then ((P' j : Nat) : Int) else ((P j : Nat) : Int) := by
  by_cases e : j = m
  · rw [if_pos e, if_pos (by omega), e, h1]
  · rw [if_neg e]
    by_cases h : j < m + 1
    · rw [if_pos h, h2 j (by omega)]
    · rw [if_neg h]
theorem row_next {P P' : Nat → Nat} {q i : Nat} (h1 : P' q = i) (j : Nat) : (if j = q then (i : Int) else if j < q then ((P' j : Nat) : Int) else ((P j : Nat) : Int)) = if j < q + 1 then ((P' j : Nat) : Int) else ((P j : Nat) : Int) := by
  by_cases e : j = q
  · rw [if_pos e, if_pos (by omega), e, h1]
  · rw [if_neg e]
    by_cases h : j < q
    · rw [if_pos h, if_pos (by omega)]
    · rw [if_neg h, if_neg (by omega)]

set_option maxHeartbeats 8000000 in
set_option maxRecDepth 100000 in
theorem Next_any (v : Value) (K N : Nat) (P : Nat → Nat) (w : World) (hN : N ≤ 64) (hK : K ≤ N) (hv : RdI64 w v K P) (hP : RisS N K P) :
    Calls Try.prog 168 #[v, .int .i64 N] w fun e w' => Below w.heap.size w w' ∧ ((hiI N K P K = 0 ∧ e = .returned (.slice none 0 0)) ∨ (0 < hiI N K P K ∧ ∃ g cap, e = .returned (.slice (some ⟨g, 0, none⟩) K cap) ∧ NumL w' w.heap.size (.slice (some ⟨g, 0, none⟩) K cap) K (nxtS N K P))) := by
  obtain ⟨a, cap, rfl, h1, h2, h3⟩ := wd_get hv
  have hK64 : K ≤ 64 := by omega
  have H3 := Lib.hid h3
  have HR := Lib.hid hP
  clear hv h3 hP
  go_enter Try.func168, Try.ntmps168
  go_wp2_with fail
  go_loopw [6] (fun iv wr => (∃ (h : Nat) (z : Int), h ≤ K ∧ iv = .int .i64 z ∧ z = (h : Int) - 1 ∧ ∀ q, h ≤ q → q < K → P q = N - K + q) ∧ wr = w) (fun iv _ => (intOf iv + 1).toNat)
  case atStart => exact ⟨⟨K, _, Nat.le_refl _, rfl, rfl, fun q h1 h2 => absurd h2 (by omega)⟩, rfl⟩
  case round =>
    obtain ⟨⟨h, z, hh, rfl, hz, hq⟩, hw⟩ := hrel
    obtain rfl := hw.symm
    clear hw
    have HQ := Lib.hid hq
    rcases h with _ | m
    · obtain rfl : z = -1 := by omega
      have HE := Lib.hid (show hiI N K P K = 0 by rw [hiI_down N K _ K 0 (Nat.zero_le _) hq]; rfl)
      clear hq hz
      go_wp2_with fail
      go_ret
      exact ⟨Below.refl _ _, Or.inl ⟨HE.out, rfl⟩⟩
    · obtain rfl : z = (m : Int) := by omega
      have hmK : m < K := by omega
      have hm' : (m : Int) < (K : Int) := by omega
      obtain ⟨b, o, rfl, hd⟩ := H3.out m hmK
      obtain ⟨p, hp⟩ : ∃ p, p = P m := ⟨_, rfl⟩
      rw [← hp] at hd
      have HP := Lib.hid hp
      clear hq hz hp
      by_cases e : p = N - K + m
      · have ee : ((p : Int) == (N : Int) - K + m) = true := by rw [beq_iff_eq]; omega
        have HE := Lib.hid e
        clear e
        go_wp2_with fail
        go_roundw
        case rel => exact ⟨⟨m, _, by omega, by go_num, rfl, fun q h1 h2 => by
          by_cases e : q = m
          · rw [e, ← HP.out]; exact HE.out
          · exact HQ.out q (by omega) h2⟩, by first | rfl | trivial⟩
        case measure => simp [intOf] <;> omega
      · have ee : ((p : Int) == (N : Int) - K + m) = false := by
          rw [beq_eq_false_iff_ne]
          have h2 : p ≤ N - K + m := by rw [HP.out]; exact HR.out m hmK
          omega
        have hh : hiI N K P K = m + 1 := by
          rw [hiI_down N K _ K (m + 1) (by omega) HQ.out]
          show (if P m = N - K + m then hiI N K P m else m + 1) = m + 1
          rw [if_neg (by rw [← HP.out]; exact e)]
        have HE := Lib.hid hh
        have hba := bl_alloc w (.cells #[] 3)
        have ho : (w.alloc (.cells #[] 3)).ownsRow w.heap.size 3 1 (.slice (some ⟨w.heap.size, 0, none⟩) 0 0) 0 [] := own_none _ _ _ 0 (Nat.le_refl _) (heap_alloc_new w _) rfl (Nat.zero_le _)
        have HO := Lib.hid ho
        have HBA := Lib.hid hba
        obtain ⟨i0, hi, hz0, hz1, hz2⟩ := info_parts infoN
        have HI := Lib.hid (And.intro hi (And.intro hz0 (And.intro hz1 hz2)))
        have hnews : ∀ j u, ((List.range K).map fun i => Value.int .i64 (P i : Nat))[j]? = some u → (w.alloc (.cells #[] 3)).cell? (Addr.add ⟨b, o, none⟩ j) = some u := fun j u hj => by
          simp only [List.getElem?_map] at hj
          by_cases hjn : j < K
          · rw [List.getElem?_range hjn] at hj
            simp at hj
            obtain ⟨b', o', e, hc⟩ := H3.out j hjn
            simp only [Option.some.injEq, Addr.mk.injEq, and_true] at e
            obtain ⟨rfl, rfl⟩ := e
            rw [← hj]
            rw [Addr.add_lit]
            exact cell_stays HBA.out hc
          · rw [List.getElem?_eq_none (by simp; omega)] at hj
            simp at hj
        have hone : ∀ u ∈ ((List.range K).map fun i => Value.int .i64 (P i : Nat)), u.oneCell' = true := fun u hu => by
          simp at hu
          obtain ⟨i, -, rfl⟩ := hu
          rfl
        have HN := Lib.hid (And.intro hnews hone)
        have hp64 : p ≤ 64 := by have := HR.out m hmK; rw [← HP.out] at this; omega
        clear hnews hone ho hba hi hz0 hz1 hz2 hh e
        go_wp2_with (at_builtin; (refine wpList_append_own _ (by rfl) _ _ 70 (by rfl) w.heap.size 3 i0 (.int .i64 0) 1 8 Try.underlying70 HI.out.1 HI.out.2.1 HI.out.2.2.1 HI.out.2.2.2 rfl (by decide) (.slice (some ⟨w.heap.size, 0, none⟩) 0 0) 0 _ (by rfl) HO.out ⟨b, o, none⟩ K cap ((List.range K).map fun i => .int .i64 (P i : Nat)) (by rfl) (by simp) HN.out.1 HN.out.2 (by unfold maxLen; omega) (by omega) (by simp) ?_); intro v' w2 g1 g2 _; rw [Nat.zero_add, List.nil_append] at g1; obtain ⟨g, c2, rfl, hg, hc1, hc2, hr, hb⟩ := NumL.row (P := P) g1 (by omega); have HB2 := Lib.hid (HBA.out.grown g2 HBA.out.size (fun k hk => by simp [Value.ownBlock] at hk; omega)); obtain ⟨r0, r1⟩ := hr.get0 hmK rfl; rw [← HP.out] at r0; have HR2 := Lib.hid hr; have HK2 := Lib.hid hb; clear g1 g2 hr hb)
        have hn0 : nxtS N K P m = p + 1 := by rw [nxtS_at HE.out, HP.out]
        have HR3 := Lib.hid ((HR2.out.set0 hmK ((p : Int) + 1)).congr (g := fun j => if j < m + 1 then ((nxtS N K P j : Nat) : Int) else ((P j : Nat) : Int)) (fun j _ => row_put (i := p + 1) hn0 (fun j hj => nxtS_front HE.out hj) j))
        have HK3 := Lib.hid (HK2.out.set m (.int .i64 ((p : Int) + 1)))
        have HB3 := Lib.hid (HB2.out.grown (gb_set w2 ⟨g, m, none⟩ (.int .i64 ((p : Int) + 1))) HB2.out.size (fun k hk => by cases hk; exact hg))
        generalize w2.setCell ⟨g, m, none⟩ (.int .i64 ((p : Int) + 1)) = w3 at *
        clear hn0 HR2 HK2 HB2 r0 r1 HN HI HO HBA ee
        go_loopw [8] (fun jv wr => ∃ q : Nat, m + 1 ≤ q ∧ q ≤ K ∧ jv = .int .i64 q ∧ RowAt .i64 wr g 0 K (fun j => if j < q then ((nxtS N K P j : Nat) : Int) else ((P j : Nat) : Int)) ∧ Blk wr g c2 3 ∧ Below w.heap.size w wr) (fun jv _ => K - (intOf jv).toNat)
        case atStart => exact ⟨m + 1, Nat.le_refl _, by omega, by go_num, HR3.out, HK3.out, HB3.out⟩
        case round =>
          clear HR3 HK3 HB3
          obtain ⟨q, hq1, hq2, rfl, hr, hb, hbl⟩ := hrel
          by_cases hqK : q < K
          · have hq' : (q : Int) < K := by omega
            obtain ⟨s, rfl⟩ : ∃ s, q = s + 1 := ⟨q - 1, by omega⟩
            obtain ⟨r0, r1⟩ := hr.get0 (show s < K by omega) (if_pos (show s < s + 1 by omega))
            obtain ⟨r2, r3⟩ := hr.get0 hqK rfl
            obtain ⟨y, hy⟩ : ∃ y, y = nxtS N K P s := ⟨_, rfl⟩
            have hris : RisS N K (nxtS N K P) := HR.out.nxt (by rw [HE.out]; omega)
            have hy64 : y ≤ 64 := by have := hris s (by omega); omega
            have hn1 : nxtS N K P (s + 1) = y + 1 := by rw [hy]; exact nxtS_succ HE.out (by omega)
            rw [← hy] at r0
            have HR7 := Lib.hid ((hr.set0 hqK ((y : Int) + 1)).congr (g := fun j => if j < s + 1 + 1 then ((nxtS N K P j : Nat) : Int) else ((P j : Nat) : Int)) (fun j _ => row_next (i := y + 1) hn1 j))
            have HK7 := Lib.hid (hb.set (s + 1) (.int .i64 ((y : Int) + 1)))
            have HB7 := Lib.hid (hbl.grown (gb_set wr ⟨g, s + 1, none⟩ (.int .i64 ((y : Int) + 1))) hbl.size (fun k hk => by cases hk; exact hg))
            clear hr hb hbl hy hn1 hris
            go_wp2_with fail
            go_roundw
            case rel => exact ⟨s + 1 + 1, by omega, by omega, by go_num, HR7.out, HK7.out, HB7.out⟩
            case measure => simp [intOf] <;> omega
          · obtain rfl : q = K := by omega
            have hq' : ¬ (q : Int) < q := by omega
            have HF := Lib.hid (numL_row (base := w.heap.size) (P := nxtS N q P) (hr.congr (g := fun j => ((nxtS N q P j : Nat) : Int)) (fun j hj => by rw [if_pos hj])) hb hg hc1 hc2)
            have HB7 := Lib.hid hbl
            clear hr hb hbl
            go_wp2_with fail
            go_ret
            exact ⟨HB7.out, Or.inr ⟨by rw [HE.out]; omega, _, _, rfl, HF.out⟩⟩
end Go.Proofs.Ytejliecmdkmgiaa

namespace Go.Proofs.Ytejliecmdkmgiaa
open Go.RowKit

theorem infoNs : (Try.prog.info? 70).map (fun i => (i.zero, i.size, i.bytes)) = some (some (.slice none 0 0), 1, 24) := by kernel_rfl
theorem mk_nums' (n : Nat) (hn : n ≤ 17592186044416) (u : World) : (Instr.makeSlice 70 (.int .i64 n) (.int .i64 n)).run Try.prog u =
    .ok (.slice (some ⟨u.heap.size, 0, none⟩) n n) (u.alloc (.cells (madeCells #[.int .i64 0] n) 3)) := mk_nums n n (Nat.le_refl _) hn u
theorem news_one (w : World) (v : Value) (t : TypeId) : ∀ j u, [v][j]? = some u → (w.alloc (.cells #[v] t)).cell? (Addr.add ⟨w.heap.size, 0, none⟩ j) = some u := by
  intro j y hj
  match j, hj with
  | 0, hj => simp at hj; subst hj; simp [Addr.add]
theorem one_one {v : Value} (h : v.oneCell' = true) : ∀ u ∈ [v], u.oneCell' = true := by
  intro y hy; simp at hy; subst hy; exact h
theorem row_fill (i j : Nat) : (if j = i then (i : Int) else if j < i then (j : Int) else 0) = if j < i + 1 then (j : Int) else 0 := by
  by_cases e : j = i
  · subst e; rw [if_pos rfl, if_pos (by omega)]
  · rw [if_neg e]
    by_cases h : j < i
    · rw [if_pos h, if_pos (by omega)]
    · rw [if_neg h, if_neg (by omega)]

end Go.Proofs.Ytejliecmdkmgiaa

namespace Go.Proofs.Ytejliecmdkmgiaa

def bn : Nat → Nat → Nat
  | _, 0 => 1
  | 0, _ + 1 => 0
  | n + 1, k + 1 => bn n k + bn n (k + 1)
theorem bn_zero (n : Nat) : bn n 0 = 1 := by cases n <;> rfl
theorem bn_succ (n k : Nat) : bn (n + 1) (k + 1) = bn n k + bn n (k + 1) := rfl
theorem bn_high : ∀ {n k : Nat}, n < k → bn n k = 0
  | 0, 0, h => absurd h (by omega)
  | 0, _ + 1, _ => rfl
  | _ + 1, 0, h => absurd h (by omega)
  | n + 1, k + 1, h => by rw [bn_succ, bn_high (n := n) (k := k) (by omega), bn_high (n := n) (k := k + 1) (by omega)]
theorem bn_self : ∀ n : Nat, bn n n = 1
  | 0 => rfl
  | n + 1 => by rw [bn_succ, bn_self n, bn_high (by omega)]
theorem bn_one : ∀ n : Nat, bn n 1 = n
  | 0 => rfl
  | n + 1 => by rw [bn_succ, bn_zero, bn_one n, Nat.add_comm]
theorem bn_pos : ∀ {n k : Nat}, k ≤ n → 0 < bn n k
  | n, 0, _ => by rw [bn_zero]; omega
  | 0, _ + 1, h => absurd h (by omega)
  | n + 1, k + 1, h => by rw [bn_succ]; have := bn_pos (n := n) (k := k) (by omega); omega
theorem bn_lt : ∀ (n k : Nat), bn (n + 3) k < 2 ^ (n + 2)
  | 0, k => by
    match k with
    | 0 => decide
    | 1 => decide
    | 2 => decide
    | 3 => decide
    | k + 4 => rw [bn_high (by omega)]; decide
  | n + 1, 0 => by rw [bn_zero]; exact Nat.one_lt_two_pow (by omega)
  | n + 1, k + 1 => by
    have h0 : bn (n + 1 + 3) (k + 1) = bn (n + 3) k + bn (n + 3) (k + 1) := rfl
    have h1 := bn_lt n k
    have h2 := bn_lt n (k + 1)
    have h3 : 2 ^ (n + 1 + 2) = 2 ^ (n + 2) * 2 := Nat.pow_succ ..
    omega
theorem bn_mono (n k : Nat) : bn n k ≤ bn (n + 1) k := by
  cases k with
  | zero => rw [bn_zero, bn_zero]; exact Nat.le_refl _
  | succ k => rw [bn_succ]; omega
theorem bn_mono' {m : Nat} (k : Nat) : ∀ {n}, m ≤ n → bn m k ≤ bn n k
  | 0, h => by obtain rfl : m = 0 := by omega
               exact Nat.le_refl _
  | n + 1, h => by
    by_cases e : m = n + 1
    · rw [e]; exact Nat.le_refl _
    · exact Nat.le_trans (bn_mono' k (n := n) (by omega)) (bn_mono n k)
theorem bn_64 {n : Nat} (k : Nat) (hn : n ≤ 64) : bn n k < 9223372036854775808 :=
  Nat.lt_of_le_of_lt (bn_mono' k hn) (bn_lt 61 k)

/-- how many choices stand behind P, by its last k places -/
def rmS (N K : Nat) (P : Nat → Nat) : Nat → Nat
  | 0 => 0
  | k + 1 => bn (N - 1 - P (K - (k + 1))) (k + 1) + rmS N K P k
theorem rmS_run (N K : Nat) (P : Nat → Nat) : ∀ (k b : Nat), k ≤ K → b + k ≤ N → (∀ d, d < k → P (K - k + d) = b + d) → rmS N K P k + 1 = bn (N - b) k
  | 0, b, _, _, _ => by rw [bn_zero]; rfl
  | k + 1, b, hk, hb, hP => by
    have h0 : P (K - (k + 1)) = b := hP 0 (by omega)
    have ih := rmS_run N K P k (b + 1) (by omega) (by omega) (fun d hd => by
      have := hP (d + 1) (by omega)
      rw [show K - k + d = K - (k + 1) + (d + 1) by omega, this]; omega)
    unfold rmS
    rw [h0, Nat.add_assoc, ih, show N - b = (N - 1 - b) + 1 by omega, bn_succ, show N - (b + 1) = N - 1 - b by omega, Nat.add_comm]
theorem rmS_nxt {N K : Nat} {P : Nat → Nat} (hK : K ≤ N) (hr : RisS N K P) (h0 : 0 < hiI N K P K) : rmS N K (nxtS N K P) K + 1 = rmS N K P K := by
  have hk := hiI_le N K P K
  have hne := hiI_ne N K P K h0
  obtain ⟨h, hh⟩ : ∃ h, h = hiI N K P K := ⟨_, rfl⟩
  have hhi := hiI_high N K P K
  rw [← hh] at h0 hk hne hhi
  have hp := hr (h - 1) (by omega)
  have key : ∀ j, K - (h - 1) + j ≤ K → rmS N K (nxtS N K P) (K - (h - 1) + j) + 1 = rmS N K P (K - (h - 1) + j) := by
    intro j
    induction j with
    | zero =>
      intro _
      have h1 := rmS_run N K (nxtS N K P) (K - (h - 1)) (P (h - 1) + 1) (by omega) (by omega) (fun d hd => by
        unfold nxtS
        rw [← hh, if_neg (by omega)]
        omega)
      have h2 := rmS_run N K P (K - h) (N - K + h) (by omega) (by omega) (fun d hd => by rw [hhi _ (by omega) (by omega)]; omega)
      rw [show N - (N - K + h) = K - h by omega, bn_self] at h2
      show rmS N K (nxtS N K P) (K - (h - 1)) + 1 = rmS N K P (K - (h - 1))
      rw [h1]
      obtain ⟨k, hk2⟩ : ∃ k, K - h = k := ⟨_, rfl⟩
      rw [show K - (h - 1) = k + 1 by omega] at *
      rw [hk2] at h2
      show _ = bn (N - 1 - P (K - (k + 1))) (k + 1) + rmS N K P k
      rw [show K - (k + 1) = h - 1 by omega, show rmS N K P k = 0 by omega, show N - (P (h - 1) + 1) = N - 1 - P (h - 1) by omega]
      rfl
    | succ j ih =>
      intro hj
      have ih := ih (by omega)
      show bn (N - 1 - nxtS N K P (K - (K - (h - 1) + j + 1))) (K - (h - 1) + j + 1) + rmS N K (nxtS N K P) (K - (h - 1) + j) + 1 = bn (N - 1 - P (K - (K - (h - 1) + j + 1))) (K - (h - 1) + j + 1) + rmS N K P (K - (h - 1) + j)
      rw [show nxtS N K P (K - (K - (h - 1) + j + 1)) = P (K - (K - (h - 1) + j + 1)) by unfold nxtS; rw [← hh, if_pos (by omega)]]
      omega
  have := key (h - 1) (by omega)
  rwa [show K - (h - 1) + (h - 1) = K by omega] at this
theorem rmS_set {N K : Nat} (hK : K ≤ N) : ∀ t, (∀ s, s < t → ¬ LastS N K s) → rmS N K (setS N K t) K + t + 1 = bn N K
  | 0, _ => by
    have := rmS_run N K (setS N K 0) K 0 (Nat.le_refl _) (by omega) (fun d _ => by show K - K + d = _; omega)
    rw [Nat.sub_zero] at this
    exact this
  | t + 1, h => by
    have ih := rmS_set hK t (fun s hs => h s (by omega))
    have := rmS_nxt hK (setS_ris hK t (fun s hs => h s (by omega))) (Nat.pos_of_ne_zero (h t (by omega)))
    show rmS N K (nxtS N K (setS N K t)) K + (t + 1) + 1 = _
    omega
theorem last_bn {N K t : Nat} (hK : K ≤ N) (h : ∀ s, s < t → ¬ LastS N K s) (hl : LastS N K t) : t + 1 = bn N K := by
  have h1 := rmS_set hK t h
  have h2 := rmS_run N K (setS N K t) K (N - K) (Nat.le_refl _) (by omega) (fun d hd => by
    rw [show K - K + d = d by omega]
    exact hiI_high N K _ K d (by unfold LastS at hl; omega) hd)
  rw [show N - (N - K) = K by omega, bn_self] at h2
  omega
theorem not_last {N K t : Nat} (hK : K ≤ N) (h : ∀ s, s < t → ¬ LastS N K s) (ht : t + 1 < bn N K) : ¬ LastS N K t := fun e => by
  have := last_bn hK h e; omega
theorem no_last {N K : Nat} (hK : K ≤ N) : ∀ {t}, t < bn N K → ∀ s, s < t → ¬ LastS N K s
  | 0, _, s, hs => absurd hs (by omega)
  | t + 1, ht, s, hs => by
    have ih := no_last hK (t := t) (by omega)
    by_cases e : s = t
    · rw [e]; exact not_last hK ih (by omega)
    · exact ih s (by omega)
theorem is_last {N K t : Nat} (hK : K ≤ N) (ht : t + 1 = bn N K) : LastS N K t := by
  have h1 := rmS_set hK t (no_last hK (by omega))
  unfold LastS
  by_cases e : hiI N K (setS N K t) K = 0
  · exact e
  · have := rmS_nxt hK (setS_ris hK t (no_last hK (by omega))) (Nat.pos_of_ne_zero e)
    omega
end Go.Proofs.Ytejliecmdkmgiaa

namespace Go.Proofs.Ytejliecmdkmgiaa
open Go.RowKit Go.Shelf

/-- a list of the first t choices -/
def WLn (w : World) (base : Nat) (v : Value) (t K N : Nat) : Prop := ∃ F : Nat → Value, OwnL w base 70 v t F ∧ ∀ i, i < t → NumL w base (F i) K (setS N K i)
section
variable {w w' : World} {base t K N : Nat} {v : Value}
theorem WLn.below (h : WLn w base v t K N) (hb : Below w.heap.size w w') : WLn w' base v t K N := by
  obtain ⟨F, h1, h2⟩ := h
  exact ⟨F, own_below h1 hb, fun i hi => (h2 i hi).below hb⟩
theorem OwnL.mono' {e : TypeId} {n base' : Nat} {F : Nat → Value} (h : OwnL w base' e v n F) (hb : base ≤ base') : OwnL w base e v n F := by
  obtain ⟨h0, h⟩ := h
  rcases h with h | ⟨g, cap, cur, h1, h2, h3⟩
  · exact ⟨h0, Or.inl h⟩
  · exact ⟨h0, Or.inr ⟨g, cap, cur, h1, Nat.le_trans hb h2, h3⟩⟩
theorem tagNS : 3 ≠ 70 := by decide
theorem NumL.lists {u : Value} {P : Nat → Nat} {B n : Nat} {xs : List Value} (h : NumL w base u K P) (hown : w.ownsRow B 70 1 v n xs) (hg : w.grownBy w' v.ownBlock) : NumL w' base u K P := by
  refine OwnL.grow h hg fun b hb e => ?_
  rcases own_sep hown h tagNS with h1 | h1
  · rw [h1] at hb; injection hb
  · exact h1 (by rw [hb, e])
theorem WLn.push {w1 : World} {u v' : Value} {F : Nat → Value} (h1 : OwnL w1 base 70 v t F) (h2 : ∀ i, i < t → NumL w1 base (F i) K (setS N K i)) (hu : NumL w1 base u K (setS N K t))
    (g1 : w'.ownsRow base 70 1 v' (t + 1) ((List.range t).map F ++ [u])) (g2 : w1.grownBy w' v.ownBlock) : WLn w' base v' (t + 1) K N ∧ NumL w' base u K (setS N K t) := by
  have hu' := hu.lists h1 g2
  refine ⟨⟨fun i => if i = t then u else F i, ?_, fun i hi => ?_⟩, hu'⟩
  · unfold OwnL
    rw [List.range_succ, List.map_append]
    have e : (List.range t).map (fun i => if i = t then u else F i) = (List.range t).map F := List.map_congr_left fun i hi => if_neg (by have := List.mem_range.1 hi; omega)
    rw [e]
    simpa using g1
  · by_cases e : i = t
    · subst e
      show NumL w' base (if i = i then u else F i) K (setS N K i)
      rw [if_pos rfl]
      exact hu'
    · show NumL w' base (if i = t then u else F i) K (setS N K i)
      rw [if_neg e]
      exact (h2 i (by omega)).lists h1 g2
theorem WLn.start (w : World) (base K N : Nat) : WLn w base (.slice none 0 0) 0 K N := ⟨fun _ => .slice none 0 0, ⟨rfl, Or.inl ⟨rfl, rfl⟩⟩, fun i hi => absurd hi (by omega)⟩
end

set_option maxHeartbeats 8000000 in
set_option maxRecDepth 100000 in
theorem Some_all (K N : Nat) (w : World) (hN : N ≤ 64) (hK : K ≤ N) (hbn : bn N K ≤ 1000000) :
    Calls Try.prog 122 #[.int .i64 N, .int .i64 K, .int .i64 1000000] w fun e w' => Below w.heap.size w w' ∧ ∃ v, e = .returned v ∧ WLn w' w.heap.size v (bn N K) K N := by
  have hK64 : K ≤ 64 := by omega
  have a1 : ¬ (N : Int) < 0 := by omega
  have a2 : ¬ (64 : Int) < (N : Int) := by omega
  have a3 : ¬ (K : Int) < 0 := by omega
  have a4 : ¬ (N : Int) < (K : Int) := by omega
  have mk := fun u => mk_nums' K (by omega) u
  have hb1 := bl_alloc w (.cells (madeCells #[.int .i64 0] K) 3)
  have HB1 := Lib.hid hb1
  have HK1 := Lib.hid (Blk.made w (.int .i64 0) K 3)
  have hR1 : RowAt .i64 (w.alloc (.cells (madeCells #[.int .i64 0] K) 3)) w.heap.size 0 K (fun j => if j < 0 then (j : Int) else 0) := (CellsAt.made w (.int .i64 0) K 3).congr (fun i _ => by simp)
  have HR1 := Lib.hid hR1
  have HBN := Lib.hid hbn
  have HPOS := Lib.hid (bn_pos hK)
  have HKN := Lib.hid hK
  clear hb1 hR1 hbn
  go_enter Try.func122, Try.ntmps122
  go_wp2_with fail
  generalize hX : w.heap.size = X at *
  generalize w.alloc (.cells (madeCells #[.int .i64 0] K) 3) = W1 at *
  have HX := Lib.hid hX
  clear a1 a2 a3 a4 mk hX
  go_loopw [9] (fun iv wr => ∃ i : Nat, i ≤ K ∧ iv = .int .i64 i ∧ RowAt .i64 wr X 0 K (fun j => if j < i then (j : Int) else 0) ∧ Blk wr X K 3 ∧ Below X w wr) (fun iv _ => K - (intOf iv).toNat)
  case atStart => exact ⟨0, Nat.zero_le _, rfl, HR1.out, HK1.out, HB1.out⟩
  case round =>
    clear HR1 HK1 HB1
    obtain ⟨i, hi, rfl, hr, hb, hbl⟩ := hrel
    by_cases hc : i < K
    · have hc' : (i : Int) < K := by omega
      obtain ⟨r0, r1⟩ := hr.get0 hc rfl
      have HR2 := Lib.hid ((hr.set0 hc i).congr (g := fun j => if j < i + 1 then (j : Int) else 0) (fun j _ => row_fill i j))
      have HK2 := Lib.hid (hb.set i (.int .i64 i))
      have HB2 := Lib.hid (hbl.grown (gb_set wr ⟨X, i, none⟩ (.int .i64 i)) (by have := hbl.size; have := HX.out; omega) (fun k hk => by cases hk; exact Nat.le_refl _))
      clear hr hb hbl
      go_wp2_with fail
      go_roundw
      case rel => exact ⟨i + 1, by omega, by go_num, HR2.out, HK2.out, HB2.out⟩
      case measure => simp [intOf]; omega
    · obtain rfl : i = K := by omega
      have hc' : ¬ (i : Int) < i := by omega
      have HF := Lib.hid (numL_row (base := X) (P := setS N i 0) (hr.congr (g := fun j => ((setS N i 0 j : Nat) : Int)) (fun j hj => by rw [if_pos hj]; rfl)) hb (Nat.le_refl _) (Nat.le_refl _) (by unfold maxLen; omega))
      have HB2 := Lib.hid hbl
      clear hr hb hbl
      go_wp2_with fail
      obtain ⟨wa, hwa⟩ : ∃ x, x = wr := ⟨_, rfl⟩
      subst hwa
      obtain ⟨K, hKK⟩ : ∃ x, x = i := ⟨_, rfl⟩
      subst hKK
      go_loopw [7, 8] (fun lv sv wr => ∃ t a c s b d, t < bn N K ∧ lv = .slice a t c ∧ sv = .slice s b d ∧ Below X w wr ∧ WLn wr X (.slice a t c) t K N ∧ NumL wr X (.slice s b d) K (setS N K t)) (fun lv _ _ => match lv with | .slice _ n _ => bn N K - n | _ => 0)
      case atStart => exact ⟨0, none, 0, _, _, _, HPOS.out, rfl, rfl, HB2.out, WLn.start _ _ _ _, HF.out⟩
      case round =>
        clear HB2 HF
        obtain ⟨t, la, lc, sa, sb, sd, ht, rfl, rfl, hbl, hw, hs⟩ := hrel
        obtain ⟨F, hw1, hw2⟩ := hw
        obtain ⟨i0, hi, hz0, hz1, hz2⟩ := info_parts infoNs
        have HI := Lib.hid (And.intro hi (And.intro hz0 (And.intro hz1 hz2)))
        have htm : (t : Int) < 1000000 := by have := HBN.out; omega
        have hsz := hbl.size
        rw [HX.out] at hsz
        have hba := bl_alloc wr (.cells #[.slice sa sb sd] 70)
        have hO1 := own_below hw1 hba
        have HO1 := Lib.hid hO1
        have hstep : ∀ w2 a2 c2, w2.ownsRow X 70 1 (.slice a2 (t + 1) c2) (t + 1) ((List.range t).map F ++ [.slice sa sb sd]) → (wr.alloc (.cells #[.slice sa sb sd] 70)).grownBy w2 (Value.slice la t lc).ownBlock → Below X w w2 ∧ WLn w2 X (.slice a2 (t + 1) c2) (t + 1) K N ∧ NumL w2 X (.slice sa sb sd) K (setS N K t) := fun w2 a2 c2 g1 g2 => by
          obtain ⟨p1, p2⟩ := WLn.push hO1 (fun i hi => (hw2 i hi).below hba) (hs.below hba) g1 g2
          refine ⟨?_, p1, p2⟩
          refine (hbl.trans (hba.mono hsz)).grown g2 (Nat.le_trans hsz hba.size) (fun k hk => ?_)
          rcases hw1.2 with ⟨e, -⟩ | ⟨g, cap, cur, e, hbg, -⟩
          · rw [e] at hk; cases hk
          · rw [e] at hk; cases hk; exact hbg
        have HST := Lib.hid hstep
        have HTT := Lib.hid ht
        have hsz2 := Nat.le_trans hsz hba.size
        clear hi hz0 hz1 hz2 hbl hs hstep hw1 hw2 hba hO1 hsz ht
        by_cases hk0 : K = 0
        · have hk : ((K : Int) == 0) = true := by rw [beq_iff_eq]; omega
          have HKZ := Lib.hid hk0
          clear hk0
          go_wp2_with (at_builtin; (refine wpList_append_own _ (by rfl) _ _ 68 (by rfl) X 70 i0 (.slice none 0 0) 1 24 Try.underlying68 HI.out.1 HI.out.2.1 HI.out.2.2.1 HI.out.2.2.2 rfl (by decide) (.slice la t lc) t ((List.range t).map F) (by rfl) HO1.out ⟨wr.heap.size, 0, none⟩ 1 1 [.slice sa sb sd] (by rfl) (by simp) (news_one _ _ _) (one_one rfl) (by unfold maxLen; omega) (by omega) hsz2 ?_); intro v' w2 g1 g2 _; obtain ⟨a2, c2, rfl⟩ := own_slice g1; have HG1 := Lib.hid g1; have HG2 := Lib.hid g2; clear g1 g2)
          obtain ⟨h1, h2, h3⟩ := HST.out _ _ _ HG1.out HG2.out
          have H1 := Lib.hid h1
          have H2 := Lib.hid h2
          clear h1 h2 h3 HG1 HG2 HST HO1
          go_ret
          rw [← HX.out] at *
          have e : t + 1 = bn N K := by
            have h1 := HTT.out
            rw [HKZ.out, bn_zero] at h1 ⊢
            omega
          exact ⟨H1.out, _, rfl, e ▸ H2.out⟩
        · have hk : ((K : Int) == 0) = false := by rw [beq_eq_false_iff_ne]; omega
          clear hk0
          go_wp2_with (at_builtin; (refine wpList_append_own _ (by rfl) _ _ 68 (by rfl) X 70 i0 (.slice none 0 0) 1 24 Try.underlying68 HI.out.1 HI.out.2.1 HI.out.2.2.1 HI.out.2.2.2 rfl (by decide) (.slice la t lc) t ((List.range t).map F) (by rfl) HO1.out ⟨wr.heap.size, 0, none⟩ 1 1 [.slice sa sb sd] (by rfl) (by simp) (news_one _ _ _) (one_one rfl) (by unfold maxLen; omega) (by omega) hsz2 ?_); intro v' w2 g1 g2 _; obtain ⟨a2, c2, rfl⟩ := own_slice g1; have HG1 := Lib.hid g1; have HG2 := Lib.hid g2; clear g1 g2)
          obtain ⟨h1, h2, h3⟩ := HST.out _ _ _ HG1.out HG2.out
          have H1 := Lib.hid h1
          have H2 := Lib.hid h2
          have HNX := Lib.hid (Next_any _ K N (setS N K t) w2 hN (by omega) (h3.read hK64) (setS_ris HKN.out t (no_last HKN.out HTT.out)))
          have hX2 : X ≤ w2.heap.size := by have := h1.size; have := HX.out; omega
          clear h1 h2 h3 HG1 HG2 HST HO1
          have he0 : ∀ w : World, (binOp .eql 70 (.slice none 0 0) (.slice none 0 0)).run Try.prog w = .ok (.bool true) w := fun _ => rfl
          have he1 : ∀ (g n c : Nat) (w : World), (binOp .eql 70 (.slice (some ⟨g, 0, none⟩) n c) (.slice none 0 0)).run Try.prog w = .ok (.bool false) w := fun _ _ _ _ => rfl
          refine HNX.out.mono ?_
          rintro e w4 ⟨hb4, (⟨hl, rfl⟩ | ⟨hl, g4, c4, rfl, hn4⟩)⟩
          · have H4 := Lib.hid (H1.out.trans (hb4.mono hX2))
            have H5 := Lib.hid (H2.out.below hb4)
            have HLL := Lib.hid (last_bn (t := t) HKN.out (no_last HKN.out HTT.out) hl)
            clear hb4 H1 H2 HNX hl
            go_wp2_with fail
            go_ret
            rw [← HX.out] at *
            exact ⟨H4.out, _, rfl, HLL.out ▸ H5.out⟩
          · have H4 := Lib.hid (H1.out.trans (hb4.mono hX2))
            have H5 := Lib.hid (H2.out.below hb4)
            have HN4 := Lib.hid (OwnL.mono' hn4 hX2)
            have hlt : t + 1 < bn N K := by
              have h1 := HTT.out
              by_cases e : t + 1 = bn N K
              · have := is_last HKN.out e
                unfold LastS at this
                omega
              · omega
            have HLT := Lib.hid hlt
            clear hb4 H1 H2 HNX hl hn4 hlt
            go_wp2_with fail
            go_roundw
            case rel => exact ⟨t + 1, _, _, _, _, _, HLT.out, rfl, rfl, H4.out, H5.out, HN4.out⟩
            case measure => have := HTT.out; simp; omega
end Go.Proofs.Ytejliecmdkmgiaa
