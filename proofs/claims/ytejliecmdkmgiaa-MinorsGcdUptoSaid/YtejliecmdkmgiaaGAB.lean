import Derived.Test.YtejliecmdkmgiaaGAA
import Derived.Test.YtejliecmdkmgiaaGE
import Derived.Sort.QuietIn
import Derived.RangeFuncNested
set_option linter.unusedVariables false
set_option linter.unusedSimpArgs false
set_option maxHeartbeats 8000000
set_option maxRecDepth 100000
namespace Go.Proofs.Ytejliecmdkmgiaa
open Go.RowKit Go.Shelf
attribute [local go_sem] Oper.semAt_some
theorem mk_nums0' (n : Nat) (hn : n ≤ 17592186044416) (u : World) : (Instr.makeSlice 70 (.int .i64 0) (.int .i64 n)).run Try.prog u =
    .ok (.slice (some ⟨u.heap.size, 0, none⟩) 0 n) (u.alloc (.cells (madeCells #[.int .i64 0] n) 3)) := mk_nums 0 n (Nat.zero_le _) hn u
def cellN (w : World) (b i : Nat) : Nat := match w.cell? ⟨b, i, none⟩ with
  | some (.int _ z) => z.toNat
  | _ => 0
theorem cellN_row {w : World} {b K : Nat} {f : Nat → Nat} (h : RowAt .i64 w b 0 K (fun i => (f i : Int))) {i : Nat} (hi : i < K) : cellN w b i = f i := by
  unfold cellN
  rw [(h.get0 hi rfl).1]
  simp
theorem own_madeN (w : World) (n : Nat) (hn : n ≤ maxLen) : (w.alloc (.cells (madeCells #[.int .i64 0] n) 3)).ownsRow w.heap.size 3 1 (.slice (some ⟨w.heap.size, 0, none⟩) 0 n) 0 [] :=
  ⟨by simp, Or.inr ⟨w.heap.size, n, madeCells #[.int .i64 0] n, rfl, Nat.le_refl _, heap_alloc_new w _, Nat.zero_le _, hn, by simp [madeCells], by simp⟩⟩
theorem sets1_in (n : Nat) (hn : 1 ≤ n) (nb kb N K X : Nat) (hN : N ≤ 64) (hK : K ≤ N) (l : Nat) (J : Nat → World → Prop) (Jx : World → Prop) (W : World) (hX : X = W.heap.size)
    (hJ : ∀ t W W' r, J t W → W.grownBy W' r → (∀ k, r = some k → k = X) → J t W')
    (hJm : ∀ t W, J t W → W.cell? ⟨nb, 0, none⟩ = some (.int .i64 N) ∧ W.cell? ⟨kb, 0, none⟩ = some (.int .i64 K))
    (hY : ∀ t W0 W, (∀ s, s < t → ¬ LastS N K s) → J t W0 → J t W → X < W0.heap.size → Below W0.heap.size W0 W → W0.heap.size < W.heap.size → OwnL W W0.heap.size 3 (.slice (some ⟨W0.heap.size, 0, none⟩) K K) K (fun i => .int .i64 (setS N K t i : Nat)) →
      YieldAt Fence.wide (n - 1) Try.prog l #[.slice (some ⟨W0.heap.size, 0, none⟩) K K] W fun e W' => (e = .returned (.bool true) ∧ J (t + 1) W' ∧ W'.heap[X]? = W.heap[X]?) ∨ (e = .returned (.bool false) ∧ Jx W'))
    (h0 : J 0 W) :
    CallsIn Fence.wide n Try.prog 167 #[.func (.yield l) #[] #[], .pointer (some ⟨nb, 0, none⟩), .pointer (some ⟨kb, 0, none⟩)] W fun e W' => (∃ v, e = .returned v) ∧
      ((∃ t, (∀ s, s < t → ¬ LastS N K s) ∧ LastS N K t ∧ J (t + 1) W') ∨ Jx W') := by
  refine callsIn_of_wp Try.func167 rfl trivial ?_ rfl
  simp only [Try.ntmps167, List.size_toArray, List.length_cons, List.length_nil, Nat.reduceAdd, Nat.reduceSub, Array.replicate_succ, Array.replicate_zero, List.push_toArray, List.append_toArray, List.nil_append, List.cons_append]
  obtain ⟨c0, c1⟩ := hJm 0 W h0
  have mk := fun u => mk_nums K K (Nat.le_refl K) (by omega) u
  have mk0 := fun u => mk_nums0' K (by omega) u
  have a1 : ¬ (N : Int) < 0 := by omega
  have a2 : ¬ (64 : Int) < (N : Int) := by omega
  have a3 : ¬ (K : Int) < 0 := by omega
  have a4 : ¬ (N : Int) < (K : Int) := by omega
  have hK64 : K ≤ 64 := by omega
  have hb1 := bl_alloc W (.cells (madeCells #[.int .i64 0] K) 3)
  have hJ1 := hJ 0 _ _ none h0 (gb_below hb1 none) (fun _ e => by cases e)
  have hB1 := Blk.made W (.int .i64 0) K 3
  have hR1 : RowAt .i64 (W.alloc (.cells (madeCells #[.int .i64 0] K) 3)) W.heap.size 0 K (fun j => if j < 0 then (j : Int) else 0) := (CellsAt.made W (.int .i64 0) K 3).congr (fun i _ => by simp)
  have HJ := Lib.hid hJ
  have HJM := Lib.hid hJm
  have HY := Lib.hid hY
  have HJ1 := Lib.hid hJ1
  have HB1 := Lib.hid hB1
  have HR1 := Lib.hid hR1
  clear hJ hJm hY hJ1 hB1 hR1 hb1 h0
  gi_wp2
  generalize W.alloc (.cells (madeCells #[.int .i64 0] K) 3) = W1 at *
  rw [← hX] at *
  gi_loopw [27, 5] (fun iv _ wr => ∃ i : Nat, i ≤ K ∧ iv = .int .i64 i ∧ J 0 wr ∧ RowAt .i64 wr X 0 K (fun j => if j < i then (j : Int) else 0) ∧ Blk wr X K 3) (fun iv _ _ => K - (intOf iv).toNat)
  case atStart => exact ⟨0, Nat.zero_le _, rfl, HJ1.out, HR1.out, HB1.out⟩
  case round =>
    clear HJ1 HR1 HB1
    obtain ⟨i, hi, rfl, hj, hr, hb⟩ := hrel
    obtain ⟨c0, c1⟩ := HJM.out 0 wr hj
    by_cases hc : i < K
    · have hc' : (i : Int) < K := by omega
      obtain ⟨r0, r1⟩ := hr.get0 hc rfl
      have hJ2 := HJ.out 0 _ _ (some X) hj (gb_set wr ⟨X, i, none⟩ (.int .i64 i)) (fun _ e => by cases e; rfl)
      have hr2 := (hr.set0 hc i).congr (g := fun j => if j < i + 1 then (j : Int) else 0) (fun j hj => by
        by_cases e : j = i
        · subst e; rw [if_pos rfl, if_pos (by omega)]
        · rw [if_neg e]
          by_cases h : j < i
          · rw [if_pos h, if_pos (by omega)]
          · rw [if_neg h, if_neg (by omega)])
      have HJ2 := Lib.hid hJ2
      have HR2 := Lib.hid hr2
      have HB2 := Lib.hid (hb.set i (.int .i64 i))
      clear hj hr hb hJ2 hr2
      gi_wp2
      go_roundw
      case rel => exact ⟨i + 1, by omega, by go_num, HJ2.out, HR2.out, HB2.out⟩
      case measure => simp [intOf]; omega
    · obtain rfl : i = K := by omega
      have HJ2 := Lib.hid hj
      have HR2 := Lib.hid (hr.congr (g := fun j => ((setS N i 0 j : Nat) : Int)) (fun j hj => by rw [if_pos hj]; rfl))
      have HB2 := Lib.hid hb
      have hc' : ¬ (i : Int) < i := by omega
      clear hj hr hb
      gi_wp2
      obtain ⟨wa, hwa⟩ : ∃ x, x = wr := ⟨_, rfl⟩
      subst hwa
      obtain ⟨K, hKK⟩ : ∃ x, x = i := ⟨_, rfl⟩
      subst hKK
      gi_loopw [6, 7] (fun _ _ wr => ∃ t, (∀ s, s < t → ¬ LastS N K s) ∧ J t wr ∧ RowAt .i64 wr X 0 K (fun j => ((setS N K t j : Nat) : Int)) ∧ Blk wr X K 3) (fun _ _ wr => (N + 1) ^ K - vS (N + 1) (fun i => cellN wr X i) K)
      case atStart => exact ⟨0, fun s hs => absurd hs (by omega), HJ2.out, HR2.out, HB2.out⟩
      case round =>
        clear HJ2 HR2 HB2 c0 c1
        obtain ⟨t, hl, hj, hr, hb⟩ := hrel
        obtain ⟨c0, c1⟩ := HJM.out t wr hj
        have hmeas : vS (N + 1) (fun i => cellN wr X i) K = vS (N + 1) (setS N K t) K := vS_congr fun i hi => cellN_row hr hi
        have HME := Lib.hid hmeas
        have hXW := hb.lt
        have hba := bl_alloc wr (.cells (madeCells #[.int .i64 0] K) 3)
        have ho := own_madeN wr K (by unfold maxLen; omega)
        have hra := hr.below hba
        have HLS := Lib.hid hl
        have HO := Lib.hid ho
        obtain ⟨i0, hi, hz0, hz1, hz2⟩ := info_parts infoN
        have hnews : ∀ j u, ((List.range K).map fun i => Value.int .i64 (setS N K t i : Nat))[j]? = some u → (wr.alloc (.cells (madeCells #[.int .i64 0] K) 3)).cell? (Addr.add ⟨X, 0, none⟩ j) = some u := fun j u hj => by
          simp only [List.getElem?_map] at hj
          by_cases hjn : j < K
          · rw [List.getElem?_range hjn] at hj
            simp at hj
            rw [← hj, Addr.add_lit]
            exact (hra j hjn).1
          · rw [List.getElem?_eq_none (by simp; omega)] at hj
            simp at hj
        have hone : ∀ u ∈ ((List.range K).map fun i => Value.int .i64 (setS N K t i : Nat)), u.oneCell' = true := fun u hu => by
          simp at hu
          obtain ⟨i, -, rfl⟩ := hu
          rfl
        have hya : ∀ w3, w3.ownsRow wr.heap.size 3 1 (.slice (some ⟨wr.heap.size, 0, none⟩) (0 + K) K) (0 + K) ([] ++ ((List.range K).map fun i => Value.int .i64 (setS N K t i : Nat))) → (wr.alloc (.cells (madeCells #[.int .i64 0] K) 3)).grownBy w3 (some wr.heap.size) →
            YieldAt Fence.wide (n - 1) Try.prog l #[.slice (some ⟨wr.heap.size, 0, none⟩) K K] w3 fun e W' => (e = .returned (.bool true) ∧ J (t + 1) W' ∧ RowAt .i64 W' X 0 K (fun j => ((setS N K t j : Nat) : Int)) ∧ Blk W' X K 3) ∨ (e = .returned (.bool false) ∧ Jx W') := fun w3 h1 h2 => by
          have hgb : wr.grownBy w3 none := ⟨h2.os, h2.tape, h2.output, by have := h2.size; simp at this; omega, fun k hk _ => (h2.block k (by simp; omega) (fun e => by injection e with e; omega)).trans (hba.block k hk)⟩
          have hbl : Below wr.heap.size wr w3 := ⟨hgb.os, hgb.tape, hgb.output, hgb.size, fun k hk => hgb.block k hk (fun e => by cases e)⟩
          rw [Nat.zero_add] at h1
          have hlt : wr.heap.size < w3.heap.size := by have := h2.size; simp at this; omega
          refine (HY.out t wr w3 HLS.out hj (HJ.out t _ _ none hj hgb (fun _ e => by cases e)) hXW hbl hlt h1).mono fun e W' h => ?_
          rcases h with ⟨e1, e2, e3⟩ | h
          · have e4 : W'.heap[X]? = wr.heap[X]? := e3.trans (hbl.block X hXW)
            refine Or.inl ⟨e1, e2, hr.block e4, ?_⟩
            obtain ⟨cur, g1, g2⟩ := hb
            exact ⟨cur, e4.trans g1, g2⟩
          · exact Or.inr h
        have HYA := Lib.hid hya
        have HI := Lib.hid (And.intro hi (And.intro hz0 (And.intro hz1 hz2)))
        have HN := Lib.hid (And.intro hnews hone)
        clear hya hnews hone hi hz0 hz1 hz2 ho hra hba hj hr hb hl hmeas
        gi_wp2_with (gi_at_builtin; refine wpListIn_append_fits _ (by rfl) _ _ 70 (by rfl) wr.heap.size 3 i0 1 Try.underlying70 HI.out.1 HI.out.2.2.1 wr.heap.size 0 K [] (by rfl) HO.out ⟨X, 0, none⟩ K K ((List.range K).map fun i => Value.int .i64 (setS N K t i : Nat)) (by rfl) (by simp) HN.out.1 HN.out.2 (by omega) ?_; intro w3 g1 g2; obtain ⟨fn, tmps, assign, body, hy, hR⟩ := HYA.out w3 g1 g2)
        obtain ⟨wb, hwb⟩ : ∃ x, x = wr := ⟨_, rfl⟩
        subst hwb
        refine hR.mono ?_
        rintro e W3 (⟨rfl, hj, hr, hb⟩ | ⟨rfl, hx⟩)
        · have HJ3 := Lib.hid hj
          have HR3 := Lib.hid hr
          have HB3 := Lib.hid hb
          obtain ⟨c0, c1⟩ := HJM.out _ W3 hj
          clear hj hr hb hR hy HYA HN HO HI g1 g2
          gi_wp2
          gi_loopw [6] (fun iv wr => ∃ (h : Nat) (z : Int), h ≤ K ∧ iv = .int .i64 z ∧ z = (h : Int) - 1 ∧ (∀ q, h ≤ q → q < K → setS N K t q = N - K + q) ∧ J (t + 1) wr ∧ RowAt .i64 wr X 0 K (fun j => ((setS N K t j : Nat) : Int)) ∧ Blk wr X K 3) (fun iv _ => (intOf iv + 1).toNat)
          case atStart => exact ⟨K, _, Nat.le_refl _, rfl, rfl, fun q h1 h2 => absurd h2 (by omega), HJ3.out, HR3.out, HB3.out⟩
          case round =>
            clear HJ3 HR3 HB3 c0 c1
            obtain ⟨h, z, hh, rfl, hz, hq, hj, hr, hb⟩ := hrel
            obtain ⟨c0, c1⟩ := HJM.out _ wr hj
            have HJ4 := Lib.hid hj
            have HR4 := Lib.hid hr
            have HB4 := Lib.hid hb
            have HQ4 := Lib.hid hq
            rcases h with _ | m
            · obtain rfl : z = -1 := by omega
              clear hj hr hb hq hz
              gi_wp2
              gi_quiet (fail)
              gi_wp2
              refine bodyPost_ret (results_none rfl _ _ _) rfl ?_
              exact ⟨⟨_, rfl⟩, Or.inl ⟨t, HLS.out, by unfold LastS; rw [hiI_down N K _ K 0 (Nat.zero_le _) HQ4.out]; rfl, HJ.out _ _ _ none HJ4.out (gb_drewN _ _ _) (fun _ e => by cases e)⟩⟩
            · obtain rfl : z = (m : Int) := by omega
              obtain ⟨r0, r1⟩ := hr.get0 (show m < K by omega) rfl
              obtain ⟨p, hp⟩ : ∃ p, p = setS N K t m := ⟨_, rfl⟩
              rw [← hp] at r0
              have HP := Lib.hid hp
              have hm' : (m : Int) < (K : Int) := by omega
              have hm0 : (0 : Int) ≤ (m : Int) := by omega
              have hmK : m < K := by omega
              clear hj hr hb hq hz hp
              by_cases e : p = N - K + m
              · have ee : ((p : Int) == (N : Int) - K + m) = true := by rw [beq_iff_eq]; omega
                have HE := Lib.hid e
                clear e
                gi_wp2
                gi_quiet (fail)
                gi_wp2
                go_roundw
                case rel => exact ⟨m, _, by omega, by go_num, rfl, fun q h1 h2 => by
                  by_cases e : q = m
                  · rw [e, ← HP.out]; exact HE.out
                  · exact HQ4.out q (by omega) h2, HJ.out _ _ _ none HJ4.out (gb_drewN _ _ _) (fun _ e => by cases e), HR4.out.gb (gb_drewN _ _ none) (by simp), HB4.out.grown (gb_drewN _ _ none) (by simp)⟩
                case measure => simp [intOf] <;> omega
              · have ee : ((p : Int) == (N : Int) - K + m) = false := by rw [beq_eq_false_iff_ne]; have h2 : p ≤ N - K + m := by rw [HP.out]; exact setS_ris hK t HLS.out m hmK
                                                                         omega
                have hh : hiI N K (setS N K t) K = m + 1 := by
                  rw [hiI_down N K _ K (m + 1) (by omega) HQ4.out]
                  show (if setS N K t m = N - K + m then hiI N K (setS N K t) m else m + 1) = m + 1
                  rw [if_neg (by rw [← HP.out]; exact e)]
                have HE := Lib.hid hh
                clear e hh
                gi_wp2
                gi_quiet (fail)
                have HJ5 := Lib.hid (HJ.out _ _ _ none HJ4.out (gb_drewN wr nq none) (fun _ e => by cases e))
                have HR5 := Lib.hid (HR4.out.gb (gb_drewN wr nq none) (by simp))
                have HB5 := Lib.hid (HB4.out.grown (gb_drewN wr nq none) (by simp))
                generalize wr.drewN nq = w5 at *
                clear HJ4 HR4 HB4 HQ4 r0 r1 c0 c1 ee
                obtain ⟨r0, r1⟩ := HR5.out.get0 hmK rfl
                rw [← HP.out] at r0
                have hn0 : nxtS N K (setS N K t) m = p + 1 := by
                  unfold nxtS; rw [HE.out, if_neg (by omega)]
                  show setS N K t m + 1 + (m + 1 - (m + 1)) = _
                  rw [← HP.out]; omega
                have HJ6 := Lib.hid (HJ.out _ _ _ (some X) HJ5.out (gb_set w5 ⟨X, m, none⟩ (.int .i64 ((p : Int) + 1))) (fun _ e => by cases e; rfl))
                have HR6 := Lib.hid ((HR5.out.set0 hmK ((p : Int) + 1)).congr (g := fun j => if j < m + 1 then ((nxtS N K (setS N K t) j : Nat) : Int) else ((setS N K t j : Nat) : Int)) (fun j hj => by
                  by_cases e : j = m
                  · rw [if_pos e, if_pos (by omega), e, hn0]; rfl
                  · rw [if_neg e]
                    by_cases h : j < m + 1
                    · rw [if_pos h]; congr 1; unfold nxtS; rw [HE.out, if_pos (by omega)]
                    · rw [if_neg h]))
                have HB6 := Lib.hid (HB5.out.set m (.int .i64 ((p : Int) + 1)))
                have hp64 : p ≤ 64 := by have h2 := setS_lt hK HLS.out hmK; rw [← HP.out] at h2; omega
                clear hn0
                have hm1 : ¬ (m : Int) < 0 := by omega
                gi_wp2
                generalize w5.setCell ⟨X, m, none⟩ (.int .i64 ((p : Int) + 1)) = w6 at *
                clear HJ5 HR5 HB5 r0 r1
                gi_loopw [7] (fun jv wr => ∃ q : Nat, m + 1 ≤ q ∧ q ≤ K ∧ jv = .int .i64 q ∧ J (t + 1) wr ∧ RowAt .i64 wr X 0 K (fun j => if j < q then ((nxtS N K (setS N K t) j : Nat) : Int) else ((setS N K t j : Nat) : Int)) ∧ Blk wr X K 3) (fun jv _ => K - (intOf jv).toNat)
                case atStart => exact ⟨m + 1, Nat.le_refl _, by omega, by go_num, HJ6.out, HR6.out, HB6.out⟩
                case round =>
                  clear HJ6 HR6 HB6
                  obtain ⟨q, hq1, hq2, rfl, hj, hr, hb⟩ := hrel
                  obtain ⟨c0, c1⟩ := HJM.out _ wr hj
                  by_cases hqK : q < K
                  · have hq' : (q : Int) < K := by omega
                    obtain ⟨s, rfl⟩ : ∃ s, q = s + 1 := ⟨q - 1, by omega⟩
                    obtain ⟨r0, r1⟩ := hr.get0 (show s < K by omega) (if_pos (show s < s + 1 by omega))
                    obtain ⟨r2, r3⟩ := hr.get0 hqK rfl
                    obtain ⟨y, hy⟩ : ∃ y, y = nxtS N K (setS N K t) s := ⟨_, rfl⟩
                    have hris : RisS N K (nxtS N K (setS N K t)) := (setS_ris hK t HLS.out).nxt (by rw [HE.out]; omega)
                    have hy64 : y ≤ 64 := by have := hris s (by omega); omega
                    have hn1 : nxtS N K (setS N K t) (s + 1) = y + 1 := by
                      rw [hy]; unfold nxtS; rw [HE.out]
                      rw [if_neg (by omega)]
                      by_cases e : s + 1 < m + 1
                      · omega
                      · rw [if_neg e]; omega
                    rw [← hy] at r0
                    have HJ7 := Lib.hid (HJ.out _ _ _ (some X) hj (gb_set wr ⟨X, s + 1, none⟩ (.int .i64 ((y : Int) + 1))) (fun _ e => by cases e; rfl))
                    have HR7 := Lib.hid ((hr.set0 hqK ((y : Int) + 1)).congr (g := fun j => if j < s + 1 + 1 then ((nxtS N K (setS N K t) j : Nat) : Int) else ((setS N K t j : Nat) : Int)) (fun j hj => by
                      by_cases e : j = s + 1
                      · rw [if_pos e, if_pos (by omega), e, hn1]; rfl
                      · rw [if_neg e]
                        by_cases h : j < s + 1
                        · rw [if_pos h, if_pos (by omega)]
                        · rw [if_neg h, if_neg (by omega)]))
                    have HB7 := Lib.hid (hb.set (s + 1) (.int .i64 ((y : Int) + 1)))
                    clear hj hr hb hy hn1 hris
                    gi_wp2
                    go_roundw
                    case rel => exact ⟨s + 1 + 1, by omega, by omega, by go_num, HJ7.out, HR7.out, HB7.out⟩
                    case measure => simp [intOf] <;> omega
                  · obtain rfl : q = K := by omega
                    have hq' : ¬ (q : Int) < q := by omega
                    have hr' : RowAt .i64 wr X 0 q (fun j => ((setS N q (t + 1) j : Nat) : Int)) := hr.congr fun j hj => by rw [if_pos hj]; rfl
                    have HJ7 := Lib.hid hj
                    have HR7 := Lib.hid hr'
                    have HB7 := Lib.hid hb
                    have hms : vS (N + 1) (fun i => cellN wr X i) q = vS (N + 1) (nxtS N q (setS N q t)) q := vS_congr fun i hi => cellN_row hr' hi
                    have HMS := Lib.hid hms
                    clear hj hr hb hr' hms
                    gi_wp2
                    go_roundw
                    case rel => exact ⟨t + 1, fun s hs => by
                      rcases Nat.lt_succ_iff_lt_or_eq.1 hs with h | h
                      · exact HLS.out s h
                      · rw [h]; unfold LastS; rw [HE.out]; omega, HJ7.out, HR7.out, HB7.out⟩
                    case measure => rw [HME.out, HMS.out]; exact nxtS_less hK (setS_ris hK t HLS.out) (by rw [HE.out]; omega)
        · have HX := Lib.hid hx
          clear hx hR hy
          gi_wp2
          refine bodyPost_ret (results_none rfl _ _ _) rfl ?_
          exact ⟨⟨_, rfl⟩, Or.inr HX.out⟩
end Go.Proofs.Ytejliecmdkmgiaa
namespace Go.Proofs.Ytejliecmdkmgiaa
open Go.RowKit Go.Shelf
def stopsPost (X : Nat) (I : World → Prop) (Ix : Code → World → Prop) (W : World) : Exit → Act → World → Prop
  | .normal, _, W' => KeepsOthers W W' ∧ W'.heap[X]? = W.heap[X]? ∧ I W'
  | .ret, _, W' => KeepsOthers W W' ∧ Ix .ret W'
  | .exit id, _, W' => KeepsOthers W W' ∧ Ix (.exit id) W'
  | _, _, _ => False
end Go.Proofs.Ytejliecmdkmgiaa
namespace Go.Proofs.Ytejliecmdkmgiaa
open Go.RowKit Go.Shelf
theorem range_boxed {P : Program} {n : Nat} {g : Operand} {ps : Array Tmp} {assign body : Code} {Q : Exit → Act → World → Prop} {a : Act} {w : World} (h1 : 1 ≤ n)
    {gf : Nat} {lb : Array Value} (hg : a.eval g = .func (.func gf) #[] lb) (eg : ∀ args w, (callFunc gf args).run P w = .ok (.enter gf args) w) (hps : ps.size = 1)
    (Done : Nat → Prop) (enc : Nat → Value) (Row : Nat → World → World → Nat → Prop) (I : Nat → World → Prop) (Ix : Code → World → Prop) (Ax : Nat → World → Nat → Nat → World → Prop)
    (hAx : ∀ t W0 v bx W W', Ax t W0 v bx W → W.grownBy W' (some (w.heap.size + 1)) → Ax t W0 v bx W')
    (hI : ∀ t W W' r, I t W → W.grownBy W' r → (∀ k, r = some k → k = w.heap.size + 1 ∨ k = w.heap.size + 2) → I t W')
    (hIx : ∀ c W W' r, Ix c W → W.grownBy W' r → (∀ k, r = some k → k = w.heap.size + 1) → Ix c W')
    (hseq : ∀ (l : Nat) (J : Nat → World → Prop) (Jx : World → Prop) (W : World), W.heap.size = w.heap.size + 2 →
      (∀ t W W' r, J t W → W.grownBy W' r → (∀ k, r = some k → k = w.heap.size + 2) → J t W') → (∀ t W, J t W → I t W) →
      (∀ t W0 W v, Row t W0 W v → J t W0 → J t W → YieldAt Fence.wide (n - 1 - 1) P l #[enc v] W fun e W' => (e = .returned (.bool true) ∧ J (t + 1) W' ∧ W'.heap[w.heap.size + 2]? = W.heap[w.heap.size + 2]?) ∨ (e = .returned (.bool false) ∧ Jx W')) → J 0 W →
      CallsIn Fence.wide (n - 1) P gf (#[.func (.yield l) #[] #[]] ++ lb) W fun e W' => (∃ v, e = .returned v) ∧ ((∃ t, Done t ∧ J t W') ∨ Jx W'))
    (h0 : I 0 w)
    (hround : ∀ (l t v : Nat), l = w.heap.size + 1 → ∃ fa : Nat → Act, (∀ (W0 W : World) (K : Act → World → Prop), I t W0 → I t W → Row t W0 W v →
      (∀ bx W', KeepsOthers W W' → W'.heap[w.heap.size + 2]? = W.heap[w.heap.size + 2]? → I t W' → Ax t W0 v bx W' → K (fa bx) W') →
      assign.wpIn (Fence.wide.inRound l) (n - 1 - 1) P (Exit.then K (fun _ _ _ => False)) { tmps := (ps.zip #[enc v]).foldl (fun t (p, v) => t.setIfInBounds p v) a.tmps, defers := [] } W) ∧
      ∀ (W0 W : World) (bx : Nat), (∃ r, W.heap[l]? = some (.loop r)) → I t W0 → I t W → Ax t W0 v bx W → body.wpIn (Fence.wide.inRound l) (n - 1 - 1) P (stopsPost (w.heap.size + 2) (I (t + 1)) Ix W) (fa bx) W)
    (hdone : ∀ (D t : Nat) (W : World), D = w.heap.size → Done t → I t W → W.heap[D]? = some (.deferred (some [])) → Q .normal { a with defers := { target := .collected D, args := #[] } :: a.defers } W)
    (hstop : ∀ (D : Nat) (c : Code) (W : World), D = w.heap.size → Ix c W → W.heap[D]? = some (.deferred (some [])) → c.wpIn Fence.wide n P Q { a with defers := { target := .collected D, args := #[] } :: a.defers } W) :
    (Code.rangeFunc g ps assign body).wpIn Fence.wide n P Q a w := by
  refine wpIn_rangeFunc fun fn hfn => ?_
  obtain ⟨B, hB⟩ : ∃ B, B = w.heap.size := ⟨_, rfl⟩
  rw [← hB] at hAx hI hIx hseq hround hdone hstop
  obtain ⟨rc, hrc⟩ : ∃ rc : LoopState → Option Code → Loop, rc = fun st pe => { state := st, pending := pe, fn, tmps := a.tmps, params := ps, assign, body, defers := B } := ⟨_, rfl⟩
  obtain ⟨u, hu⟩ : ∃ u, u = w.alloc (.deferred (some [])) := ⟨_, rfl⟩
  obtain ⟨v, hv⟩ : ∃ v, v = u.alloc (.loop (rc .ready none)) := ⟨_, rfl⟩
  have su : u.heap.size = B + 1 := by rw [hu, hB]; simp
  have sv : v.heap.size = B + 2 := by rw [hv]; simp [su]
  have bu : Below w.heap.size w u := by rw [hu]; exact (Below.refl _ _).alloc (Nat.le_refl _) _
  have bv : Below u.heap.size u v := by rw [hv]; exact (Below.refl _ _).alloc (Nat.le_refl _) _
  have kD : v.heap[B]? = some (.deferred (some [])) := by
    rw [hv]; exact (Below.heap_alloc _ _ _ (by omega)).trans (by rw [hu, hB]; exact World.alloc_heap_new w _)
  have kL : v.heap[B + 1]? = some (.loop (rc .ready none)) := by rw [hv, ← su]; exact World.alloc_heap_new u _
  have iB : ∀ {t W W'}, I t W → Below W.heap.size W W' → I t W' := fun h hb => hI _ _ _ none h (gb_below hb none) (fun k e => by cases e)
  have iP : ∀ {t W} (o : Obj), I t W → I t (W.putObj (B + 1) o) := fun o h => hI _ _ _ (some (B + 1)) h (grownBy_putObj' _ _ o) (fun k e => by cases e; exact Or.inl rfl)
  have xP : ∀ {c W} (o : Obj), Ix c W → Ix c (W.putObj (B + 1) o) := fun o h => hIx _ _ _ (some (B + 1)) h (grownBy_putObj' _ _ o) (fun k e => by cases e; rfl)
  have hi0 : I 0 v := iB (iB h0 bu) bv
  refine ⟨B + 1, [{ target := .collected B, args := #[] }], v, { target := .fn (.func gf) lb, args := #[.func (.yield (B + 1)) #[] #[]] }, v, gf, #[.func (.yield (B + 1)) #[] #[]] ++ lb, v, ?_, ?_, ?_, ?_, fun _ => h1, ?_⟩
  · rw [hv, hu, hrc, hB]; exact run_enterLoop_outer _ _ _ _ _
  · simp only [resolve, hg]
    simp [go_sem]
  · intro f' hf'; trivial
  · simp [invoke, go_sem, eg]
  · refine (hseq (B + 1) (fun t W => I t W ∧ W.heap[B + 1]? = some (.loop (rc .ready none)) ∧ W.heap[B]? = some (.deferred (some [])))
      (fun W => ∃ c, Ix c W ∧ W.heap[B + 1]? = some (.loop (rc .done (some c))) ∧ W.heap[B]? = some (.deferred (some []))) v sv ?_ (fun t W h => h.1) ?_ ⟨hi0, kL, kD⟩).mono ?_
    · rintro t W W' r ⟨ci, cL, cD⟩ hg hr
      refine ⟨hI _ _ _ r ci hg (fun k e => Or.inr (hr k e)), ?_, ?_⟩
      · exact (hg.block _ (Array.getElem?_eq_some_iff.1 cL).1 (fun e => by have := hr _ e.symm; omega)).trans cL
      · exact (hg.block _ (Array.getElem?_eq_some_iff.1 cD).1 (fun e => by have := hr _ e.symm; omega)).trans cD
    · rintro t W0 W x hrow ⟨ci0, -, -⟩ ⟨ci, cL, cD⟩
      have hy := run_yield (P := P) (args := #[enc x]) cL (by rw [hrc]; simp [hps])
      rw [hrc] at hy
      obtain ⟨fa, hassign, hbody⟩ := hround (B + 1) t x rfl
      refine ⟨fn, _, assign, body, hy, roundIn_of_wpIn hfn (hassign W0 W _ ci0 ci hrow ?_)⟩
      intro bx Wa hka hxa cia hax
      replace cL := hka.same _ _ cL rfl
      replace cD := hka.same _ _ cD rfl
      have hbr := run_beginRound (P := P) cL (by rw [hrc])
      refine ⟨_, hbr, ?_⟩
      have hlt : B + 1 < Wa.heap.size := (Array.getElem?_eq_some_iff.1 cL).1
      have cL2 : (Wa.putObj (B + 1) (.loop { rc .ready none with state := .busy })).heap[B + 1]? = some (.loop { rc .ready none with state := .busy }) := World.putObj_heap_same hlt
      have cD2 : (Wa.putObj (B + 1) (.loop { rc .ready none with state := .busy })).heap[B]? = some (.deferred (some [])) := (World.putObj_heap_other (by omega)).trans cD
      have cX2 : (Wa.putObj (B + 1) (.loop { rc .ready none with state := .busy })).heap[B + 2]? = W.heap[B + 2]? := (World.putObj_heap_other (by omega)).trans hxa
      have ci2 := iP (.loop { rc .ready none with state := .busy }) cia
      have hax2 := hAx _ _ _ _ _ _ hax (grownBy_putObj' Wa (B + 1) (.loop { rc .ready none with state := .busy }))
      generalize Wa.putObj (B + 1) (.loop { rc .ready none with state := .busy }) = W2 at *
      have fin : ∀ (jump : Option Code) (W3 : World), KeepsOthers W2 W3 →
          (Instr.endRound (B + 1) jump).run P W3 = .ok (.bool jump.isNone) (W3.putObj (B + 1) (.loop (rc (if jump.isNone then .ready else .done) jump))) ∧
          (W3.putObj (B + 1) (.loop (rc (if jump.isNone then .ready else .done) jump))).heap[B + 1]? = some (.loop (rc (if jump.isNone then .ready else .done) jump)) ∧
          (W3.putObj (B + 1) (.loop (rc (if jump.isNone then .ready else .done) jump))).heap[B]? = some (.deferred (some [])) := fun jump W3 hk3 => by
        have cL3 := hk3.same _ _ cL2 rfl
        have cD3 := hk3.same _ _ cD2 rfl
        have he := run_endRound (P := P) jump cL3
        rw [hrc] at he ⊢
        exact ⟨he, World.putObj_heap_same (Array.getElem?_eq_some_iff.1 cL3).1, (World.putObj_heap_other (by omega)).trans cD3⟩
      refine wpIn_mono (hbody W0 W2 bx ⟨_, cL2⟩ ci0 ci2 hax2) ?_
      rintro e a3 W3 hp
      cases e with
      | normal =>
        obtain ⟨hk, hx3, hi3⟩ := hp
        obtain ⟨he, cL4, cD4⟩ := fin none W3 hk
        exact ⟨_, _, he, Or.inl ⟨rfl, ⟨iP _ hi3, cL4, cD4⟩, ((World.putObj_heap_other (by omega)).trans hx3).trans cX2⟩⟩
      | ret =>
        obtain ⟨hk, hi3⟩ := hp
        obtain ⟨he, cL4, cD4⟩ := fin (some .ret) W3 hk
        exact ⟨_, _, he, Or.inr ⟨rfl, .ret, xP _ hi3, cL4, cD4⟩⟩
      | exit id =>
        obtain ⟨hk, hi3⟩ := hp
        obtain ⟨he, cL4, cD4⟩ := fin (some (.exit id)) W3 hk
        exact ⟨_, _, he, Or.inr ⟨rfl, .exit id, xP _ hi3, cL4, cD4⟩⟩
      | goto t => exact hp.elim
      | panic ch => exact hp.elim
      | outgrown => exact hp.elim
    · rintro e W2 ⟨⟨v, rfl⟩, (⟨t, hd, ci, cL, cD⟩ | ⟨c, hc, cL, cD⟩)⟩
      · have he := run_endLoop (P := P) cL (by rw [hrc]; simp)
        have hpn : (rc .ready none).pending = none := by rw [hrc]
        rw [hpn] at he
        exact ⟨none, _, he, hdone B t _ rfl hd (iP _ ci) ((World.putObj_heap_other (by omega)).trans cD)⟩
      · have he := run_endLoop (P := P) cL (by rw [hrc]; simp)
        have hpn : (rc .done (some c)).pending = some c := by rw [hrc]
        rw [hpn] at he
        exact ⟨some c, _, he, hstop B c _ rfl (xP _ hc) ((World.putObj_heap_other (by omega)).trans cD)⟩
theorem range_inner {P : Program} {n : Nat} {g : Operand} {ps : Array Tmp} {assign body : Code} {Q : Exit → Act → World → Prop} {a : Act} {w : World} {l₀ : Nat} {r₀ : Loop} (hl₀ : w.heap[l₀]? = some (.loop r₀)) (h1 : 1 ≤ n)
    {gf : Nat} {lb : Array Value} (hg : a.eval g = .func (.func gf) #[] lb) (eg : ∀ args w, (callFunc gf args).run P w = .ok (.enter gf args) w) (hps : ps.size = 1)
    (Done : Nat → Prop) (Row : Nat → World → World → Value → Prop) (hRow : ∀ t W0 W W' v, Row t W0 W v → W.grownBy W' (some w.heap.size) → Row t W0 W' v)
    (I : Nat → World → Prop) (Ix : Code → World → Prop)
    (hI : ∀ t W W' r, I t W → W.grownBy W' r → (∀ k, r = some k → k = w.heap.size ∨ k = w.heap.size + 1) → I t W')
    (hIx : ∀ c W W' r, Ix c W → W.grownBy W' r → (∀ k, r = some k → k = w.heap.size) → Ix c W')
    (hseq : ∀ (l : Nat) (J : Nat → World → Prop) (Jx : World → Prop) (W : World), W.heap.size = w.heap.size + 1 →
      (∀ t W W' r, J t W → W.grownBy W' r → (∀ k, r = some k → k = w.heap.size + 1) → J t W') → (∀ t W, J t W → I t W) →
      (∀ t W0 W v, Row t W0 W v → J t W0 → J t W → YieldAt Fence.wide (n - 1 - 1) P l #[v] W fun e W' => (e = .returned (.bool true) ∧ J (t + 1) W' ∧ W'.heap[w.heap.size + 1]? = W.heap[w.heap.size + 1]?) ∨ (e = .returned (.bool false) ∧ Jx W')) → J 0 W →
      CallsIn Fence.wide (n - 1) P gf (#[.func (.yield l) #[] #[]] ++ lb) W fun e W' => (∃ v, e = .returned v) ∧ ((∃ t, Done t ∧ J t W') ∨ Jx W'))
    (h0 : I 0 w)
    (hround : ∀ (l t : Nat) (v : Value), ∃ a' : Act, (∀ (W : World) (K : Act → World → Prop), K a' W →
      assign.wpIn (Fence.wide.inRound l) (n - 1 - 1) P (Exit.then K (fun _ _ _ => False)) { tmps := (ps.zip #[v]).foldl (fun t (p, v) => t.setIfInBounds p v) a.tmps, defers := [] } W) ∧
      ∀ (W0 W : World), I t W0 → I t W → Row t W0 W v → body.wpIn (Fence.wide.inRound l) (n - 1 - 1) P (stopsPost (w.heap.size + 1) (I (t + 1)) Ix W) a' W)
    (hdone : ∀ (t : Nat) (W : World), Done t → I t W → Q .normal a W)
    (hstop : ∀ (c : Code) (W : World), Ix c W → c.wpIn (Fence.wide.inRound l₀) n P Q a W) :
    (Code.rangeFunc g ps assign body).wpIn (Fence.wide.inRound l₀) n P Q a w := by
  refine wpIn_rangeFunc fun fn hfn => ?_
  obtain ⟨B, hB⟩ : ∃ B, B = w.heap.size := ⟨_, rfl⟩
  rw [← hB] at hRow hI hIx hseq hround
  obtain ⟨rc, hrc⟩ : ∃ rc : LoopState → Option Code → Loop, rc = fun st pe => { state := st, pending := pe, fn, tmps := a.tmps, params := ps, assign, body, defers := r₀.defers } := ⟨_, rfl⟩
  obtain ⟨v, hv⟩ : ∃ v, v = w.alloc (.loop (rc .ready none)) := ⟨_, rfl⟩
  have sv : v.heap.size = B + 1 := by rw [hv, hB]; simp
  have bv : Below w.heap.size w v := by rw [hv]; exact (Below.refl _ _).alloc (Nat.le_refl _) _
  have kL : v.heap[B]? = some (.loop (rc .ready none)) := by rw [hv, hB]; exact World.alloc_heap_new w _
  have iB : ∀ {t W W'}, I t W → Below W.heap.size W W' → I t W' := fun h hb => hI _ _ _ none h (gb_below hb none) (fun k e => by cases e)
  have iP : ∀ {t W} (o : Obj), I t W → I t (W.putObj B o) := fun o h => hI _ _ _ (some B) h (grownBy_putObj' _ _ o) (fun k e => by cases e; exact Or.inl rfl)
  have xP : ∀ {c W} (o : Obj), Ix c W → Ix c (W.putObj B o) := fun o h => hIx _ _ _ (some B) h (grownBy_putObj' _ _ o) (fun k e => by cases e; rfl)
  have hi0 : I 0 v := iB h0 bv
  refine ⟨B, [], v, { target := .fn (.func gf) lb, args := #[.func (.yield B) #[] #[]] }, v, gf, #[.func (.yield B) #[] #[]] ++ lb, v, ?_, ?_, ?_, ?_, fun _ => h1, ?_⟩
  · rw [hv, hrc, hB]; exact run_enterLoop_inner hl₀ _ _ _ _ _
  · simp only [resolve, hg]
    simp [go_sem]
  · intro f' hf'; trivial
  · simp [invoke, go_sem, eg]
  · refine (hseq B (fun t W => I t W ∧ W.heap[B]? = some (.loop (rc .ready none)))
      (fun W => ∃ c, Ix c W ∧ W.heap[B]? = some (.loop (rc .done (some c)))) v sv ?_ (fun t W h => h.1) ?_ ⟨hi0, kL⟩).mono ?_
    · rintro t W W' r ⟨ci, cL⟩ hg hr
      refine ⟨hI _ _ _ r ci hg (fun k e => Or.inr (hr k e)), ?_⟩
      exact (hg.block _ (Array.getElem?_eq_some_iff.1 cL).1 (fun e => by have := hr _ e.symm; omega)).trans cL
    · rintro t W0 W x hrow ⟨ci0, -⟩ ⟨ci, cL⟩
      have hy := run_yield (P := P) (args := #[x]) cL (by rw [hrc]; simp [hps])
      have hbr := run_beginRound (P := P) cL (by rw [hrc])
      have hlt : B < W.heap.size := (Array.getElem?_eq_some_iff.1 cL).1
      have cL2 : (W.putObj B (.loop { rc .ready none with state := .busy })).heap[B]? = some (.loop { rc .ready none with state := .busy }) := World.putObj_heap_same hlt
      have cX2 : (W.putObj B (.loop { rc .ready none with state := .busy })).heap[B + 1]? = W.heap[B + 1]? := World.putObj_heap_other (by omega)
      have ci2 := iP (.loop { rc .ready none with state := .busy }) ci
      have hrow2 := hRow _ _ _ _ _ hrow (grownBy_putObj' W B (.loop { rc .ready none with state := .busy }))
      generalize W.putObj B (.loop { rc .ready none with state := .busy }) = W2 at *
      rw [hrc] at hy
      obtain ⟨a', hassign, hbody⟩ := hround B t x
      refine ⟨fn, _, assign, body, hy, roundIn_of_wpIn hfn (hassign W _ ⟨W2, hbr, ?_⟩)⟩
      have fin : ∀ (jump : Option Code) (W3 : World), KeepsOthers W2 W3 →
          (Instr.endRound B jump).run P W3 = .ok (.bool jump.isNone) (W3.putObj B (.loop (rc (if jump.isNone then .ready else .done) jump))) ∧
          (W3.putObj B (.loop (rc (if jump.isNone then .ready else .done) jump))).heap[B]? = some (.loop (rc (if jump.isNone then .ready else .done) jump)) := fun jump W3 hk3 => by
        have cL3 := hk3.same _ _ cL2 rfl
        have he := run_endRound (P := P) jump cL3
        rw [hrc] at he ⊢
        exact ⟨he, World.putObj_heap_same (Array.getElem?_eq_some_iff.1 cL3).1⟩
      refine wpIn_mono (hbody W0 W2 ci0 ci2 hrow2) ?_
      rintro e a3 W3 hp
      cases e with
      | normal =>
        obtain ⟨hk, hx3, hi3⟩ := hp
        obtain ⟨he, cL4⟩ := fin none W3 hk
        exact ⟨_, _, he, Or.inl ⟨rfl, ⟨iP _ hi3, cL4⟩, ((World.putObj_heap_other (by omega)).trans hx3).trans cX2⟩⟩
      | ret =>
        obtain ⟨hk, hi3⟩ := hp
        obtain ⟨he, cL4⟩ := fin (some .ret) W3 hk
        exact ⟨_, _, he, Or.inr ⟨rfl, .ret, xP _ hi3, cL4⟩⟩
      | exit id =>
        obtain ⟨hk, hi3⟩ := hp
        obtain ⟨he, cL4⟩ := fin (some (.exit id)) W3 hk
        exact ⟨_, _, he, Or.inr ⟨rfl, .exit id, xP _ hi3, cL4⟩⟩
      | goto t => exact hp.elim
      | panic ch => exact hp.elim
      | outgrown => exact hp.elim
    · rintro e W2 ⟨⟨v, rfl⟩, (⟨t, hd, ci, cL⟩ | ⟨c, hc, cL⟩)⟩
      · have he := run_endLoop (P := P) cL (by rw [hrc]; simp)
        have hpn : (rc .ready none).pending = none := by rw [hrc]
        rw [hpn] at he
        exact ⟨none, _, he, hdone t _ hd (iP _ ci)⟩
      · have he := run_endLoop (P := P) cL (by rw [hrc]; simp)
        have hpn : (rc .done (some c)).pending = some c := by rw [hrc]
        rw [hpn] at he
        exact ⟨some c, _, he, hstop c _ (xP _ hc)⟩
end Go.Proofs.Ytejliecmdkmgiaa
