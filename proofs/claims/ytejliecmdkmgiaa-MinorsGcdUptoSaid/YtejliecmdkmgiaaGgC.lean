import Derived.Test.YtejliecmdkmgiaaGAJ
import Derived.Test.YtejliecmdkmgiaaGAK
import Derived.Test.YtejliecmdkmgiaaGAL
import Derived.Test.YtejliecmdkmgiaaRows
import Derived.Test.YtejliecmdkmgiaaGH
import Derived.ProofKit
import Derived.OpenShut
import Derived.Carry
import Derived.JoinedCond
set_option linter.unusedVariables false
set_option linter.unusedSimpArgs false
set_option maxHeartbeats 8000000
set_option maxRecDepth 100000
namespace Go.Proofs.Ytejliecmdkmgiaa
open Go.RowKit Go.Shelf
theorem Gg_law (r c : Int) (s : Value) (n : Nat) (x : Nat → Raw) (k i j : Int) (w : World) (hr : RdL w s n x) (hx : ∀ i, i < n → (x i).n ≤ 1048576) :
    Calls Try.prog 10 #[.agg #[.int .i64 r, .int .i64 c, s], .int .i64 k, .int .i64 i, .int .i64 j] w fun e w' => e = .returned (.bool true) ∧ Below w.heap.size w w' := by
  obtain ⟨a, cap, rfl, hcap, hn, -⟩ := id hr
  rcases check_cases r c n with h | ⟨R, C, rfl, rfl, hR, hC, rfl⟩
  · exact Gg_bad r c a n cap k i j (by omega) h w
  · have hK4 : R * C ≤ 4096 := Nat.mul_le_mul hR hC
    have k1 := checkE_ok hR hC (n := R * C) rfl
    have hrd := hr.rde (by omega) (fun i hi => by have := hx i hi; omega)
    by_cases hk : k < 0 ∨ (R : Int) < k ∨ (C : Int) < k
    · exact Gg_arg R C a (R * C) cap k i j (by omega) k1 hk w
    · obtain ⟨K, rfl⟩ : ∃ K : Nat, k = K := ⟨k.toNat, by omega⟩
      by_cases hl : 4096 < bn R K * bn C K
      · exact Gg_large R C K a (R * C) cap i j w rfl hR hC (by omega) (by omega) hl
      · by_cases h0 : K = 0
        · have e1 : bn R K = 1 := by rw [h0]; exact bn_zero R
          have e2 : bn C K = 1 := by rw [h0]; exact bn_zero C
          exact Gg_zero R C K 1048576 _ _ i j w hR hC (by omega) (by omega) (by omega) (by omega) h0 (Nat.le_refl _) hrd (hr.zbs hx)
        · by_cases hl2 : 64 < bn R K ∨ 64 < bn C K
          · exact Gg_five R C K 1048576 _ _ i j w hR hC (by omega) (by omega) (by omega) hl2 (by omega) (Nat.le_refl _) hrd (hr.zbs hx)
          · exact Gg_pos R C K 1048576 _ _ i j w hR hC (by omega) (by omega) (by omega) (by omega) (by omega) (Nat.le_refl _) hrd (hr.zbs hx)
end Go.Proofs.Ytejliecmdkmgiaa
namespace Go.Proofs.Ytejliecmdkmgiaa.minorsGcd
open Go.ChangeShapes Go.WideShapes Go.ChangeAt Go.RowKit
theorem own : ownKnob Try.prog.godebug = none := by kernel_rfl
theorem contract (H : Type) (enc : TypeId × Value → H) (W : World) (base : Nat) (args : Array Value) (ds gs : List (DataW H)) (before : List MemPlace)
    (hval : ∀ (j : Nat) t v, Try.f10.params[j]? = some t → args[j]? = some v → Value.okWide Try.prog W .any base t v)
    (hW : DataW.Whole enc Try.prog Try.f10.params.toList Rows.minorsGcdSpec.vars false W args.toList ds gs before) (hk : Rows.uptoSmall H (ds ++ gs) = true) :
    Calls Try.prog 10 args W fun e W' => ∃ v, e = .returned v ∧ Rows.minorsGcdSpec.post enc Try.prog Try.f10 false true false false W args v W' := by
  have hW' := hW
  have hlt : ∀ x ∈ before, x.block < W.heap.size := fun x hx => hW.lt x hx
  obtain ⟨p, q, hA0, hV, rfl, hfz, hnd⟩ := hW
  have hA : DataW.TrodAll enc Try.prog W 0 (fun _ => true) true Try.f10.params.toList args.toList ds p := hA0
  rw [Try.params10] at hA hval
  obtain ⟨v0, vs0, d0, ds0, p0, q0, hargs, rfl, rfl, h0, r0⟩ := trodAll_cons hA
  obtain ⟨v1, vs1, d1, ds1, p1, q1, rfl, rfl, rfl, h1, r1⟩ := trodAll_cons r0
  obtain ⟨v2, vs2, d2, ds2, p2, q2, rfl, rfl, rfl, h2, r2⟩ := trodAll_cons r1
  obtain ⟨v3, vs3, d3, ds3, p3, q3, rfl, rfl, rfl, h3, r3⟩ := trodAll_cons r2
  obtain ⟨rfl, rfl, rfl⟩ := trodAll_nil r3
  obtain rfl : args = #[v0, v1, v2, v3] := by cases args; simp_all
  obtain ⟨rfl, rfl⟩ := trodVars_none hV
  have h0k := h0
  obtain ⟨k1, rfl, rfl, rfl, wk1⟩ := open_int Try.underlying3 (hval 1 3 v1 rfl rfl) h1
  obtain ⟨k2, rfl, rfl, rfl, wk2⟩ := open_int Try.underlying3 (hval 2 3 v2 rfl rfl) h2
  obtain ⟨k3, rfl, rfl, rfl, wk3⟩ := open_int Try.underlying3 (hval 3 3 v3 rfl rfl) h3
  clear hA0
  simp only [List.append_nil] at hW' hk hlt
  have hbk : Rows.uptoBulkAll [d0, DataW.lit (.int .i64 k1), DataW.lit (.int .i64 k2), DataW.lit (.int .i64 k3)] ≤ 1048576 := of_decide_eq_true hk
  simp only [Rows.uptoBulkAll] at hbk
  obtain ⟨R0, C0, s0, n0, x0, rfl, hr0, hn0, hx0, -, -⟩ := open_mat (B := 1048576) (hval 0 24 v0 rfl rfl) h0 (by omega) (by omega)
  have bk1 : -9223372036854775808 ≤ k1 ∧ k1 ≤ 9223372036854775807 := by simp [Lit.wf, IntKind.min, IntKind.max, IntKind.signed, IntKind.bits] at wk1; omega
  have bk2 : -9223372036854775808 ≤ k2 ∧ k2 ≤ 9223372036854775807 := by simp [Lit.wf, IntKind.min, IntKind.max, IntKind.signed, IntKind.bits] at wk2; omega
  have bk3 : -9223372036854775808 ≤ k3 ∧ k3 ≤ 9223372036854775807 := by simp [Lit.wf, IntKind.min, IntKind.max, IntKind.signed, IntKind.bits] at wk3; omega
  refine (Gg_law R0 C0 s0 n0 x0 k1 k2 k3 W hr0 hx0).mono fun e W' ⟨he, hg⟩ => ?_
  subst he
  refine ⟨_, rfl, post_of_below (pa := (p0 ++ ([] ++ ([] ++ ([] ++ []))))) (pv := []) hW' (fun _ _ _ => (trodAll_cons_mk (shut_bool Try.underlying4 _) trodAll_mk0)) (fun sp hsp => (trodAll_cons_mk (WideElems.Trod_stays (P := Try.prog) (by kernel_rfl) (by kernel_rfl) (of_decide_eq_true (by kernel_rfl)) h0k (fun x hx => hg.same (hlt x (by simp [hx]))) (fun x hx => hsp x (by simp [hx]))) (trodAll_cons_mk (shut_int Try.underlying3 wk1) (trodAll_cons_mk (shut_int Try.underlying3 wk2) (trodAll_cons_mk (shut_int Try.underlying3 wk3) trodAll_mk0))))) (fun _ _ => rfl) (by simp)
    hg (ok_one (by kernel_rfl) rfl (okWide_bool_mk Try.underlying4 _))⟩
theorem lifted (os : Os) (started : os.Started) (H : Type) (enc : TypeId × Value → H) (F : Stop.Interp) :
    ReturnsInHanded {} Try.checked os 10 .any ((Rows.OpenSpec.upto Rows.minorsGcdSpec).pre6 enc Try.prog Try.f10 Rows.minorsGcdUptoRow.domain false) (((Rows.OpenSpec.upto Rows.minorsGcdSpec).at F).post enc Try.prog Try.f10 false true false false) := by
  refine returnsInHanded_of_cond (C := Try.checked) (s := Rows.OpenSpec.upto Rows.minorsGcdSpec) (k := Rows.uptoSmall) rfl own started (by kernel_rfl) Try.func10
    (OpenSpec.witness (enc := enc) (C := Try.checked) (s := Rows.OpenSpec.upto Rows.minorsGcdSpec) (k := Rows.uptoSmall) rfl false ⟨#[], #[.agg #[.int .i64 0, .int .i64 0, .slice none 0 0], .int .i64 0, .int .i64 0, .int .i64 0], []⟩ 8 (by kernel_rfl) (by kernel_rfl) (by kernel_rfl)
      (x := ([.agg [.lit (.int .i64 0), .lit (.int .i64 0), .nil], .lit (.int .i64 0), .lit (.int .i64 0), .lit (.int .i64 0)], [], [])) (by kernel_rfl) rfl (by kernel_rfl)) ?_
  intro W base args ds gs before hval hW _ hk _
  exact contract H enc W base args ds gs before hval hW hk
theorem proved : Rows.MinorsGcdUptoSaid :=
  OpenClaim.holds_of_cond 10 Try.f10 rfl rfl rfl rfl rfl rfl rfl ⟨rfl, rfl, rfl, rfl, rfl⟩ rfl rfl rfl rfl rfl (by kernel_rfl) Try.func10 (by kernel_rfl)
    (of_decide_eq_true (by kernel_rfl)) (by unfold Func.isWrapper; first | (rw [if_pos (by decide +kernel)]; kernel_rfl) | (rw [if_neg (by decide +kernel)]; exact ⟨rfl, rfl⟩))
    (fun os started H enc _ F => lifted os started H enc F)
#print axioms proved
end Go.Proofs.Ytejliecmdkmgiaa.minorsGcd
