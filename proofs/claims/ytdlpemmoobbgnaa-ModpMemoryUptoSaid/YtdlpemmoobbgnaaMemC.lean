/- The law of memory, walked. 'ModpMemory', where what it reads is of bulk at most 1,048,576: for every matrix a, list x and p the law returns true and its arguments read as before. -/
import Derived.Test.YtdlpemmoobbgnaaGZ
import Derived.Test.YtdlpemmoobbgnaaGE
import Derived.Test.YtdlpemmoobbgnaaRows
import Derived.Deep.Slices
import Derived.Test.YtdlpemmoobbgnaaGI
import Derived.ProofKit
import Derived.OpenShut
import Derived.Carry
import Derived.JoinedCond
set_option linter.unusedVariables false
set_option linter.unusedSimpArgs false
namespace Go.Proofs.Ytdlpemmoobbgnaa
open Go.RowKit

set_option maxHeartbeats 2000000 in
set_option maxRecDepth 100000 in
theorem Memory_law (r c p : Int) (hp : 0 ≤ p) (s sb : Value) (n nb : Nat) (x b : Nat → Raw) (w : World) (hr : RdL w s n x) (hrb : RdL w sb nb b) (hx : ∀ i, i < n → (x i).n ≤ 1048576) (hb : ∀ i, i < nb → (b i).n ≤ 1048576)
    (hs : ∀ c, s = .slice none n c → c = 0) (hsb : ∀ c, sb = .slice none nb c → c = 0) :
    Calls Try.prog 10 #[.agg #[.int .i64 r, .int .i64 c, s], sb, .int .u64 p] w fun e w' => e = .returned (.bool true) ∧ Below w.heap.size w w' := by
  obtain ⟨sa, cs, rfl⟩ : ∃ sa cs, s = .slice sa n cs := by
    obtain ⟨a, cap, e, -⟩ := hr
    exact ⟨a, cap, e⟩
  obtain ⟨ta, cb, rfl⟩ : ∃ ta cb, sb = .slice ta nb cb := by
    obtain ⟨a, cap, e, -⟩ := hrb
    exact ⟨a, cap, e⟩
  have hs' : sa = none → cs = 0 := fun e => hs cs (by rw [e])
  have hsb' : ta = none → cb = 0 := fun e => hsb cb (by rw [e])
  obtain ⟨hb0, x0, x1, x2⟩ := box_mat w (.int .i64 r) (.int .i64 c) (.slice sa n cs) 34
  have HB0 := Lib.hid hb0
  have H3 := Lib.hid (And.intro x0 (And.intro x1 x2))
  clear hb0 x0 x1 x2 hs hsb
  go_enter Try.func10, Try.ntmps10
  go_upto_region 1 with fail
  generalize w.alloc (.cells #[.int .i64 r, .int .i64 c, .slice sa n cs] 34) = w0 at HB0 H3 ⊢
  go_wp2_with fail
  (with_reducible refine (wakes_any _).mono ?_)
  rintro e w1 ⟨rfl, hb1⟩
  obtain ⟨x0, x1, x2⟩ := H3.out
  have x0 := cell_stays hb1 x0
  have x1 := cell_stays hb1 x1
  have x2 := cell_stays hb1 x2
  have HB1 := Lib.hid (HB0.out.trans (hb1.mono HB0.out.size))
  have H4 := Lib.hid (And.intro x0 (And.intro x1 x2))
  clear hb1 HB0 H3
  by_cases hn : n ≤ 4096
  · by_cases hnb : nb ≤ 4096
    · have g1 : ¬ ((4096 : Int) < (n : Int)) := by omega
      have g2 : ¬ ((4096 : Int) < (nb : Int)) := by omega
      clear x0 x1
      go_upto_region 5 with fail
      clear x2
      go_wp2_with fail
      go_loopw [7, 8] (fun iv v8 wr => ∃ k : Nat, 3 ≤ k ∧ k ≤ 10 ∧ iv = .int .i64 k ∧ Below w.heap.size w wr ∧ Below w1.heap.size w1 wr) (fun iv _ _ => 10 - (intOf iv).toNat)
      case atStart => exact ⟨3, by omega, by omega, rfl, HB1.out, Below.refl _ _⟩
      case round =>
        obtain ⟨k, k3, k10, rfl, hbw, hb1⟩ := hrel
        by_cases hk : k < 10
        · obtain ⟨x0, x1, x2⟩ := H4.out
          have x0 := cell_stays hb1 x0
          have x1 := cell_stays hb1 x1
          have x2 := cell_stays hb1 x2
          have HKY := Lib.hid (keeps_yes k r c p ⟨by omega, by omega⟩ hp sa ta n nb cs cb x b hn hnb hs' hsb' hx hb wr (hr.below hbw) (hrb.below hbw))
          have HBB := Lib.hid (And.intro hbw hb1)
          have g5 : (k : Int) ≤ 9 := by omega
          have g6 : (3 : Int) ≤ (k : Int) := by omega
          clear hbw hb1
          go_wp2_with fail
          (with_reducible refine HKY.out.mono ?_)
          rintro e w2 ⟨rfl, hb2⟩
          go_wp2_with fail
          go_roundw
          case rel => exact ⟨k + 1, by omega, by omega, by go_num, HBB.out.1.trans (hb2.mono HBB.out.1.size), HBB.out.2.trans (hb2.mono HBB.out.2.size)⟩
          case measure => simp [intOf]; omega
        · obtain rfl : k = 10 := by omega
          go_wp2_with fail
          go_ret
          exact ⟨rfl, hbw⟩
    · have g1 : ¬ ((4096 : Int) < (n : Int)) := by omega
      have g2 : ((4096 : Int) < (nb : Int)) := by omega
      clear x0 x1
      go_wp2_with fail
      go_ret
      exact ⟨rfl, HB1.out⟩
  · have g1 : ((4096 : Int) < (n : Int)) := by omega
    clear x0 x1
    go_wp2_with fail
    go_ret
    exact ⟨rfl, HB1.out⟩
end Go.Proofs.Ytdlpemmoobbgnaa

namespace Go.Proofs.Ytdlpemmoobbgnaa.modpMemory
open Go.ChangeShapes Go.WideShapes Go.ChangeAt Go.RowKit

section
variable {H : Type} {enc : TypeId × Value → H} {w : World} {base : Nat} {spare : Nat → Bool} {held : Bool}
/-- a list with no memory has no room -/
theorem no_room {n : Nat} {v : Value} {y : DataW H × List MemPlace} (h : DataW.trod enc Try.prog w base spare held n 32 [v] = some y) {m c : Nat} (hv : v = .slice none m c) : c = 0 := by
  rcases Go.Deep.open_slice Try.underlying32 h with ⟨e, -⟩ | ⟨a, len, cap, m', n', D, Pl, e, -⟩
  · rw [hv] at e; simp at e; exact e.2
  · rw [hv] at e; simp at e
end
set_option maxRecDepth 100000 in
theorem mat_room {H : Type} {enc : TypeId × Value → H} {w : World} {base : Nat} {spare : Nat → Bool} {held : Bool} {r : Reach} {b0 : Nat} {R C : Int} {s : Value} {d : DataW H} {p : List MemPlace} (hv : Value.okWide Try.prog w r b0 34 (.agg #[.int .i64 R, .int .i64 C, s])) (h : DataW.Trod enc Try.prog w base spare held 34 (.agg #[.int .i64 R, .int .i64 C, s]) d p) {m c : Nat} (hs : s = .slice none m c) : c = 0 := by
  obtain ⟨v0, v1, v2, y0, y1, y2, n, e, -, -, -, -, g2⟩ := Go.Joins.open_agg3 Try.underlying34 (by kernel_rfl) (by kernel_rfl) hv h
  injection e with e
  injection e with e
  injection e with _ e
  injection e with _ e
  injection e with e _
  exact no_room g2 (e ▸ hs)

theorem own : ownKnob Try.prog.godebug = none := by kernel_rfl

set_option maxRecDepth 100000 in
theorem contract (H : Type) (enc : TypeId × Value → H) (W : World) (base : Nat) (args : Array Value) (ds gs : List (DataW H)) (before : List MemPlace)
    (hval : ∀ (j : Nat) t v, Try.f10.params[j]? = some t → args[j]? = some v → Value.okWide Try.prog W .any base t v)
    (hW : DataW.Whole enc Try.prog Try.f10.params.toList Rows.modpMemorySpec.vars false W args.toList ds gs before) (hk : Rows.uptoSmall H (ds ++ gs) = true) :
    Calls Try.prog 10 args W fun e W' => ∃ v, e = .returned v ∧ Rows.modpMemorySpec.post enc Try.prog Try.f10 false true false false W args v W' := by
  have hW' := hW
  have hlt : ∀ x ∈ before, x.block < W.heap.size := fun x hx => hW.lt x hx
  obtain ⟨p, q, hA0, hV, rfl, hfz, hnd⟩ := hW
  have hA : DataW.TrodAll enc Try.prog W 0 (fun _ => true) true Try.f10.params.toList args.toList ds p := hA0
  rw [Try.params10] at hA hval
  obtain ⟨v0, vs0, d0, ds0, p0, q0, hargs, rfl, rfl, h0, r0⟩ := trodAll_cons hA
  obtain ⟨v1, vs1, d1, ds1, p1, q1, rfl, rfl, rfl, h1, r1⟩ := trodAll_cons r0
  obtain ⟨v2, vs2, d2, ds2, p2, q2, rfl, rfl, rfl, h2, r2⟩ := trodAll_cons r1
  obtain ⟨rfl, rfl, rfl⟩ := trodAll_nil r2
  obtain rfl : args = #[v0, v1, v2] := by cases args; simp_all
  obtain ⟨rfl, rfl⟩ := trodVars_none hV
  have h0k := h0
  have h1k := h1
  obtain ⟨P, rfl, rfl, rfl, w2⟩ := open_int Try.underlying22 (hval 2 22 v2 rfl rfl) h2
  clear hA0
  simp only [List.append_nil] at hW' hk hlt
  have hbk : Rows.uptoBulkAll [d0, d1, DataW.lit (.int .u64 P)] ≤ 1048576 := of_decide_eq_true hk
  simp only [Rows.uptoBulkAll] at hbk
  obtain ⟨R, C, s, n, x, rfl, hr, hn, hx, -, -⟩ := open_mat (B := 1048576) (hval 0 34 v0 rfl rfl) h0 (by omega) (by omega)
  obtain ⟨a1, l1, c1, rfl⟩ := okWide_slice Try.underlying32 (hval 1 32 v1 rfl rfl)
  obtain ⟨fuel, h1⟩ := h1
  have h1 : DataW.trod enc Try.prog W 0 (fun _ => true) true fuel 32 [.slice a1 l1 c1] = some (d1, p1) := h1
  obtain ⟨n', x', hr', hn', hx'⟩ := open_list (B := 1048576) h1 (by dsimp only; omega) (by omega)
  refine (Memory_law R C P (bounds_u64 w2).1 s (.slice a1 l1 c1) n n' x x' W hr hr' hx hx' (fun c e => mat_room (hval 0 34 _ rfl rfl) h0 e) (fun c e => no_room h1 e)).mono fun e W' ⟨he, hg⟩ => ?_
  subst he
  refine ⟨_, rfl, post_of_below (pa := p0 ++ (p1 ++ ([] ++ []))) (pv := []) hW' (fun _ _ _ => (trodAll_cons_mk (shut_bool Try.underlying4 _) trodAll_mk0)) (fun sp hsp => (trodAll_cons_mk (WideElems.Trod_stays (P := Try.prog) (by kernel_rfl) (by kernel_rfl) (of_decide_eq_true (by kernel_rfl)) h0k (fun x hx => hg.same (hlt x (by simp [hx]))) (fun x hx => hsp x (by simp [hx]))) (trodAll_cons_mk (WideElems.Trod_stays (P := Try.prog) (by kernel_rfl) (by kernel_rfl) (of_decide_eq_true (by kernel_rfl)) h1k (fun x hx => hg.same (hlt x (by simp [hx]))) (fun x hx => hsp x (by simp [hx]))) (trodAll_cons_mk (shut_int Try.underlying22 w2) trodAll_mk0)))) (fun _ _ => rfl) (by simp)
    hg (ok_one (by kernel_rfl) rfl (okWide_bool_mk Try.underlying4 _))⟩

set_option maxRecDepth 100000 in
theorem lifted (os : Os) (started : os.Started) (H : Type) (enc : TypeId × Value → H) (F : Stop.Interp) :
    ReturnsInHanded {} Try.checked os 10 .any ((Rows.OpenSpec.upto Rows.modpMemorySpec).pre6 enc Try.prog Try.f10 Rows.modpMemoryUptoRow.domain false) (((Rows.OpenSpec.upto Rows.modpMemorySpec).at F).post enc Try.prog Try.f10 false true false false) := by
  refine returnsInHanded_of_cond (C := Try.checked) (s := Rows.OpenSpec.upto Rows.modpMemorySpec) (k := Rows.uptoSmall) rfl own started (by kernel_rfl) Try.func10
    (OpenSpec.witness (enc := enc) (C := Try.checked) (s := Rows.OpenSpec.upto Rows.modpMemorySpec) (k := Rows.uptoSmall) rfl false ⟨#[], #[.agg #[.int .i64 0, .int .i64 0, .slice none 0 0], .slice none 0 0, .int .u64 0], []⟩ 8 (by kernel_rfl) (by kernel_rfl) (by kernel_rfl)
      (x := ([.agg [.lit (.int .i64 0), .lit (.int .i64 0), .nil], .nil, .lit (.int .u64 0)], [], [])) (by kernel_rfl) rfl (by kernel_rfl)) ?_
  intro W base args ds gs before hval hW _ hk _
  exact contract H enc W base args ds gs before hval hW hk

/-- the statement -/
theorem proved : Rows.ModpMemoryUptoSaid :=
  OpenClaim.holds_of_cond 10 Try.f10 rfl rfl rfl rfl rfl rfl rfl ⟨rfl, rfl, rfl, rfl, rfl⟩ rfl rfl rfl rfl rfl (by kernel_rfl) Try.func10 (by kernel_rfl)
    (of_decide_eq_true (by kernel_rfl)) (by unfold Func.isWrapper; first | (rw [if_pos (by decide +kernel)]; kernel_rfl) | (rw [if_neg (by decide +kernel)]; exact ⟨rfl, rfl⟩))
    (fun os started H enc _ F => lifted os started H enc F)
#print axioms proved
end Go.Proofs.Ytdlpemmoobbgnaa.modpMemory
