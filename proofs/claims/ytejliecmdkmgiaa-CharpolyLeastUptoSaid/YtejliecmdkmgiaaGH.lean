/- The walk of bareiss.run, by what stands behind each step. The walk of bareiss.Det where the matrix is sound and square. The walks of bareiss.Pivots, Rank, RowSet; Det where it refuses. The walks of bareiss.Pivots, Rank, RowSet, Det where the matrix is not sound, and of Rank and RowSet where it is. The walks of the law's helpers: upto, rising, below; trellisref01.Same where it answers yes. The walk of the law's awake; an argument's matrix in the readings of the layer. An answer laid into a new box, whenever the box is made. What the bound on the bulk gives (turned out of the guide's small lemmas), and an argument that is a matrix, opened. The row's last step where 'Below' alone is known of what the call leaves (turned out of the guide's small lemmas). -/
import Derived.Test.YtejliecmdkmgiaaGG
import Derived.Test.YtejliecmdkmgiaaGF
import Derived.Test.YtejliecmdkmgiaaRows
import Derived.Test.YtejliecmdkmgiaaGA
import Derived.ProofKit
import Derived.OpenShut
import Derived.Deep.Slices
import Derived.Lib.SmallJoins
import Derived.Below
import Derived.ChangeSame
set_option linter.unusedVariables false
set_option linter.unusedSimpArgs false
namespace Go.Proofs.Ytejliecmdkmgiaa
open Go.RowKit

/-- c columns are done, k pivots taken, in the columns P -/
def RunS (X : Nat → Prop) (base N fb m C S : Nat) (A : Nat → Nat → Int) (rs ns : Value) (c k : Nat) (P : Nat → Nat) (W : World) : Prop :=
  ∃ B σ G last tn, Fl X W base fb m C B G tn last k rs ns ∧ BrZ m C k c P σ A G last tn ∧ ∀ b, DF fb m B rs ns b → b < N

section
variable {X : Nat → Prop} {base N fb m C S c k : Nat} {A : Nat → Nat → Int} {rs ns : Value} {P : Nat → Nat} {W W' : World}
theorem RunS.others {X' : Nat → Prop} (h : RunS X base N fb m C S A rs ns c k P W) {r : Option Nat} (hg : W.grownBy W' r) (hr : ∀ d, r = some d → X d ∧ N ≤ d) (hx : ∀ b, X' b → X b ∨ W.heap.size ≤ b) (hl : ∀ b, X' b → b < W'.heap.size) : RunS X' base N fb m C S A rs ns c k P W' := by
  obtain ⟨B, σ, G, last, tn, h1, h2, h3⟩ := h
  exact ⟨B, σ, G, last, tn, h1.others hg (fun d e => ⟨(hr d e).1, fun hd => by have := h3 d hd; have := (hr d e).2; omega⟩) hx hl, h2, h3⟩
end

end Go.Proofs.Ytejliecmdkmgiaa

namespace Go.Proofs.Ytejliecmdkmgiaa
open Go.RowKit

theorem frz_nil (w : World) (base : Nat) : FrZ w base (.agg #[.bool false, .slice none 0 0]) 0 :=
  ⟨.slice none 0 0, 0, fun _ => 0, rfl, Or.inl ⟨rfl, rfl⟩, ⟨fun i h => absurd h (by omega), fun h => absurd h (by omega), rfl⟩⟩

/-- an answer stored in its box -/
theorem det_fin {w w3 : World} {b base : Nat} {v : Value} {z : Int} (hf : FrZ w3 base v z) (hb : b < base) (h0 : w.heap.size ≤ b) (hB : Below w.heap.size w w3) :
    ∃ a n c, v = .agg #[.bool (decide (z < 0)), .slice a n c] ∧ FrZ (stored2 w3 b (.bool (decide (z < 0))) (.slice a n c)) w.heap.size v z ∧ Below w.heap.size w (stored2 w3 b (.bool (decide (z < 0))) (.slice a n c)) := by
  obtain ⟨a, n, c, rfl, h⟩ := (hf.mono (show b + 1 ≤ base by omega)).stored
  exact ⟨a, n, c, rfl, h.mono h0, hB.grown (stored2_gb w3 b _ _) hB.size (fun k hk => by injection hk with hk; omega)⟩

end Go.Proofs.Ytejliecmdkmgiaa

namespace Go.Proofs.Ytejliecmdkmgiaa
open Go.RowKit

theorem below_keep {B : Nat} {w w' : World} (h : Below B w w') {b i : Nat} {u : Value} (hb : b < B) (hu : w.cell? ⟨b, i, none⟩ = some u) : w'.cell? ⟨b, i, none⟩ = some u := by rw [h.cell hb]; exact hu
end Go.Proofs.Ytejliecmdkmgiaa

namespace Go.Proofs.Ytejliecmdkmgiaa
open Go.RowKit

end Go.Proofs.Ytejliecmdkmgiaa

namespace Go.Proofs.Ytejliecmdkmgiaa
open Go.RowKit

theorem RdI64.below {w w' : World} {v : Value} {n : Nat} {f : Nat → Nat} (h : RdI64 w v n f) (hb : Below w.heap.size w w') : RdI64 w' v n f := RdA.below h hb
set_option maxHeartbeats 1000000 in
set_option maxRecDepth 100000 in
theorem Same_yes (x y : Value) (n : Nat) (f g : Nat → Int) (w : World) (hx : RdA .u64 w x n f) (hy : RdA .u64 w y n g) (hfg : ∀ i, i < n → f i = g i) :
    Calls Try.prog 84 #[x, y] w fun e w' => e = .returned (.bool true) ∧ Below w.heap.size w w' := by
  obtain ⟨a, cap, rfl, h1, h2, h3⟩ := wd_get hx
  obtain ⟨b, cap', rfl, g1, g2, g3⟩ := wd_get hy
  have H3 := Lib.hid h3
  have G3 : Hid (∀ i, i < n → ∃ b' o, b = some ⟨b', o, none⟩ ∧ w.cell? ⟨b', o + i, none⟩ = some (.int .u64 (f i))) := fun i hi => by rw [hfg i hi]; exact g3 i hi
  clear h3 g3 hx hy hfg
  go_enter Try.func84, Try.ntmps84
  go_wp2_with fail
  go_loopw [5] (fun kv wr => ∃ k : Nat, k ≤ n ∧ kv = .int .i64 k ∧ Below w.heap.size w wr) (fun kv _ => n - (intOf kv).toNat)
  case atStart => exact ⟨0, Nat.zero_le _, rfl, Below.refl _ _⟩
  case round =>
    obtain ⟨k, k1, rfl, hb⟩ := hrel
    by_cases hk : k < n
    · obtain ⟨b1, o1, rfl, hc⟩ := H3.out k hk
      obtain ⟨b2, o2, rfl, hd⟩ := G3.out k hk
      have hc := cell_stays hb hc
      have hd := cell_stays hb hd
      generalize f k = u at hc hd
      go_wp2_with fail
      go_region
      all_goals
        go_wp2_with fail
        go_roundw
        case rel => exact ⟨k + 1, by omega, by go_num, hb.drew⟩
        case measure => simp [intOf]; omega
    · go_wp2_with fail
      go_ret
      exact ⟨rfl, hb⟩
end Go.Proofs.Ytejliecmdkmgiaa

namespace Go.Proofs.Ytejliecmdkmgiaa
open Go.RowKit

/-- a number of one word -/
theorem rdz_word (w : World) (b : Nat) (n : Int) (h0 : 0 ≤ n) (h1 : n ≤ 18446744073709551615) (hc : w.cell? ⟨b, 0, none⟩ = some (.int .u64 n)) : RdZ w (.agg #[.bool false, .slice (some ⟨b, 0, none⟩) 1 1]) n := by
  refine ⟨⟨false, 1, fun _ => n⟩, ⟨_, rfl, ⟨_, 1, rfl, Nat.le_refl _, (by decide : (1 : Nat) ≤ 17592186044416), fun _ => ⟨b, 0, rfl, fun j hj => ?_⟩⟩, fun i _ => ⟨h0, h1⟩⟩, ?_, (by decide : (1 : Nat) ≤ 274877906944)⟩
  · obtain rfl : j = 0 := by have : j < 1 := hj; omega
    exact hc
  · show (n + 18446744073709551616 * 0 : Int) = n
    omega

/-- an argument's list, in the readings of the layer -/
theorem RdL.rde {w : World} {v : Value} {n : Nat} {x : Nat → Raw} (h : RdL w v n x) (hn : n ≤ 1048576) (hx : ∀ i, i < n → (x i).n ≤ 274877906944) : RdE w v n (fun i => (x i).val) := by
  obtain ⟨a, cap, rfl, h1, h2, h3⟩ := h
  refine ⟨a, cap, rfl, h1, hn, fun h0 => ?_⟩
  obtain ⟨b, o, e, h4⟩ := h3 h0
  exact ⟨b, o, e, fun i hi => by
    obtain ⟨m, c1, c2, c3⟩ := h4 i hi
    exact ⟨(x i).neg, m, c1, c2, x i, ⟨m, rfl, c3⟩, rfl, hx i hi⟩⟩
theorem RdL.zbs {w : World} {v : Value} {n : Nat} {x : Nat → Raw} {S : Nat} (h : RdL w v n x) (hx : ∀ i, i < n → (x i).n ≤ S) : ∀ i, i < n → ZB S (x i).val := fun i hi => by
  obtain ⟨a, cap, rfl, h1, h2, h3⟩ := h
  obtain ⟨b, o, e, h4⟩ := h3 (by omega)
  obtain ⟨m, c1, c2, c3⟩ := h4 i hi
  exact (RdI.zb ⟨m, rfl, c3⟩).mono (hx i hi)
/-- a matrix that is checked: sound, or not -/
theorem check_cases (r c : Int) (n : Nat) : checkE r c n = 1 ∨ ∃ R C : Nat, r = R ∧ c = C ∧ R ≤ 64 ∧ C ≤ 64 ∧ n = R * C := by
  unfold checkE
  by_cases h : soundB r c n = true
  · obtain ⟨⟨a1, a2⟩, ⟨b1, b2⟩, e⟩ := soundB_yes h
    obtain ⟨R, rfl⟩ := Int.eq_ofNat_of_zero_le a1
    obtain ⟨C, rfl⟩ := Int.eq_ofNat_of_zero_le b1
    exact Or.inr ⟨R, C, rfl, rfl, by omega, by omega, by exact_mod_cast e⟩
  · exact Or.inl (if_neg h)
end Go.Proofs.Ytejliecmdkmgiaa

namespace Go.Proofs.Ytejliecmdkmgiaa
open Go.RowKit

theorem bl_drew (w : World) : Below w.heap.size w w.drew := (Below.refl _ _).drew
theorem bl_alloc (w : World) (o : Obj) : Below w.heap.size w (w.alloc o) := (Below.refl _ _).alloc (Nat.le_refl _) _
theorem below_via {w u w' : World} (h : Below w.heap.size w u) (b : Below u.heap.size u w') : Below w.heap.size w w' := h.trans (b.mono h.size)

section
variable {w0 w7 : World} {base lb n : Nat} {E : Nat → Int}
end
end Go.Proofs.Ytejliecmdkmgiaa

namespace Go.Proofs.Ytejliecmdkmgiaa
open Go.RowKit Go.ChangeShapes Go.WideShapes Go.Deep Go.Joins

theorem bulk_part {H : Type} {d : DataW H} {l : List (DataW H)} (h : d ∈ l) : Rows.uptoBulk d ≤ Rows.uptoBulkAll l := by
  induction l with
  | nil => cases h
  | cons x r ih =>
    simp only [Rows.uptoBulkAll]
    cases List.mem_cons.1 h with
    | inl e => subst e; omega
    | inr e => have := ih e; omega
theorem bulk_one {H : Type} (d : DataW H) : 1 ≤ Rows.uptoBulk d := by
  cases d with
  | lit l => cases l <;> simp [Rows.uptoBulk]
  | nil => simp [Rows.uptoBulk]
  | ptr d => simp [Rows.uptoBulk]
  | slice elems spare => simp [Rows.uptoBulk]
  | agg parts => simp [Rows.uptoBulk]
  | iface t d => simp [Rows.uptoBulk]
  | map entries => simp [Rows.uptoBulk]
  | held h => simp [Rows.uptoBulk]
theorem bulk_length {H : Type} (l : List (DataW H)) : l.length ≤ Rows.uptoBulkAll l := by
  induction l with
  | nil => simp
  | cons x r ih => have := bulk_one x; simp only [Rows.uptoBulkAll, List.length_cons]; omega
/-- a slice of so many elements, each of so much -/
theorem bulk_row {H : Type} (n : Nat) (D : Nat → DataW H) (s : List (DataW H)) {B : Nat} (h : Rows.uptoBulk (.slice ((List.range n).map D) s) ≤ B) : n ≤ B ∧ ∀ i, i < n → Rows.uptoBulk (D i) ≤ B := by
  simp only [Rows.uptoBulk] at h
  have h1 := bulk_length ((List.range n).map D)
  rw [List.length_map, List.length_range] at h1
  refine ⟨by omega, fun i hi => ?_⟩
  have := bulk_part (List.mem_map.2 ⟨i, List.mem_range.2 hi, rfl⟩ : D i ∈ (List.range n).map D)
  omega

section
variable {H : Type} {enc : TypeId × Value → H} {w : World} {base : Nat} {spare : Nat → Bool} {held : Bool}

theorem add_none (b o i : Nat) : (⟨b, o, none⟩ : Addr).add i = ⟨b, o + i, none⟩ := by
  unfold Addr.add; split <;> simp_all

theorem open_words {n : Nat} {v : Value} {y : DataW H × List MemPlace} {B : Nat} (h : DataW.trod enc Try.prog w base spare held n 47 [v] = some y) (hB : Rows.uptoBulk y.1 ≤ B) (hB4 : B ≤ 4398046511104) :
    ∃ m f, RdW w v m f ∧ m ≤ B := by
  rcases open_slice1 Try.underlying47 (by kernel_rfl) h with ⟨e, -⟩ | ⟨a, len, cap, m, n', V, D, Pl, e, hb, hl, hm, hmm, hx, hc⟩
  · obtain rfl : v = .slice none 0 0 := by simpa using e
    exact ⟨0, fun _ => 0, ⟨⟨none, 0, rfl, Nat.le_refl _, Nat.zero_le _, fun h => absurd h (by omega)⟩, fun i hi => absurd hi (by omega)⟩, Nat.zero_le _⟩
  · obtain rfl : v = .slice (some a) len cap := by simpa using e
    subst hx
    have hlb := (bulk_row len D _ hB).1
    have hlm : len ≤ m := by rw [hmm]; split <;> omega
    have hv : ∀ i, i < len → ∃ z : Int, w.cell? (a.add i) = some (.int .u64 z) ∧ 0 ≤ z ∧ z ≤ 18446744073709551615 := fun i hi => by
      obtain ⟨h1, h2⟩ := hc i (by omega)
      obtain ⟨z, e1, -, hw⟩ := DataW.trod_int Try.underlying62 h2
      have e2 : V i = .int .u64 z := by simpa using e1
      rw [e2] at h1
      exact ⟨z, h1, bounds_u64 hw⟩
    obtain ⟨f, hf⟩ := choose_lt (α := Int) (p := fun i z => w.cell? (a.add i) = some (.int .u64 z) ∧ 0 ≤ z ∧ z ≤ 18446744073709551615) hv
    refine ⟨len, f, ⟨⟨some a, cap, rfl, hl, by omega, fun h0 => ?_⟩, fun i hi => (hf i hi).2⟩, hlb⟩
    obtain ⟨b, o, sp⟩ := a
    obtain rfl : sp = none := World.cell?_spot (hf 0 h0).1
    exact ⟨b, o, rfl, fun i hi => by have := (hf i hi).1; rw [add_none] at this; exact this⟩

instance rawB : Inhabited Raw := ⟨⟨false, 0, fun _ => 0⟩⟩

set_option maxRecDepth 100000 in
theorem open_list {n : Nat} {v : Value} {y : DataW H × List MemPlace} {B : Nat} (h : DataW.trod enc Try.prog w base spare held n 22 [v] = some y) (hB : Rows.uptoBulk y.1 ≤ B) (hB4 : B ≤ 4398046511104) :
    ∃ m x, RdL w v m x ∧ m ≤ B ∧ ∀ i, i < m → (x i).n ≤ B := by
  have hC : Try.prog.cellsOf 49 = 2 := by kernel_rfl
  rcases open_slice Try.underlying22 h with ⟨e, -⟩ | ⟨a, len, cap, m, n', D, Pl, e, hb, hl, hm, hmm, hx, hc⟩
  · obtain rfl : v = .slice none 0 0 := by simpa using e
    exact ⟨0, fun _ => ⟨false, 0, fun _ => 0⟩, ⟨none, 0, rfl, Nat.le_refl _, Nat.zero_le _, fun h => absurd h (by omega)⟩, Nat.zero_le _, fun i hi => absurd hi (by omega)⟩
  · obtain rfl : v = .slice (some a) len cap := by simpa using e
    subst hx
    rw [hC] at hc
    obtain ⟨hlb, hpb⟩ := bulk_row len D _ hB
    have hlm : len ≤ m := by rw [hmm]; split <;> omega
    have hv : ∀ i, i < len → ∃ r : Raw, (∃ mv, w.cell? (a.add (i * 2)) = some (.bool r.neg) ∧ w.cell? ((a.add (i * 2)).add 1) = some mv ∧ RdW w mv r.n r.f) ∧ r.n ≤ B := fun i hi => by
      obtain ⟨cs', h1, h2⟩ := hc i (by omega)
      obtain ⟨-, hcl, hat⟩ := World.cells?_some h1
      obtain ⟨y0, y1, n2, hx, -, g0, g1⟩ := trod_struct2 Try.underlying49 h2
      match cs', hcl with
      | [c0, c1], _ =>
        have q0 := hat 0 (by omega)
        have q1 := hat 1 (by omega)
        have hcb : Try.prog.cellsOf 4 = 1 := by kernel_rfl
        have hcw : Try.prog.cellsOf 47 = 1 := by kernel_rfl
        have g0 : DataW.trod enc Try.prog w base spare held n2 4 (List.take (Try.prog.cellsOf 4) [c0, c1]) = some y0 := g0
        have g1 : DataW.trod enc Try.prog w base spare held n2 47 (List.take (Try.prog.cellsOf 47) [c1]) = some y1 := g1
        rw [hcb] at g0
        rw [hcw] at g1
        have g0 : DataW.trod enc Try.prog w base spare held n2 4 [c0] = some y0 := g0
        have g1 : DataW.trod enc Try.prog w base spare held n2 47 [c1] = some y1 := g1
        obtain ⟨b, e1, -⟩ := DataW.trod_bool Try.underlying4 g0
        have e2 : c0 = .bool b := by simpa using e1
        have hpi := hpb i hi
        have e3 : D i = .agg [y0.1, y1.1] := congrArg Prod.fst hx
        rw [e3] at hpi
        simp only [Rows.uptoBulk, Rows.uptoBulkAll] at hpi
        obtain ⟨mm, f, hw, hmb⟩ := open_words (B := B) g1 (by omega) hB4
        refine ⟨⟨b, mm, f⟩, ⟨c1, ?_, q1, hw⟩, hmb⟩
        rw [← e2]; exact q0
    obtain ⟨x, hx⟩ := choose_lt (α := Raw) (h := hv)
    refine ⟨len, x, ⟨some a, cap, rfl, hl, by omega, fun h0 => ?_⟩, hlb, fun i hi => (hx i hi).2⟩
    obtain ⟨b, o, sp⟩ := a
    obtain ⟨⟨m0, c0, -⟩, -⟩ := hx 0 h0
    obtain rfl : sp = none := by simpa [Addr.add] using World.cell?_spot c0
    refine ⟨b, o, rfl, fun i hi => ?_⟩
    obtain ⟨⟨mi, k0, k1, k2⟩, -⟩ := hx i hi
    refine ⟨mi, ?_, ?_, k2⟩
    · rw [add_none] at k0; exact k0
    · rw [Go.Deep.add_add, add_none] at k1; exact k1

set_option maxRecDepth 100000 in
/-- an argument that is a matrix -/
theorem open_mat {r : Reach} {b0 : Nat} {v : Value} {d : DataW H} {p : List MemPlace} {B : Nat} (hv : Value.okWide Try.prog w r b0 24 v) (h : DataW.Trod enc Try.prog w base spare held 24 v d p) (hB : Rows.uptoBulk d ≤ B) (hB4 : B ≤ 4398046511104) :
    ∃ (R C : Int) (s : Value) (n : Nat) (x : Nat → Raw), v = .agg #[.int .i64 R, .int .i64 C, s] ∧ RdL w s n x ∧ n ≤ B ∧ (∀ i, i < n → (x i).n ≤ B) ∧ (-9223372036854775808 ≤ R ∧ R ≤ 9223372036854775807) ∧ (-9223372036854775808 ≤ C ∧ C ≤ 9223372036854775807) := by
  obtain ⟨v0, v1, v2, y0, y1, y2, n, rfl, rfl, -, g0, g1, g2⟩ := open_agg3 Try.underlying24 (by kernel_rfl) (by kernel_rfl) hv h
  obtain ⟨R, e0, -, w0⟩ := DataW.trod_int Try.underlying3 g0
  obtain ⟨C, e1, -, w1⟩ := DataW.trod_int Try.underlying3 g1
  obtain rfl : v0 = .int .i64 R := by simpa using e0
  obtain rfl : v1 = .int .i64 C := by simpa using e1
  simp only [Rows.uptoBulk, Rows.uptoBulkAll] at hB
  obtain ⟨m, x, hr, h1, h2⟩ := open_list (B := B) g2 (by omega) hB4
  refine ⟨R, C, v2, m, x, rfl, hr, h1, h2, ?_, ?_⟩
  · simp [Lit.wf, IntKind.min, IntKind.max, IntKind.signed, IntKind.bits] at w0; omega
  · simp [Lit.wf, IntKind.min, IntKind.max, IntKind.signed, IntKind.bits] at w1; omega
end
end Go.Proofs.Ytejliecmdkmgiaa

namespace Go.Proofs.Ytejliecmdkmgiaa
open Go.RowKit Go.WideShapes Go.ChangeShapes
section
variable {H : Type} {enc : TypeId × Value → H} {P : Program}
theorem post_of_below {f : Func} {s : ChangeSpec} {apart fresh handsOn again : Bool} {W W' : World} {args : Array Value} {v : Value} {ds gs : List (DataW H)} {before pa pv : List MemPlace}
    (hW : DataW.Whole enc P f.params.toList s.vars apart W args.toList ds gs before)
    (hres : ∀ (b : Nat) (sp : Nat → Bool) (hd : Bool), DataW.TrodAll enc P W' b sp hd f.resultTypes.toList (v.resultList f.resultTypes.size) (s.fn H (ds ++ gs)).results [])
    (hargs : ∀ sp : Nat → Bool, (∀ p ∈ before, sp p.block = true) → DataW.TrodAll enc P W' 0 sp true f.params.toList args.toList (s.fn H (ds ++ gs)).args pa)
    (hvars : ∀ sp : Nat → Bool, (∀ p ∈ before, sp p.block = true) → DataW.TrodVars enc P W' sp s.vars (s.fn H (ds ++ gs)).vars pv)
    (hps : before = pa ++ pv) (hb : Below W.heap.size W W')
    (hok : ∀ (j : Nat) (t : TypeId) (r : Value), f.resultTypes[j]? = some t → (v.resultList f.resultTypes.size)[j]? = some r → Value.okWide P W' .any 0 t r) :
    s.post enc P f apart fresh handsOn again W args v W' := by
  have hlt : ∀ p ∈ before, p.block < W.heap.size := fun p hp => hW.lt p hp
  have hold : ∀ p ∈ before, (fun b => decide (b < W.heap.size)) p.block = true := fun p hp => by simpa using hlt p hp
  refine ⟨ds, gs, before, [], pa, pv, hW, hres _ _ _, hargs _ hold, hvars _ hold, World.keptBut_mono (fun p hp => ⟨hp, ?_⟩) (hb.frame (· ∈ before)), fun _ => ?_⟩
  · rw [hps, List.mem_append] at hp
    exact Or.inr hp
  · obtain ⟨_, _, _, _, _, hz, hn⟩ := hW
    refine ⟨hok, _, _, ([] ++ pa) ++ pv, ⟨[] ++ pa, pv, trodAll_append (hargs _ (fun _ _ => rfl)) (hres _ _ _), hvars _ (fun _ _ => rfl), rfl, ?_, ?_⟩, ?_⟩
    · intro b off hp
      have hin : MemPlace.cell b off ∈ before := by rw [hps]; simpa using hp
      rw [hb.frozen (hlt _ hin)]
      exact hz b off hin
    · intro ha
      have := hn ha
      rw [hps] at this
      simpa using this
    · intro p hp _
      rw [hps]
      simpa using hp
end
end Go.Proofs.Ytejliecmdkmgiaa
