/- What the bound on the bulk gives (turned out of the guide's small lemmas), and an argument that is a matrix, opened. -/
import Derived.Test.YtdlpemmoobbgnaaRows
import Derived.Test.YtdlpemmoobbgnaaMem
import Derived.ProofKit
import Derived.OpenShut
import Derived.Deep.Slices
import Derived.Lib.SmallJoins
set_option linter.unusedVariables false
set_option linter.unusedSimpArgs false
namespace Go.Proofs.Ytdlpemmoobbgnaa
open Go.RowKit Go.ChangeShapes Go.WideShapes Go.Deep Go.Joins

theorem bulk_part {H : Type} {d : DataW H} {l : List (DataW H)} (h : d ∈ l) : Rows.uptoBulk d ≤ Rows.uptoBulkAll l := by
  induction l with
  | nil => cases h
  | cons x r ih =>
    simp only [Rows.uptoBulkAll]
    cases List.mem_cons.1 h with
    | inl e => subst e; omega
    | inr e => have := ih e; omega
theorem bulk_one {H : Type} (d : DataW H) : 1 ≤ Rows.uptoBulk d := by
  cases d with
  | lit l => cases l <;> simp [Rows.uptoBulk]
  | nil => simp [Rows.uptoBulk]
  | ptr d => simp [Rows.uptoBulk]
  | slice elems spare => simp [Rows.uptoBulk]
  | agg parts => simp [Rows.uptoBulk]
  | iface t d => simp [Rows.uptoBulk]
  | map entries => simp [Rows.uptoBulk]
  | held h => simp [Rows.uptoBulk]
theorem bulk_length {H : Type} (l : List (DataW H)) : l.length ≤ Rows.uptoBulkAll l := by
  induction l with
  | nil => simp
  | cons x r ih => have := bulk_one x; simp only [Rows.uptoBulkAll, List.length_cons]; omega
/-- a slice of so many elements, each of so much -/
theorem bulk_row {H : Type} (n : Nat) (D : Nat → DataW H) (s : List (DataW H)) {B : Nat} (h : Rows.uptoBulk (.slice ((List.range n).map D) s) ≤ B) : n ≤ B ∧ ∀ i, i < n → Rows.uptoBulk (D i) ≤ B := by
  simp only [Rows.uptoBulk] at h
  have h1 := bulk_length ((List.range n).map D)
  rw [List.length_map, List.length_range] at h1
  refine ⟨by omega, fun i hi => ?_⟩
  have := bulk_part (List.mem_map.2 ⟨i, List.mem_range.2 hi, rfl⟩ : D i ∈ (List.range n).map D)
  omega

section
variable {H : Type} {enc : TypeId × Value → H} {w : World} {base : Nat} {spare : Nat → Bool} {held : Bool}

theorem add_none (b o i : Nat) : (⟨b, o, none⟩ : Addr).add i = ⟨b, o + i, none⟩ := by
  unfold Addr.add; split <;> simp_all

theorem open_words {n : Nat} {v : Value} {y : DataW H × List MemPlace} {B : Nat} (h : DataW.trod enc Try.prog w base spare held n 54 [v] = some y) (hB : Rows.uptoBulk y.1 ≤ B) (hB4 : B ≤ 4398046511104) :
    ∃ m f, RdW w v m f ∧ m ≤ B := by
  rcases open_slice1 Try.underlying54 (by kernel_rfl) h with ⟨e, -⟩ | ⟨a, len, cap, m, n', V, D, Pl, e, hb, hl, hm, hmm, hx, hc⟩
  · obtain rfl : v = .slice none 0 0 := by simpa using e
    exact ⟨0, fun _ => 0, ⟨⟨none, 0, rfl, Nat.le_refl _, Nat.zero_le _, fun h => absurd h (by omega)⟩, fun i hi => absurd hi (by omega)⟩, Nat.zero_le _⟩
  · obtain rfl : v = .slice (some a) len cap := by simpa using e
    subst hx
    have hlb := (bulk_row len D _ hB).1
    have hlm : len ≤ m := by rw [hmm]; split <;> omega
    have hv : ∀ i, i < len → ∃ z : Int, w.cell? (a.add i) = some (.int .u64 z) ∧ 0 ≤ z ∧ z ≤ 18446744073709551615 := fun i hi => by
      obtain ⟨h1, h2⟩ := hc i (by omega)
      obtain ⟨z, e1, -, hw⟩ := DataW.trod_int Try.underlying22 h2
      have e2 : V i = .int .u64 z := by simpa using e1
      rw [e2] at h1
      exact ⟨z, h1, bounds_u64 hw⟩
    obtain ⟨f, hf⟩ := choose_lt (α := Int) (p := fun i z => w.cell? (a.add i) = some (.int .u64 z) ∧ 0 ≤ z ∧ z ≤ 18446744073709551615) hv
    refine ⟨len, f, ⟨⟨some a, cap, rfl, hl, by omega, fun h0 => ?_⟩, fun i hi => (hf i hi).2⟩, hlb⟩
    obtain ⟨b, o, sp⟩ := a
    obtain rfl : sp = none := World.cell?_spot (hf 0 h0).1
    exact ⟨b, o, rfl, fun i hi => by have := (hf i hi).1; rw [add_none] at this; exact this⟩

instance : Inhabited Raw := ⟨⟨false, 0, fun _ => 0⟩⟩

set_option maxRecDepth 100000 in
theorem open_list {n : Nat} {v : Value} {y : DataW H × List MemPlace} {B : Nat} (h : DataW.trod enc Try.prog w base spare held n 32 [v] = some y) (hB : Rows.uptoBulk y.1 ≤ B) (hB4 : B ≤ 4398046511104) :
    ∃ m x, RdL w v m x ∧ m ≤ B ∧ ∀ i, i < m → (x i).n ≤ B := by
  have hC : Try.prog.cellsOf 56 = 2 := by kernel_rfl
  rcases open_slice Try.underlying32 h with ⟨e, -⟩ | ⟨a, len, cap, m, n', D, Pl, e, hb, hl, hm, hmm, hx, hc⟩
  · obtain rfl : v = .slice none 0 0 := by simpa using e
    exact ⟨0, fun _ => ⟨false, 0, fun _ => 0⟩, ⟨none, 0, rfl, Nat.le_refl _, Nat.zero_le _, fun h => absurd h (by omega)⟩, Nat.zero_le _, fun i hi => absurd hi (by omega)⟩
  · obtain rfl : v = .slice (some a) len cap := by simpa using e
    subst hx
    rw [hC] at hc
    obtain ⟨hlb, hpb⟩ := bulk_row len D _ hB
    have hlm : len ≤ m := by rw [hmm]; split <;> omega
    have hv : ∀ i, i < len → ∃ r : Raw, (∃ mv, w.cell? (a.add (i * 2)) = some (.bool r.neg) ∧ w.cell? ((a.add (i * 2)).add 1) = some mv ∧ RdW w mv r.n r.f) ∧ r.n ≤ B := fun i hi => by
      obtain ⟨cs', h1, h2⟩ := hc i (by omega)
      obtain ⟨-, hcl, hat⟩ := World.cells?_some h1
      obtain ⟨y0, y1, n2, hx, -, g0, g1⟩ := trod_struct2 Try.underlying56 h2
      match cs', hcl with
      | [c0, c1], _ =>
        have q0 := hat 0 (by omega)
        have q1 := hat 1 (by omega)
        have hcb : Try.prog.cellsOf 4 = 1 := by kernel_rfl
        have hcw : Try.prog.cellsOf 54 = 1 := by kernel_rfl
        have g0 : DataW.trod enc Try.prog w base spare held n2 4 (List.take (Try.prog.cellsOf 4) [c0, c1]) = some y0 := g0
        have g1 : DataW.trod enc Try.prog w base spare held n2 54 (List.take (Try.prog.cellsOf 54) [c1]) = some y1 := g1
        rw [hcb] at g0
        rw [hcw] at g1
        have g0 : DataW.trod enc Try.prog w base spare held n2 4 [c0] = some y0 := g0
        have g1 : DataW.trod enc Try.prog w base spare held n2 54 [c1] = some y1 := g1
        obtain ⟨b, e1, -⟩ := DataW.trod_bool Try.underlying4 g0
        have e2 : c0 = .bool b := by simpa using e1
        have hpi := hpb i hi
        have e3 : D i = .agg [y0.1, y1.1] := congrArg Prod.fst hx
        rw [e3] at hpi
        simp only [Rows.uptoBulk, Rows.uptoBulkAll] at hpi
        obtain ⟨mm, f, hw, hmb⟩ := open_words (B := B) g1 (by omega) hB4
        refine ⟨⟨b, mm, f⟩, ⟨c1, ?_, q1, hw⟩, hmb⟩
        rw [← e2]; exact q0
    obtain ⟨x, hx⟩ := choose_lt (α := Raw) (h := hv)
    refine ⟨len, x, ⟨some a, cap, rfl, hl, by omega, fun h0 => ?_⟩, hlb, fun i hi => (hx i hi).2⟩
    obtain ⟨b, o, sp⟩ := a
    obtain ⟨⟨m0, c0, -⟩, -⟩ := hx 0 h0
    obtain rfl : sp = none := by simpa [Addr.add] using World.cell?_spot c0
    refine ⟨b, o, rfl, fun i hi => ?_⟩
    obtain ⟨⟨mi, k0, k1, k2⟩, -⟩ := hx i hi
    refine ⟨mi, ?_, ?_, k2⟩
    · rw [add_none] at k0; exact k0
    · rw [Go.Deep.add_add, add_none] at k1; exact k1

set_option maxRecDepth 100000 in
/-- an argument that is a matrix -/
theorem open_mat {r : Reach} {b0 : Nat} {v : Value} {d : DataW H} {p : List MemPlace} {B : Nat} (hv : Value.okWide Try.prog w r b0 34 v) (h : DataW.Trod enc Try.prog w base spare held 34 v d p) (hB : Rows.uptoBulk d ≤ B) (hB4 : B ≤ 4398046511104) :
    ∃ (R C : Int) (s : Value) (n : Nat) (x : Nat → Raw), v = .agg #[.int .i64 R, .int .i64 C, s] ∧ RdL w s n x ∧ n ≤ B ∧ (∀ i, i < n → (x i).n ≤ B) ∧ (-9223372036854775808 ≤ R ∧ R ≤ 9223372036854775807) ∧ (-9223372036854775808 ≤ C ∧ C ≤ 9223372036854775807) := by
  obtain ⟨v0, v1, v2, y0, y1, y2, n, rfl, rfl, -, g0, g1, g2⟩ := open_agg3 Try.underlying34 (by kernel_rfl) (by kernel_rfl) hv h
  obtain ⟨R, e0, -, w0⟩ := DataW.trod_int Try.underlying3 g0
  obtain ⟨C, e1, -, w1⟩ := DataW.trod_int Try.underlying3 g1
  obtain rfl : v0 = .int .i64 R := by simpa using e0
  obtain rfl : v1 = .int .i64 C := by simpa using e1
  simp only [Rows.uptoBulk, Rows.uptoBulkAll] at hB
  obtain ⟨m, x, hr, h1, h2⟩ := open_list (B := B) g2 (by omega) hB4
  refine ⟨R, C, v2, m, x, rfl, hr, h1, h2, ?_, ?_⟩
  · simp [Lit.wf, IntKind.min, IntKind.max, IntKind.signed, IntKind.bits] at w0; omega
  · simp [Lit.wf, IntKind.min, IntKind.max, IntKind.signed, IntKind.bits] at w1; omega
end
end Go.Proofs.Ytdlpemmoobbgnaa
