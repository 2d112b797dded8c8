/- The walk of ModpRefuses. Plain: equal spans have equal echelon forms; what the kernel's rows are; the rank of a transpose. Matrices that read as integers: the answers of Mul, Echelon, Kernel and Det where nothing is refused, in one form. What the bound on the bulk gives (turned out of the guide's small lemmas), and an argument that is a matrix, opened. The row's last step where 'Below' alone is known of what the call leaves (turned out of the guide's small lemmas). Plain: what stands behind ModpSame: an invertible matrix on the left leaves the echelon form; the kernel's rows times it lie in the other's kernel. -/
import Derived.Deep.RegionHeld3
import Derived.Test.YtdlpemmoobbgnaaGH
import Derived.Test.YtdlpemmoobbgnaaGF
import Derived.Test.YtdlpemmoobbgnaaGG
import Derived.Test.YtdlpemmoobbgnaaRows
import Derived.Test.YtdlpemmoobbgnaaGA
import Derived.ProofKit
import Derived.OpenShut
import Derived.Deep.Slices
import Derived.Lib.SmallJoins
import Derived.Below
import Derived.ChangeSame
set_option linter.unusedVariables false
set_option linter.unusedSimpArgs false
namespace Go.Proofs.Ytdlpemmoobbgnaa
open Go.RowKit

theorem resid_eq (r : Raw) {p : Int} (hp : 0 < p) : resid r p = r.val % p := by
  unfold resid Raw.val
  have h0 := Int.emod_nonneg r.mag (show p ≠ 0 by omega)
  have h1 := Int.emod_lt_of_pos r.mag hp
  cases hn : r.neg with
  | false => simp
  | true =>
    simp only [true_and, if_true]
    have e : -r.mag = -(r.mag % p) + p * (-(r.mag / p)) := by
      have := Int.emod_add_mul_ediv r.mag p
      rw [Int.mul_neg]; omega
    rw [e, Int.add_mul_emod_self_left]
    split
    · rw [show -(r.mag % p) = (p - r.mag % p) + p * (-1) by omega, Int.add_mul_emod_self_left]
      exact (Int.emod_eq_of_lt (by omega) (by omega)).symm
    · rw [show r.mag % p = 0 by omega]; simp

end Go.Proofs.Ytdlpemmoobbgnaa

namespace Go.Proofs.Ytdlpemmoobbgnaa
open laF

section
variable {q : Nat} [NeZero q] {m n : Nat}

theorem phG_resG (hq : 1 ≤ q) (K : Nat) (x : Nat → Raw) (i j : Nat) : phG q (resG q K x) i j = ph (x (i * K + j)).val := by
  show ph (resid _ _) = _
  rw [resid_eq _ (by omega : (0 : Int) < q), ph_mod]

theorem Comb.kills {N : Nat → Nat → Fin q} {v a : Nat → Fin q} (h : Comb m n N v) (hN : ∀ i, i < m → sm n (fun t => N i t * a t) = 0) : sm n (fun t => v t * a t) = 0 := by
  obtain ⟨c, hc⟩ := h
  rw [sm_congr (g := fun t => sm m (fun i => c i * (N i t * a t))) (fun t ht => by rw [hc t ht, ← sm_mul_r]; exact sm_congr fun i _ => by grind), sm_comm]
  exact sm_zero fun i hi => by rw [sm_mul, hN i hi]; grind

/-- the left part of a row of [A | 1] is its right part times A -/
theorem bes_comb {R K : Nat} {A N : Nat → Nat → Fin q} {v : Nat → Fin q} (hN : ∀ i, i < R → (∀ j, j < K → N i j = A i j) ∧ ∀ t, t < R → N i (K + t) = if t = i then 1 else 0) (h : Comb R (K + R) N v) :
    ∀ j, j < K → v j = sm R (fun t => v (K + t) * A t j) := by
  obtain ⟨a, ha⟩ := h
  have hr : ∀ t, t < R → v (K + t) = a t := fun t ht => by
    rw [ha (K + t) (by omega), sm_one (fun i => a i * N i (K + t)) ht (fun i hi hne => by simp only [(hN i hi).2 t ht, if_neg (fun e : t = i => hne e.symm)]; grind), (hN t ht).2 t ht, if_pos rfl]; grind
  intro j hj
  rw [ha j (by omega)]
  exact sm_congr fun t ht => by rw [hr t ht, (hN t ht).1 j hj]

theorem bes_rows {K : Nat} {x : Nat → Raw} {R : Nat} : ∀ i, i < R → (∀ j, j < K → phG q (besG q K x) i j = phG q (resG q K x) i j) ∧ ∀ t, t < R → phG q (besG q K x) i (K + t) = if t = i then 1 else 0 := by
  intro i _
  constructor
  · intro j hj
    show ph (if j < K then _ else _) = _
    rw [if_pos hj]; rfl
  · intro t _
    show ph (if K + t < K then _ else _) = _
    rw [if_neg (by omega)]
    by_cases e : t = i
    · rw [if_pos (by omega), if_pos e]; exact ph_one
    · rw [if_neg (by omega), if_neg e]; exact ph_zero

section
variable {R K : Nat} {x : Nat → Raw}

theorem besS_ok (hp : isPB q = true) (R K : Nat) (x : Nat → Raw) : Rref R K (kerR q R K x) (fun i => (besS q R K x).P.getD i 0) (phG q (besS q R K x).G) ∧ SpanEq R (K + R) (phG q (besG q K x)) (phG q (besS q R K x).G) :=
  RS.run_ok hp (besG_res q (by have := isPB_ge q hp; omega) R K x) (1 % (q : Int)) K (by omega)

theorem kerS_ok (hp : isPB q = true) (R K : Nat) (x : Nat → Raw) : Rref (R - kerR q R K x) R (kerS q R K x).P.length (fun i => (kerS q R K x).P.getD i 0) (phG q (kerS q R K x).G) ∧ SpanEq (R - kerR q R K x) R (phG q (kerG q R K x)) (phG q (kerS q R K x).G) :=
  RS.run_ok hp (kerG_res q (by have := isPB_ge q hp; omega) R K x) (1 % (q : Int)) R (Nat.le_refl R)

theorem kerG_zero (hp : isPB q = true) {l : Nat} (hl : l < R - kerR q R K x) {j : Nat} (hj : j < K) : sm R (fun t => phG q (kerG q R K x) l t * ph (x (t * K + j)).val) = 0 := by
  obtain ⟨h1, h2⟩ := besS_ok hp R K x
  have h3 := bes_comb bes_rows (h2.2 (kerR q R K x + l) (by omega)) j hj
  rw [h1.rest _ j (by omega) (by omega) hj] at h3
  rw [h3]
  exact sm_congr fun t _ => by rw [phG_resG (by have := isPB_ge q hp; omega)]; rfl

/-- the kernel's rows times the matrix are 0 -/
theorem kerS_zero (hp : isPB q = true) {l : Nat} (hl : l < R - kerR q R K x) {j : Nat} (hj : j < K) : sm R (fun t => (ph ((kerS q R K x).G l t) : Fin q) * ph (x (t * K + j)).val) = 0 :=
  Comb.kills ((kerS_ok hp R K x).2.2 l hl) fun _ hi => kerG_zero hp hi hj
end

/-- independent rows are no more than the rows that they are combinations of -/
theorem rank_le (hp : isPB q = true) {r s : Nat} {P : Nat → Nat} {N M : Nat → Nat → Fin q} (h : Rref m n r P N) (hs : ∀ i, i < r → Comb s n M (N i)) : r ≤ s := by
  have hq := isPB_ge q hp
  have hM : ∀ i j, phG q (fun i j => ((M i j).val : Int)) i j = M i j := fun i j => by
    apply fin_ext; rw [show phG q (fun i j => ((M i j).val : Int)) i j = ph ((M i j).val : Int) from rfl, ph_val, Int.emod_eq_of_lt (by omega) (by have := (M i j).isLt; omega)]
  have hres : Res q s n (fun i j => ((M i j).val : Int)) := fun i j _ _ => ⟨by show (0 : Int) ≤ ((M i j).val : Int); omega, by show ((M i j).val : Int) < q; have := (M i j).isLt; omega⟩
  obtain ⟨h1, h2⟩ := RS.run_ok hp hres 0 n (Nat.le_refl n)
  generalize (RS.run q s n ⟨fun i j => ((M i j).val : Int), [], 0⟩ n).P.length = r' at h1
  have key : ∀ i, i < r → ∃ k, i ≤ k ∧ k < r' ∧ (fun i => (RS.run q s n ⟨fun i j => ((M i j).val : Int), [], 0⟩ n).P.getD i 0) k = P i := by
    intro i
    induction i with
    | zero =>
      intro hi
      obtain ⟨k, hk, e⟩ := h1.first ((hs 0 hi).trans fun l hl => ((Comb.row hl).congr fun j _ => (hM l j).symm).trans h2.1) (h.lt 0 hi) (fun j hj => h.lead 0 j hi hj) (by rw [h.one 0 hi]; exact one_ne hq)
      exact ⟨k, by omega, hk, e⟩
    | succ i ih =>
      intro hi
      obtain ⟨k0, a0, b0, c0⟩ := ih (by omega)
      obtain ⟨k, hk, e⟩ := h1.first ((hs (i + 1) hi).trans fun l hl => ((Comb.row hl).congr fun j _ => (hM l j).symm).trans h2.1) (h.lt (i + 1) hi) (fun j hj => h.lead (i + 1) j hi hj) (by rw [h.one (i + 1) hi]; exact one_ne hq)
      refine ⟨k, Nat.le_of_not_lt fun hlt => ?_, hk, e⟩
      have hm := h.mono i (i + 1) (by omega) hi
      rcases Nat.lt_or_ge k k0 with c | c
      · have h5 := h1.mono k k0 c b0
        dsimp only at h5 c0
        rw [e, c0] at h5
        omega
      · have : k = k0 := by omega
        subst this
        dsimp only at c0
        rw [e] at c0
        omega
  have hle := h1.le
  rcases Nat.eq_zero_or_pos r with e | e
  · omega
  · obtain ⟨k, a, b, -⟩ := key (r - 1) (by omega)
    omega

/-- the kernel has as many rows as are missing -/
theorem ker_full (hp : isPB q = true) (R K : Nat) (x : Nat → Raw) : (kerS q R K x).P.length = R - kerR q R K x := by
  obtain ⟨h1, h2⟩ := besS_ok hp R K x
  obtain ⟨h3, h4⟩ := kerS_ok hp R K x
  have hle := h3.le
  have hr := kerR_le q R K x
  obtain ⟨s, hs⟩ : ∃ s, s = (kerS q R K x).P.length := ⟨_, rfl⟩
  have hid : Rref R R R (fun i => i) (fun i j => if j = i then (1 : Fin q) else 0) :=
    ⟨Nat.le_refl _, fun i hi => hi, fun i j h _ => h, fun i j _ hj => if_neg (by omega), fun i _ => if_pos rfl, fun i k _ _ hne => if_neg (fun e => hne e.symm), fun i j h1 h2 => absurd h2 (by omega)⟩
  have key : R ≤ kerR q R K x + s := by
    refine rank_le hp hid (M := fun k j => if k < kerR q R K x then phG q (besS q R K x).G k (K + j) else phG q (kerS q R K x).G (k - kerR q R K x) j) fun i hi => ?_
    have hB : Comb R R (fun l j => phG q (besS q R K x).G l (K + j)) (fun j => if j = i then (1 : Fin q) else 0) := ((h2.1 i hi).right (k := K) (n' := R) (by omega)).congr fun j hj => ((bes_rows i hi).2 j hj).symm
    refine hB.trans fun l hl => ?_
    by_cases c : l < kerR q R K x
    · exact (Comb.row (i := l) (by omega)).congr fun j _ => by simp only [if_pos c]
    · have h5 := h4.1 (l - kerR q R K x) (by omega)
      have e5 : ∀ j, j < R → phG q (besS q R K x).G l (K + j) = phG q (kerG q R K x) (l - kerR q R K x) j := fun j _ => by
        unfold phG kerG; rw [show kerR q R K x + (l - kerR q R K x) = l by omega]
      refine ((h5.congr e5).trans fun t ht => ?_)
      by_cases c' : t < s
      · exact (Comb.row (i := kerR q R K x + t) (by omega)).congr fun j _ => by
          simp only [if_neg (show ¬ kerR q R K x + t < kerR q R K x by omega), show kerR q R K x + t - kerR q R K x = t by omega]
      · exact Comb.zero fun j hj => h3.rest t j (by omega) ht hj
  omega

end

end Go.Proofs.Ytdlpemmoobbgnaa

namespace Go.Proofs.Ytdlpemmoobbgnaa
open Go.RowKit

theorem RdN.congr {w : World} {v : Value} {n : Nat} {z z' : Nat → Int} {S : Nat} (h : RdN w v n z S) (e : ∀ q, q < n → z q = z' q) : RdN w v n z' S := by
  obtain ⟨x, h1, h2⟩ := h
  exact ⟨x, h1, fun q hq => ⟨(h2 q hq).1, by rw [(h2 q hq).2, e q hq]⟩⟩
theorem RdN.zb {w : World} {v : Value} {n : Nat} {z : Nat → Int} {S : Nat} (h : RdN w v n z S) {q : Nat} (hq : q < n) : ZB S (z q) := by
  obtain ⟨x, ⟨a, cap, -, -, -, h1⟩, h2⟩ := h
  obtain ⟨b, o, -, hc⟩ := h1 (by omega)
  obtain ⟨m, -, -, c2⟩ := hc q hq
  obtain ⟨g1, g2⟩ := h2 q hq
  rw [← g2]
  exact (RdI.zb ⟨_, rfl, c2⟩).mono g1

theorem mul_idx {q R K C : Nat} (hq : q < R * C) : q / C < R ∧ q % C < C := by
  have hC : 0 < C := by
    rcases Nat.eq_zero_or_pos C with e | e
    · subst e; omega
    · exact e
  exact ⟨Nat.div_lt_of_lt_mul (by rw [Nat.mul_comm]; exact hq), Nat.mod_lt _ hC⟩

theorem small_read {w : World} {lb n : Nat} {y : Nat → Int} {M : Nat → Value} {base : Nat} (h : LS 56 22 w base base lb n n (fun q => small (y q)) M) (hn : n ≤ 4096) (hy : ∀ q, q < n → 0 ≤ y q ∧ y q < 2147483648) :
    RdL w (.slice (some ⟨lb, 0, none⟩) n n) n (fun q => small (y q)) := h.read (by omega) fun q hq i _ => by
  have := hy q hq
  exact ⟨this.1, by show y q ≤ _; omega⟩
theorem openE_good {R C : Nat} {n : Nat} {p : Int} (hR : R ≤ 64) (hC : C ≤ 64) (hN : n = R * C) (hp : primeB p = true) : openE R C n p true = 0 := by
  have hs : soundB R C n = true := by
    unfold soundB sideB; rw [hN]; simp; omega
  unfold openE
  rw [if_pos hs, if_pos rfl, if_pos hp]

section
variable (R C : Nat) (p : Int)
end

theorem three_stay {w w' : World} {a b c : Addr} {u v x : Value} (hb : Below w.heap.size w w') (h : w.cell? a = some u ∧ w.cell? b = some v ∧ w.cell? c = some x) : w'.cell? a = some u ∧ w'.cell? b = some v ∧ w'.cell? c = some x :=
  ⟨cell_stays hb h.1, cell_stays hb h.2.1, cell_stays hb h.2.2⟩
/-- a matrix put into a box -/
theorem box_mat (w : World) (v0 v1 v2 : Value) (t : TypeId) : Below w.heap.size w (w.alloc (.cells #[v0, v1, v2] t)) ∧ ((w.alloc (.cells #[v0, v1, v2] t)).cell? ⟨w.heap.size, 0, none⟩ = some v0 ∧ (w.alloc (.cells #[v0, v1, v2] t)).cell? ⟨w.heap.size, 1, none⟩ = some v1 ∧ (w.alloc (.cells #[v0, v1, v2] t)).cell? ⟨w.heap.size, 2, none⟩ = some v2) := by
  have k := three_cells w v0 v1 v2 t
  exact ⟨(Below.refl _ _).alloc (Nat.le_refl _) _, (k 0 _ rfl).1, (k 1 _ rfl).1, (k 2 _ rfl).1⟩

/-- cells that are known -/
def Has (w : World) : List (Addr × Value) → Prop
  | [] => True
  | p :: L => w.cell? p.1 = some p.2 ∧ Has w L
theorem Has.below {w w' : World} : ∀ {L : List (Addr × Value)}, Has w L → Below w.heap.size w w' → Has w' L
  | [], _, _ => trivial
  | _ :: _, h, hb => ⟨cell_stays hb h.1, Has.below h.2 hb⟩
theorem Has.box {w : World} {L : List (Addr × Value)} (h : Has w L) (v0 v1 v2 : Value) (t : TypeId) : Has (w.alloc (.cells #[v0, v1, v2] t)) ((⟨w.heap.size, 0, none⟩, v0) :: (⟨w.heap.size, 1, none⟩, v1) :: (⟨w.heap.size, 2, none⟩, v2) :: L) := by
  obtain ⟨h0, h1, h2, h3⟩ := box_mat w v0 v1 v2 t
  exact ⟨h1, h2, h3, h.below h0⟩
theorem stage {B : Nat} {w w1 w2 : World} (h : Below B w w1) (hs : B ≤ w1.heap.size) (hb : Below w1.heap.size w1 w2) : Below B w w2 ∧ B ≤ w2.heap.size := ⟨h.trans (hb.mono hs), Nat.le_trans hs hb.size⟩
end Go.Proofs.Ytdlpemmoobbgnaa

namespace Go.Proofs.Ytdlpemmoobbgnaa
open Go.RowKit Go.ChangeShapes Go.WideShapes Go.Deep Go.Joins

theorem bulk_part {H : Type} {d : DataW H} {l : List (DataW H)} (h : d ∈ l) : Rows.uptoBulk d ≤ Rows.uptoBulkAll l := by
  induction l with
  | nil => cases h
  | cons x r ih =>
    simp only [Rows.uptoBulkAll]
    cases List.mem_cons.1 h with
    | inl e => subst e; omega
    | inr e => have := ih e; omega
theorem bulk_one {H : Type} (d : DataW H) : 1 ≤ Rows.uptoBulk d := by
  cases d with
  | lit l => cases l <;> simp [Rows.uptoBulk]
  | nil => simp [Rows.uptoBulk]
  | ptr d => simp [Rows.uptoBulk]
  | slice elems spare => simp [Rows.uptoBulk]
  | agg parts => simp [Rows.uptoBulk]
  | iface t d => simp [Rows.uptoBulk]
  | map entries => simp [Rows.uptoBulk]
  | held h => simp [Rows.uptoBulk]
theorem bulk_length {H : Type} (l : List (DataW H)) : l.length ≤ Rows.uptoBulkAll l := by
  induction l with
  | nil => simp
  | cons x r ih => have := bulk_one x; simp only [Rows.uptoBulkAll, List.length_cons]; omega
/-- a slice of so many elements, each of so much -/
theorem bulk_row {H : Type} (n : Nat) (D : Nat → DataW H) (s : List (DataW H)) {B : Nat} (h : Rows.uptoBulk (.slice ((List.range n).map D) s) ≤ B) : n ≤ B ∧ ∀ i, i < n → Rows.uptoBulk (D i) ≤ B := by
  simp only [Rows.uptoBulk] at h
  have h1 := bulk_length ((List.range n).map D)
  rw [List.length_map, List.length_range] at h1
  refine ⟨by omega, fun i hi => ?_⟩
  have := bulk_part (List.mem_map.2 ⟨i, List.mem_range.2 hi, rfl⟩ : D i ∈ (List.range n).map D)
  omega

section
variable {H : Type} {enc : TypeId × Value → H} {w : World} {base : Nat} {spare : Nat → Bool} {held : Bool}

theorem add_none (b o i : Nat) : (⟨b, o, none⟩ : Addr).add i = ⟨b, o + i, none⟩ := by
  unfold Addr.add; split <;> simp_all

theorem open_words {n : Nat} {v : Value} {y : DataW H × List MemPlace} {B : Nat} (h : DataW.trod enc Try.prog w base spare held n 54 [v] = some y) (hB : Rows.uptoBulk y.1 ≤ B) (hB4 : B ≤ 4398046511104) :
    ∃ m f, RdW w v m f ∧ m ≤ B := by
  rcases open_slice1 Try.underlying54 (by kernel_rfl) h with ⟨e, -⟩ | ⟨a, len, cap, m, n', V, D, Pl, e, hb, hl, hm, hmm, hx, hc⟩
  · obtain rfl : v = .slice none 0 0 := by simpa using e
    exact ⟨0, fun _ => 0, ⟨⟨none, 0, rfl, Nat.le_refl _, Nat.zero_le _, fun h => absurd h (by omega)⟩, fun i hi => absurd hi (by omega)⟩, Nat.zero_le _⟩
  · obtain rfl : v = .slice (some a) len cap := by simpa using e
    subst hx
    have hlb := (bulk_row len D _ hB).1
    have hlm : len ≤ m := by rw [hmm]; split <;> omega
    have hv : ∀ i, i < len → ∃ z : Int, w.cell? (a.add i) = some (.int .u64 z) ∧ 0 ≤ z ∧ z ≤ 18446744073709551615 := fun i hi => by
      obtain ⟨h1, h2⟩ := hc i (by omega)
      obtain ⟨z, e1, -, hw⟩ := DataW.trod_int Try.underlying22 h2
      have e2 : V i = .int .u64 z := by simpa using e1
      rw [e2] at h1
      exact ⟨z, h1, bounds_u64 hw⟩
    obtain ⟨f, hf⟩ := choose_lt (α := Int) (p := fun i z => w.cell? (a.add i) = some (.int .u64 z) ∧ 0 ≤ z ∧ z ≤ 18446744073709551615) hv
    refine ⟨len, f, ⟨⟨some a, cap, rfl, hl, by omega, fun h0 => ?_⟩, fun i hi => (hf i hi).2⟩, hlb⟩
    obtain ⟨b, o, sp⟩ := a
    obtain rfl : sp = none := World.cell?_spot (hf 0 h0).1
    exact ⟨b, o, rfl, fun i hi => by have := (hf i hi).1; rw [add_none] at this; exact this⟩

instance rawB : Inhabited Raw := ⟨⟨false, 0, fun _ => 0⟩⟩

set_option maxRecDepth 100000 in
theorem open_list {n : Nat} {v : Value} {y : DataW H × List MemPlace} {B : Nat} (h : DataW.trod enc Try.prog w base spare held n 32 [v] = some y) (hB : Rows.uptoBulk y.1 ≤ B) (hB4 : B ≤ 4398046511104) :
    ∃ m x, RdL w v m x ∧ m ≤ B ∧ ∀ i, i < m → (x i).n ≤ B := by
  have hC : Try.prog.cellsOf 56 = 2 := by kernel_rfl
  rcases open_slice Try.underlying32 h with ⟨e, -⟩ | ⟨a, len, cap, m, n', D, Pl, e, hb, hl, hm, hmm, hx, hc⟩
  · obtain rfl : v = .slice none 0 0 := by simpa using e
    exact ⟨0, fun _ => ⟨false, 0, fun _ => 0⟩, ⟨none, 0, rfl, Nat.le_refl _, Nat.zero_le _, fun h => absurd h (by omega)⟩, Nat.zero_le _, fun i hi => absurd hi (by omega)⟩
  · obtain rfl : v = .slice (some a) len cap := by simpa using e
    subst hx
    rw [hC] at hc
    obtain ⟨hlb, hpb⟩ := bulk_row len D _ hB
    have hlm : len ≤ m := by rw [hmm]; split <;> omega
    have hv : ∀ i, i < len → ∃ r : Raw, (∃ mv, w.cell? (a.add (i * 2)) = some (.bool r.neg) ∧ w.cell? ((a.add (i * 2)).add 1) = some mv ∧ RdW w mv r.n r.f) ∧ r.n ≤ B := fun i hi => by
      obtain ⟨cs', h1, h2⟩ := hc i (by omega)
      obtain ⟨-, hcl, hat⟩ := World.cells?_some h1
      obtain ⟨y0, y1, n2, hx, -, g0, g1⟩ := trod_struct2 Try.underlying56 h2
      match cs', hcl with
      | [c0, c1], _ =>
        have q0 := hat 0 (by omega)
        have q1 := hat 1 (by omega)
        have hcb : Try.prog.cellsOf 4 = 1 := by kernel_rfl
        have hcw : Try.prog.cellsOf 54 = 1 := by kernel_rfl
        have g0 : DataW.trod enc Try.prog w base spare held n2 4 (List.take (Try.prog.cellsOf 4) [c0, c1]) = some y0 := g0
        have g1 : DataW.trod enc Try.prog w base spare held n2 54 (List.take (Try.prog.cellsOf 54) [c1]) = some y1 := g1
        rw [hcb] at g0
        rw [hcw] at g1
        have g0 : DataW.trod enc Try.prog w base spare held n2 4 [c0] = some y0 := g0
        have g1 : DataW.trod enc Try.prog w base spare held n2 54 [c1] = some y1 := g1
        obtain ⟨b, e1, -⟩ := DataW.trod_bool Try.underlying4 g0
        have e2 : c0 = .bool b := by simpa using e1
        have hpi := hpb i hi
        have e3 : D i = .agg [y0.1, y1.1] := congrArg Prod.fst hx
        rw [e3] at hpi
        simp only [Rows.uptoBulk, Rows.uptoBulkAll] at hpi
        obtain ⟨mm, f, hw, hmb⟩ := open_words (B := B) g1 (by omega) hB4
        refine ⟨⟨b, mm, f⟩, ⟨c1, ?_, q1, hw⟩, hmb⟩
        rw [← e2]; exact q0
    obtain ⟨x, hx⟩ := choose_lt (α := Raw) (h := hv)
    refine ⟨len, x, ⟨some a, cap, rfl, hl, by omega, fun h0 => ?_⟩, hlb, fun i hi => (hx i hi).2⟩
    obtain ⟨b, o, sp⟩ := a
    obtain ⟨⟨m0, c0, -⟩, -⟩ := hx 0 h0
    obtain rfl : sp = none := by simpa [Addr.add] using World.cell?_spot c0
    refine ⟨b, o, rfl, fun i hi => ?_⟩
    obtain ⟨⟨mi, k0, k1, k2⟩, -⟩ := hx i hi
    refine ⟨mi, ?_, ?_, k2⟩
    · rw [add_none] at k0; exact k0
    · rw [Go.Deep.add_add, add_none] at k1; exact k1

set_option maxRecDepth 100000 in
/-- an argument that is a matrix -/
theorem open_mat {r : Reach} {b0 : Nat} {v : Value} {d : DataW H} {p : List MemPlace} {B : Nat} (hv : Value.okWide Try.prog w r b0 34 v) (h : DataW.Trod enc Try.prog w base spare held 34 v d p) (hB : Rows.uptoBulk d ≤ B) (hB4 : B ≤ 4398046511104) :
    ∃ (R C : Int) (s : Value) (n : Nat) (x : Nat → Raw), v = .agg #[.int .i64 R, .int .i64 C, s] ∧ RdL w s n x ∧ n ≤ B ∧ (∀ i, i < n → (x i).n ≤ B) ∧ (-9223372036854775808 ≤ R ∧ R ≤ 9223372036854775807) ∧ (-9223372036854775808 ≤ C ∧ C ≤ 9223372036854775807) := by
  obtain ⟨v0, v1, v2, y0, y1, y2, n, rfl, rfl, -, g0, g1, g2⟩ := open_agg3 Try.underlying34 (by kernel_rfl) (by kernel_rfl) hv h
  obtain ⟨R, e0, -, w0⟩ := DataW.trod_int Try.underlying3 g0
  obtain ⟨C, e1, -, w1⟩ := DataW.trod_int Try.underlying3 g1
  obtain rfl : v0 = .int .i64 R := by simpa using e0
  obtain rfl : v1 = .int .i64 C := by simpa using e1
  simp only [Rows.uptoBulk, Rows.uptoBulkAll] at hB
  obtain ⟨m, x, hr, h1, h2⟩ := open_list (B := B) g2 (by omega) hB4
  refine ⟨R, C, v2, m, x, rfl, hr, h1, h2, ?_, ?_⟩
  · simp [Lit.wf, IntKind.min, IntKind.max, IntKind.signed, IntKind.bits] at w0; omega
  · simp [Lit.wf, IntKind.min, IntKind.max, IntKind.signed, IntKind.bits] at w1; omega
end
end Go.Proofs.Ytdlpemmoobbgnaa

namespace Go.Proofs.Ytdlpemmoobbgnaa
open Go.RowKit Go.WideShapes Go.ChangeShapes
section
variable {H : Type} {enc : TypeId × Value → H} {P : Program}
theorem post_of_below {f : Func} {s : ChangeSpec} {apart fresh handsOn again : Bool} {W W' : World} {args : Array Value} {v : Value} {ds gs : List (DataW H)} {before pa pv : List MemPlace}
    (hW : DataW.Whole enc P f.params.toList s.vars apart W args.toList ds gs before)
    (hres : ∀ (b : Nat) (sp : Nat → Bool) (hd : Bool), DataW.TrodAll enc P W' b sp hd f.resultTypes.toList (v.resultList f.resultTypes.size) (s.fn H (ds ++ gs)).results [])
    (hargs : ∀ sp : Nat → Bool, (∀ p ∈ before, sp p.block = true) → DataW.TrodAll enc P W' 0 sp true f.params.toList args.toList (s.fn H (ds ++ gs)).args pa)
    (hvars : ∀ sp : Nat → Bool, (∀ p ∈ before, sp p.block = true) → DataW.TrodVars enc P W' sp s.vars (s.fn H (ds ++ gs)).vars pv)
    (hps : before = pa ++ pv) (hb : Below W.heap.size W W')
    (hok : ∀ (j : Nat) (t : TypeId) (r : Value), f.resultTypes[j]? = some t → (v.resultList f.resultTypes.size)[j]? = some r → Value.okWide P W' .any 0 t r) :
    s.post enc P f apart fresh handsOn again W args v W' := by
  have hlt : ∀ p ∈ before, p.block < W.heap.size := fun p hp => hW.lt p hp
  have hold : ∀ p ∈ before, (fun b => decide (b < W.heap.size)) p.block = true := fun p hp => by simpa using hlt p hp
  refine ⟨ds, gs, before, [], pa, pv, hW, hres _ _ _, hargs _ hold, hvars _ hold, World.keptBut_mono (fun p hp => ⟨hp, ?_⟩) (hb.frame (· ∈ before)), fun _ => ?_⟩
  · rw [hps, List.mem_append] at hp
    exact Or.inr hp
  · obtain ⟨_, _, _, _, _, hz, hn⟩ := hW
    refine ⟨hok, _, _, ([] ++ pa) ++ pv, ⟨[] ++ pa, pv, trodAll_append (hargs _ (fun _ _ => rfl)) (hres _ _ _), hvars _ (fun _ _ => rfl), rfl, ?_, ?_⟩, ?_⟩
    · intro b off hp
      have hin : MemPlace.cell b off ∈ before := by rw [hps]; simpa using hp
      rw [hb.frozen (hlt _ hin)]
      exact hz b off hin
    · intro ha
      have := hn ha
      rw [hps] at this
      simpa using this
    · intro p hp _
      rw [hps]
      simpa using hp
end
end Go.Proofs.Ytdlpemmoobbgnaa

namespace Go.Proofs.Ytdlpemmoobbgnaa
open laF

theorem ph_dotZ {q : Nat} [NeZero q] (f g : Nat → Int) : ∀ n, (ph (dotZ f g n) : Fin q) = sm n (fun k => ph (f k) * ph (g k))
  | 0 => ph_zero
  | n + 1 => by
    show ph (f n * g n + dotZ f g n) = sm n _ + _
    rw [ph_add, ph_mul, ph_dotZ f g n]; grind

theorem sm_assoc {q : Nat} [NeZero q] {m n : Nat} (a b : Nat → Fin q) (U : Nat → Nat → Fin q) : sm m (fun i => sm n (fun t => a t * U t i) * b i) = sm n (fun t => a t * sm m (fun i => U t i * b i)) := by
  rw [sm_congr (g := fun i => sm n (fun t => a t * (U t i * b i))) (fun i _ => by rw [← sm_mul_r]; exact sm_congr fun t _ => by grind), sm_comm]
  exact sm_congr fun t _ => sm_mul _ _ _

theorem prime_nat {p : Int} (hp : primeB p = true) : ∃ q : Nat, p = q ∧ isPB q = true ∧ NeZero q := by
  obtain ⟨h0, h1⟩ := primeB_bd hp
  obtain ⟨q, rfl⟩ := Int.eq_ofNat_of_zero_le (show 0 ≤ p by omega)
  refine ⟨q, rfl, ?_, ⟨by omega⟩⟩
  unfold primeB at hp
  simp only [Bool.and_eq_true, decide_eq_true_eq] at hp
  have := hp.2
  rwa [Int.toNat_natCast] at this

section
variable {R C : Nat} {xa xu xua : Nat → Raw}

end
end Go.Proofs.Ytdlpemmoobbgnaa
