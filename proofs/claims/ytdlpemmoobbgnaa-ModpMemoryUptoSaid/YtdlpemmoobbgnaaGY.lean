/- The walk of modp.Solve. Plain: what stands behind ModpSolves: the row that Solve answers; where it is refused the rank grows. A list of integers appended to one of the call's own; the walk of trellisref09.Make. The walk of trellisref09.Stack at a matrix and one row more. -/
import Derived.Test.YtdlpemmoobbgnaaGG
import Derived.Test.YtdlpemmoobbgnaaGK
import Derived.Test.YtdlpemmoobbgnaaGX
import Derived.Laws.AppendOwnNone
set_option linter.unusedVariables false
set_option linter.unusedSimpArgs false
namespace Go.Proofs.Ytdlpemmoobbgnaa
open Go.RowKit

theorem RS.step_mem {p : Int} {m n j : Nat} {s : RS} (h : ∀ c ∈ s.P, c < j) : ∀ c ∈ (s.step p m n j).P, c < j + 1 := by
  intro c hc
  unfold RS.step at hc
  simp only at hc
  split at hc
  · have := h c hc; omega
  · simp only [List.mem_append, List.mem_singleton] at hc
    rcases hc with hc | hc
    · have := h c hc; omega
    · omega
theorem RS.run_mem {p : Int} {m n : Nat} {s : RS} (h : s.P = []) : ∀ j, ∀ c ∈ (s.run p m n j).P, c < j
  | 0 => by intro c hc; simp [RS.run, h] at hc
  | j + 1 => RS.step_mem (RS.run_mem h j)

/-- a row cleared at the pivots, one after the other -/
def clr (p : Int) (n : Nat) (G : Nat → Nat → Int) (P : List Nat) (f : Nat → Int) : Nat → Nat → Int
  | 0 => f
  | i + 1 => takeF p (clr p n G P f i (P.getD i 0)) 0 n (clr p n G P f i) (G i)

theorem clr_res {p : Int} (hp : 1 ≤ p) {n : Nat} {G : Nat → Nat → Int} {P : List Nat} {f : Nat → Int} (hf : ∀ c, c < n → 0 ≤ f c ∧ f c < p) : ∀ i c, c < n → 0 ≤ clr p n G P f i c ∧ clr p n G P f i c < p
  | 0, c, hc => hf c hc
  | i + 1, c, hc => by
    show 0 ≤ takeF p _ 0 n _ _ c ∧ takeF p _ 0 n _ _ c < p
    unfold takeF; rw [if_pos ⟨Nat.zero_le c, hc⟩]
    exact ⟨Int.emod_nonneg _ (by omega), Int.emod_lt_of_pos _ (by omega)⟩

/-- is one of the first n not 0? -/
def anyNZ (f : Nat → Int) : Nat → Bool
  | 0 => false
  | n + 1 => anyNZ f n || decide (f n ≠ 0)
theorem anyNZ_false {f : Nat → Int} : ∀ {n : Nat}, anyNZ f n = false ↔ ∀ i, i < n → f i = 0
  | 0 => by simp [anyNZ]
  | n + 1 => by
    simp only [anyNZ, Bool.or_eq_false_iff, anyNZ_false (n := n), decide_eq_false_iff_not, ne_eq, Decidable.not_not]
    constructor
    · rintro ⟨h1, h2⟩ i hi
      by_cases e : i = n
      · rw [e]; exact h2
      · exact h1 i (by omega)
    · intro h; exact ⟨fun i hi => h i (by omega), h n (by omega)⟩

def sol0 (p : Int) (K : Nat) (b : Nat → Raw) : Nat → Int := fun j => if j < K then resid (b j) p else 0
def sol1 (p : Int) (R K : Nat) (x b : Nat → Raw) : Nat → Int := clr p (K + R) (besS p R K x).G (besS p R K x).P (sol0 p K b) (besS p R K x).P.length
def sol2 (p : Int) (R K : Nat) (x b : Nat → Raw) : Nat → Int := fun i => (p - sol1 p R K x b (K + i)) % p
def sol3 (p : Int) (R K : Nat) (x b : Nat → Raw) : Nat → Int := clr p R (kerS p R K x).G (kerS p R K x).P (sol2 p R K x b) (kerS p R K x).P.length

theorem own_ints {w : World} {base : Nat} {e : TypeId} {v : Value} {P : List Nat} (h : w.ownsRow base e 1 v P.length (ints P)) :
    ∃ pa cap, v = .slice pa P.length cap ∧ ∀ i, i < P.length → ∃ pb, pa = some ⟨pb, 0, none⟩ ∧ base ≤ pb ∧ pb < w.heap.size ∧ w.cell? ⟨pb, i, none⟩ = some (.int .i64 ((P.getD i 0 : Nat) : Int)) := by
  obtain ⟨_, h⟩ := h
  rcases h with ⟨rfl, h0⟩ | ⟨g, cap, cur, rfl, h2, h3, h4, h5, h6, h7⟩
  · rw [h0]; exact ⟨none, 0, rfl, fun i hi => absurd hi (by omega)⟩
  · refine ⟨_, cap, rfl, fun i hi => ⟨g, rfl, h2, lt_of_block h3, ?_⟩⟩
    rw [cell_of_row _ _ _ _ _ _ h3]
    have := congrArg (·[i]?) h7
    simp only [ints] at this
    rw [List.getElem?_take, if_pos (by omega)] at this
    simpa [hi] using this

/-- the state of Solve: rest lies in the block rb -/
structure SolR (w wr : World) (r c : Int) (sl : Value) (rb : Nat) (m n : Nat) (gb go : Nat) (B O C : Nat → Nat) (G : Nat → Nat → Int) (pa : Option Addr) (P : List Nat) (ro N : Nat) (f : Nat → Int) : Prop where
  x0 : wr.cell? ⟨w.heap.size, 0, none⟩ = some (.int .i64 r)
  x1 : wr.cell? ⟨w.heap.size, 1, none⟩ = some (.int .i64 c)
  x2 : wr.cell? ⟨w.heap.size, 2, none⟩ = some sl
  below : Below w.heap.size w wr
  grid : GridAt .u64 wr (w.heap.size + 1) gb go m n B O C G
  piv : ∀ i, i < P.length → ∃ pb, pa = some ⟨pb, 0, none⟩ ∧ pb ≠ rb ∧ wr.cell? ⟨pb, i, none⟩ = some (.int .i64 ((P.getD i 0 : Nat) : Int))
  row : RowAt .u64 wr rb ro N f
  offB : ∀ i, i < m → B i ≠ rb
  offG : gb ≠ rb
  ge : w.heap.size + 1 ≤ rb
  lt : rb < wr.heap.size

theorem SolR.put {w wr w' : World} {r c : Int} {sl : Value} {rb m n gb go : Nat} {B O C : Nat → Nat} {G : Nat → Nat → Int} {pa : Option Addr} {P : List Nat} {ro N : Nat} {f : Nat → Int}
    (h : SolR w wr r c sl rb m n gb go B O C G pa P ro N f) (hg : wr.grownBy w' (some rb)) {f' : Nat → Int} (hr : RowAt .u64 w' rb ro N f') : SolR w w' r c sl rb m n gb go B O C G pa P ro N f' := by
  have hge := h.ge
  exact ⟨hg.cell h.x0 (by simp; omega), hg.cell h.x1 (by simp; omega), hg.cell h.x2 (by simp; omega), h.below.grown hg h.below.size (fun k hk => by injection hk with hk; omega),
    h.grid.grown hg (fun e => h.offG (Option.some.inj e)) (fun i hi e => h.offB i hi (Option.some.inj e)),
    fun i hi => by
      obtain ⟨pb, e1, e2, e3⟩ := h.piv i hi
      exact ⟨pb, e1, e2, hg.cell e3 (by simpa using e2)⟩,
    hr, h.offB, h.offG, hge, Nat.lt_of_lt_of_le h.lt hg.size⟩

theorem SolR.same {w wr w' : World} {r c : Int} {sl : Value} {rb m n gb go : Nat} {B O C : Nat → Nat} {G : Nat → Nat → Int} {pa : Option Addr} {P : List Nat} {ro N : Nat} {f : Nat → Int}
    (h : SolR w wr r c sl rb m n gb go B O C G pa P ro N f) (hb : Below wr.heap.size wr w') : SolR w w' r c sl rb m n gb go B O C G pa P ro N f :=
  h.put (gb_below hb _) (h.row.below hb)
theorem SolR.congr {w wr : World} {r c : Int} {sl : Value} {rb m n gb go : Nat} {B O C : Nat → Nat} {G : Nat → Nat → Int} {pa : Option Addr} {P : List Nat} {ro N : Nat} {f : Nat → Int}
    (h : SolR w wr r c sl rb m n gb go B O C G pa P ro N f) {f' : Nat → Int} (e : ∀ i, i < N → f i = f' i) : SolR w wr r c sl rb m n gb go B O C G pa P ro N f' := { h with row := h.row.congr e }

theorem GridAt.mono {k : IntKind} {w : World} {base gb go m n : Nat} {B O C : Nat → Nat} {G : Nat → Nat → Int} (h : GridAt k w base gb go m n B O C G) {base' : Nat} (hb : base' ≤ base) : GridAt k w base' gb go m n B O C G :=
  { h with own := fun i hi => Nat.le_trans hb (h.own i hi), ownG := Nat.le_trans hb h.ownG }

/-- the row has just been made -/
theorem SolR.start {w w3 : World} {r c : Int} {sl : Value} {m n gb go base base2 : Nat} {B O C : Nat → Nat} {G : Nat → Nat → Int} {pa : Option Addr} {P : List Nat} {e : TypeId} (N : Nat)
    (x0 : w3.cell? ⟨w.heap.size, 0, none⟩ = some (.int .i64 r)) (x1 : w3.cell? ⟨w.heap.size, 1, none⟩ = some (.int .i64 c)) (x2 : w3.cell? ⟨w.heap.size, 2, none⟩ = some sl) (hb : Below w.heap.size w w3)
    (hg : GridAt .u64 w3 base gb go m n B O C G) (hp : ∀ i, i < P.length → ∃ pb, pa = some ⟨pb, 0, none⟩ ∧ base2 ≤ pb ∧ pb < w3.heap.size ∧ w3.cell? ⟨pb, i, none⟩ = some (.int .i64 ((P.getD i 0 : Nat) : Int)))
    (h1 : w.heap.size + 1 ≤ base) (h2 : w.heap.size + 1 ≤ w3.heap.size) (hgb : gb < w3.heap.size) :
    SolR w (w3.alloc (.cells (madeCells #[.int .u64 0] N) e)) r c sl w3.heap.size m n gb go B O C G pa P 0 N (fun _ => 0) := by
  have hb4 : Below w3.heap.size w3 (w3.alloc (.cells (madeCells #[.int .u64 0] N) e)) := (Below.refl _ _).alloc (Nat.le_refl _) _
  exact ⟨cell_stays hb4 x0, cell_stays hb4 x1, cell_stays hb4 x2, hb.trans (hb4.mono (by omega)), (hg.below hb4).mono h1,
    fun i hi => by
      obtain ⟨pb, e1, e2, e3, e4⟩ := hp i hi
      exact ⟨pb, e1, by omega, cell_stays hb4 e4⟩,
    (CellsAt.row (f := fun _ => 0) (CellsAt.made w3 _ N e)), fun i hi => by have := hg.lt i hi; omega, by omega, h2, by simp⟩

/-- another grid and other pivots, made since -/
theorem SolR.other {w wr w' : World} {r c : Int} {sl : Value} {rb m n gb go : Nat} {B O C : Nat → Nat} {G : Nat → Nat → Int} {pa : Option Addr} {P : List Nat} {ro N : Nat} {f : Nat → Int}
    (h : SolR w wr r c sl rb m n gb go B O C G pa P ro N f) (hb : Below wr.heap.size wr w') {m' n' gb' go' : Nat} {B' O' C' : Nat → Nat} {G' : Nat → Nat → Int} {pa' : Option Addr} {P' : List Nat}
    (hg : GridAt .u64 w' wr.heap.size gb' go' m' n' B' O' C' G') (hp : ∀ i, i < P'.length → ∃ pb, pa' = some ⟨pb, 0, none⟩ ∧ wr.heap.size ≤ pb ∧ pb < w'.heap.size ∧ w'.cell? ⟨pb, i, none⟩ = some (.int .i64 ((P'.getD i 0 : Nat) : Int))) :
    SolR w w' r c sl rb m' n' gb' go' B' O' C' G' pa' P' ro N f := by
  have hlt := h.lt
  have hge := h.ge
  have h2 := h.same hb
  exact ⟨h2.x0, h2.x1, h2.x2, h2.below, hg.mono (by omega), fun i hi => by
      obtain ⟨pb, e1, e2, e3, e4⟩ := hp i hi
      exact ⟨pb, e1, by omega, e4⟩, h2.row, fun i hi => by have := hg.own i hi; omega, by have := hg.ownG; omega, h2.ge, h2.lt⟩

theorem RowAt.shift {k : IntKind} {w : World} {b L nb R : Nat} {f : Nat → Int} (h : RowAt k w b 0 L f) (hL : nb + R ≤ L) : RowAt k w b nb R (fun c => f (nb + c)) := fun i hi => by
  have := h (nb + i) (by omega)
  rw [Nat.zero_add] at this; exact this
theorem SolR.shift {w wr : World} {r c : Int} {sl : Value} {rb m n gb go : Nat} {B O C : Nat → Nat} {G : Nat → Nat → Int} {pa : Option Addr} {P : List Nat} {L nb R : Nat} {f : Nat → Int}
    (h : SolR w wr r c sl rb m n gb go B O C G pa P 0 L f) (hL : nb + R ≤ L) : SolR w wr r c sl rb m n gb go B O C G pa P nb R (fun c => f (nb + c)) := { h with row := h.row.shift hL }

/-- 'rest[nb:]': where nothing is left, Go keeps the old address -/
theorem slice_from (rb : Nat) {L nb R : Nat} (hL : nb + R = L) (hL2 : L ≤ 4611686018427387904) : ∃ ro, (ro = nb ∨ R = 0) ∧ (∀ u : World, (Instr.slice 54 (.slice (some ⟨rb, 0, none⟩) L L) (some (.int .i64 (nb : Int))) none none).run Try.prog u = .ok (.slice (some ⟨rb, ro, none⟩) R R) u) ∧
    (∀ u : World, (Instr.sliceAt 54 (.slice (some ⟨rb, 0, none⟩) L L) (some (.int .i64 (nb : Int))) none none).run Try.prog u = .ok (.slice (some ⟨rb, ro, none⟩) R R) u) := by
  have hu : Try.prog.underlying 54 = some (.slice (Try.prog.elem 54)) := by kernel_rfl
  have hs : ∀ u, (sizeOf (Try.prog.elem 54)).run Try.prog u = .ok 1 u := fun u => by kernel_rfl
  have key : ∀ u : World, (Instr.slice 54 (.slice (some ⟨rb, 0, none⟩) L L) (some (.int .i64 (nb : Int))) none none).run Try.prog u = .ok (.slice (if L = nb then some ⟨rb, 0, none⟩ else some ⟨rb, nb, none⟩) R R) u := fun u => by
    rw [run_slice_l u 54 (some ⟨rb, 0, none⟩) L L hu .i64 (nb : Int) (by omega) (by omega), hs]
    simp only [Result.andThen, sliced, Int.toNat_natCast]
    rw [show L - nb = R by omega]
    split
    · rfl
    · simp [Addr.add]; omega
  refine ⟨if L = nb then 0 else nb, ?_, fun u => ?_, fun u => ?_⟩
  · by_cases e : L = nb
    · exact Or.inr (by omega)
    · exact Or.inl (if_neg e)
  · rw [key u]; split <;> rfl
  · rw [run_sliceAt_slice u 54 _ _ _ _ hu, key u]; split <;> rfl

/-- one row, as a matrix's answer -/
theorem whole_one (R gcap base gb rb ro cap : Nat) (f : Nat → Int) (hR : R ≤ 64) (hf : ∀ j, j < R → 0 ≤ f j ∧ f j < 2147483648) (w : World) (hg : GridAt .u64 w base gb 0 1 R (fun _ => rb) (fun _ => ro) (fun _ => cap) (fun _ => f)) :
    Calls Try.prog 48 #[.slice (some ⟨gb, 0, none⟩) 1 gcap, .int .i64 R] w fun e w' => ∃ lb M, e = .returned (.agg #[.int .i64 1, .int .i64 R, .slice (some ⟨lb, 0, none⟩) R R]) ∧
      LS 56 22 w' w.heap.size w.heap.size lb R R (fun q => small (f q)) M ∧ Below w.heap.size w w' := by
  refine (whole_any 1 R gcap base gb 0 _ _ _ _ (by omega) hR (fun i j _ hj => hf j hj) w hg).mono ?_
  rw [Nat.one_mul]
  rintro e w' ⟨lb, M, rfl, h, hb⟩
  exact ⟨lb, M, rfl, h.congr fun q hq => by rw [Nat.mod_eq_of_lt hq], hb⟩

theorem SolR.grid1 {w wr : World} {r c : Int} {sl : Value} {rb m n gb go : Nat} {B O C : Nat → Nat} {G : Nat → Nat → Int} {pa : Option Addr} {P : List Nat} {ro N : Nat} {f : Nat → Int} {e : TypeId} {cap : Nat}
    (h : SolR w wr r c sl rb m n gb go B O C G pa P ro N f) (hc : N ≤ cap) (hN : N ≤ 64) : GridAt .u64 (wr.alloc (.cells #[.slice (some ⟨rb, ro, none⟩) N cap] e)) (w.heap.size + 1) wr.heap.size 0 1 N (fun _ => rb) (fun _ => ro) (fun _ => cap) (fun _ => f) := by
  have hn := heap_alloc_new wr (.cells #[.slice (some ⟨rb, ro, none⟩) N cap] e)
  have hb : Below wr.heap.size wr (wr.alloc (.cells #[.slice (some ⟨rb, ro, none⟩) N cap] e)) := (Below.refl _ _).alloc (Nat.le_refl _) _
  have hlt := h.lt
  refine ⟨fun i hi => ?_, fun _ _ => h.row.below hb, fun i j hi hj _ => by omega, fun _ _ => by omega, fun _ _ => ⟨hc, by omega⟩, fun _ _ => h.ge, by have := h.ge; omega, fun _ _ => by simp; omega⟩
  obtain rfl : i = 0 := by omega
  refine ⟨by rw [cell_of_row _ _ _ _ _ _ hn]; rfl, ?_⟩
  unfold World.frozen?; simp only; rw [hn]; simp

def solE (r c : Int) (n : Nat) (nb : Nat) (x b : Nat → Raw) (p : Int) : Int :=
  if openE r c n p ((nb : Int) == c) = 0 then if anyNZ (sol1 p r.toNat c.toNat x b) c.toNat = true then 6 else 0 else openE r c n p ((nb : Int) == c)

set_option maxHeartbeats 4000000 in
set_option maxRecDepth 100000 in
theorem Solve_any (r c : Int) (p : Int) (hp : 0 ≤ p) (s : Value) (n : Nat) (x : Nat → Raw) (sb : Value) (nb : Nat) (b : Nat → Raw) (w : World) (hr : RdL w s n x) (hrb : RdL w sb nb b) :
    Calls Try.prog 29 #[.agg #[.int .i64 r, .int .i64 c, s], sb, .int .u64 p] w fun e w' => ∃ v,
      e = .returned (.tuple #[v, .int .i64 (solE r c n nb x b p)]) ∧
      (solE r c n nb x b p = 0 → ∃ lb M, v = .slice (some ⟨lb, 0, none⟩) r.toNat r.toNat ∧ LS 56 22 w' w.heap.size w.heap.size lb r.toNat r.toNat (fun q => small (sol3 p r.toNat c.toNat x b q)) M) ∧
      (solE r c n nb x b p ≠ 0 → v = .slice none 0 0) ∧ Below w.heap.size w w' := by
  obtain ⟨a, cap, rfl, hn⟩ := hr.slice
  obtain ⟨ab, capb, rfl, hnb⟩ := hrb.slice
  have hb0 : Below w.heap.size w (w.alloc (.cells #[.int .i64 r, .int .i64 c, .slice a n cap] 34)) := (Below.refl _ _).alloc (Nat.le_refl _) _
  have z := three_cells w (.int .i64 r) (.int .i64 c) (.slice a n cap) 34
  have hs0 : (w.alloc (.cells #[.int .i64 r, .int .i64 c, .slice a n cap] 34)).heap.size = w.heap.size + 1 := by simp
  have HB0 := Lib.hid hb0
  have HR := Lib.hid hr
  have HRB := Lib.hid hrb
  have Z := Lib.hid z
  have HS0 := Lib.hid hs0
  clear hr hrb hb0 z hs0
  by_cases he : openE r c n p ((nb : Int) == c) = 0
  · obtain ⟨R, K, rfl, rfl, hR, hK, hN, p0, p1, hrc, -⟩ := openE_ok he
    obtain rfl : nb = K := by have : (nb : Int) = K := by simpa using hrc
                              omega
    obtain ⟨S, hS⟩ : ∃ S, S = RS.run p R (nb + R) ⟨besG p nb x, [], 1 % p⟩ nb := ⟨_, rfl⟩
    have hbs : besS p R nb x = S := hS.symm
    have hSR : Res p R (nb + R) S.G := by have := besS_res p p0 R nb x; rw [hbs] at this; exact this
    have hSm : ∀ c ∈ S.P, c < nb := by rw [hS]; exact RS.run_mem rfl nb
    have hSl : S.P.length ≤ R := by rw [hS]; exact RS.run_len (s := ⟨besG p nb x, [], 1 % p⟩) (Nat.zero_le _) nb
    have hkR := kerR_le p R nb x
    have hk := fun w hr => kernel_any p p0 p1 R nb n hR hK hN (.slice a n cap) x w hr
    have hTR := kerS_res p p0 R nb x
    have hTm : ∀ c ∈ (kerS p R nb x).P, c < R := by unfold kerS; exact RS.run_mem rfl R
    have hTl : (kerS p R nb x).P.length ≤ R - kerR p R nb x := by unfold kerS; exact RS.run_len (s := ⟨kerG p R nb x, [], 1 % p⟩) (Nat.zero_le _) R
    have hE : openE R nb n p true = 0 := by rw [hrc] at he; exact he
    have hI : solE R nb n nb x b p = if anyNZ (sol1 p R nb x b) nb = true then 6 else 0 := by unfold solE; rw [if_pos he, Int.toNat_natCast, Int.toNat_natCast]
    have h1 : sol1 p R nb x b = clr p (nb + R) S.G S.P (sol0 p nb b) S.P.length := by unfold sol1; rw [hbs]
    have h3 : sol3 p R nb x b = clr p R (kerS p R nb x).G (kerS p R nb x).P (sol2 p R nb x b) (kerS p R nb x).P.length := rfl
    have h2 : ∀ i, sol2 p R nb x b i = (p - sol1 p R nb x b (nb + i)) % p := fun i => rfl
    rw [hI, Int.toNat_natCast, Int.toNat_natCast]
    generalize hT : kerS p R nb x = T at *
    generalize hQ : R - kerR p R nb x = q at *
    generalize sol1 p R nb x b = s1 at *
    generalize sol2 p R nb x b = s2 at *
    generalize sol3 p R nb x b = s3 at *
    obtain ⟨E5, hE5⟩ : ∃ E5 : Int, E5 = if anyNZ s1 nb = true then 6 else 0 := ⟨_, rfl⟩
    rw [← hE5]
    have HE5 := Lib.hid hE5
    clear hE5
    obtain ⟨L, hL⟩ : ∃ L, L = nb + R := ⟨_, rfl⟩
    rw [← hL] at hSR h1
    have HE := Lib.hid hE
    have HN := Lib.hid hN
    have HS := Lib.hid hS
    have HSR := Lib.hid hSR
    have HSM := Lib.hid hSm
    have HK := Lib.hid hk
    have HTR := Lib.hid hTR
    have HTM := Lib.hid hTm
    have H1 := Lib.hid h1
    have H2 := Lib.hid h2
    have H3 := Lib.hid h3
    have hq64 : q ≤ R := by omega
    have m1 := mk_words L (by omega)
    have hL1 : (nb : Int) + (R : Int) = (L : Int) := by omega
    have hL2 : IntKind.i64.wrap (L : Int) = L := IntWalk.i64_in _ (by omega)
    have HL := Lib.hid hL
    have hs0b : ∀ c, c < L → 0 ≤ sol0 p nb b c ∧ sol0 p nb b c < p := fun c _ => by
      unfold sol0; split
      · exact resid_bd _ p (by omega)
      · omega
    have HS0B := Lib.hid hs0b
    clear he hN hS hrc hbs hE hSR hSm hk hTR hTm h1 h2 h3 hI hT hQ hkR hL hs0b
    go_enter Try.func29, Try.ntmps29
    go_wp2_with (first
      | (go_at_call 43; refine (open_any R nb a n cap hn p hp true _).mono ?_; rw [HE.out]; rintro e w1 ⟨rfl, hb1⟩; have y0 := cell_stays hb1 (Z.out 0 _ rfl).1; have y1 := cell_stays hb1 (Z.out 1 _ rfl).1; have y2 := cell_stays hb1 (Z.out 2 _ rfl).1; have hB1 : Below w.heap.size w w1 := HB0.out.trans (hb1.mono (by rw [HS0.out]; omega)); have hs1 : w.heap.size + 1 ≤ w1.heap.size := (by have := hb1.size; rw [HS0.out] at this; exact this); have hr1 := Lib.hid (HR.out.below hB1); clear hb1)
      | (go_at_call 47; refine (beside_any p (by omega) p1 R nb n hR hK HN.out _ x _ hr1.out).mono ?_; rintro e w2 ⟨gb, B, C, rfl, hp2, hb2⟩; have y0 := cell_stays hb2 y0; have y1 := cell_stays hb2 y1; have y2 := cell_stays hb2 y2; have hB2 : Below w.heap.size w w2 := hB1.trans (hb2.mono (by omega)))
      | (go_at_call 44; refine (reduce_any p p0 p1 R (nb + R) nb R _ gb 0 B _ _ (besG p nb x) (by omega) (by omega) (by omega) (besG_res p p0 R nb x) _ hp2.grid hb2.size).mono ?_; rw [← HS.out]; rintro e w3 ⟨B', O', C', pv, rfl, hg3, ho3, hb3⟩; obtain ⟨pa, pc, rfl, ho4⟩ := own_ints ho3; have y0 := (World.cell?_of_block (w := w2) (a := ⟨w.heap.size, 0, none⟩) (hb3.block w.heap.size (by omega))).trans y0; have y1 := (World.cell?_of_block (w := w2) (a := ⟨w.heap.size, 1, none⟩) (hb3.block w.heap.size (by omega))).trans y1; have y2 := (World.cell?_of_block (w := w2) (a := ⟨w.heap.size, 2, none⟩) (hb3.block w.heap.size (by omega))).trans y2; have hB3 : Below w.heap.size w w3 := hB2.trans (hb3.mono (by omega))))
    rw [← HL.out] at hg3
    have hgb3 : gb < w3.heap.size := Nat.lt_of_lt_of_le hp2.blk.lt hb3.size
    have hs3 : w.heap.size + 1 ≤ w3.heap.size := Nat.le_trans hs1 (Nat.le_trans hb2.size hb3.size)
    have hst := SolR.start (e := 22) L y0 y1 y2 hB3 hg3 ho4 hs1 hs3 hgb3
    have HST := Lib.hid hst
    obtain ⟨rb, hrb⟩ : ∃ rb, rb = w3.heap.size := ⟨_, rfl⟩
    rw [← hrb] at HST ⊢
    clear hst hg3 ho3 ho4 hB3 hB2 hB1 hb3 hb2 hp2 y0 y1 y2 hr1
    generalize w3.alloc (.cells (madeCells #[.int .u64 0] L) 22) = W3 at HST ⊢
    clear hrb
    go_loopw [55] (fun iv wr => ∃ j : Nat, j ≤ nb ∧ iv = .int .i64 j ∧ SolR w wr R nb (.slice a n cap) rb R L gb 0 B' O' C' S.G pa S.P 0 L (fun c => if c < j then resid (b c) p else 0)) (fun iv _ => nb - (intOf iv).toNat)
    case atStart => exact ⟨0, by omega, rfl, HST.out.congr fun i _ => (if_neg (by omega)).symm⟩
    case round =>
      clear HST
      obtain ⟨j, j1, rfl, hrel⟩ := hrel
      have HREL := Lib.hid hrel
      clear hrel
      by_cases hj : j < nb
      · obtain ⟨c3, c4⟩ := HREL.out.row.get0 (i := j) (by have := HL.out; omega) (x := 0) (if_neg (by omega))
        obtain ⟨_, _, eb, _, _, hcells⟩ := HRB.out
        injection eb with eb1 eb2 eb3
        obtain ⟨bb, bo, hab, hc⟩ := hcells (by omega)
        subst eb1
        subst hab
        subst eb3
        obtain ⟨mm, d1, d2, d3⟩ := hc j hj
        obtain ⟨am, cm, rfl, -⟩ := d3.1
        have d1 := cell_stays HREL.out.below d1
        have d2 := cell_stays HREL.out.below d2
        have hrd : RdI wr (.agg #[.bool (b j).neg, .slice am (b j).n cm]) (b j) := ⟨_, rfl, d3.below HREL.out.below⟩
        have HRD := Lib.hid hrd
        have hlL : j < L := by have := HL.out; omega
        clear hrd hc d3
        go_wp2_with (go_at_call 55; refine (residue_any p (by omega) p1 _ (b j) _ HRD.out).mono ?_; rintro e w6 ⟨rfl, hb6⟩; have k1 := cell_stays hb6 c3; have k2 := froz_stays hb6 c3 c4)
        have h6 := HREL.out.same hb6
        have HPUT := Lib.hid ((h6.put (gb_set w6 ⟨rb, j, none⟩ (.int .u64 (resid (b j) p))) (h6.row.set0 hlL (resid (b j) p))).congr (f' := fun c => if c < j + 1 then resid (b c) p else 0) fun c _ => by
          by_cases e : c = j
          · rw [if_pos e, if_pos (by omega), e]
          · rw [if_neg e]
            by_cases e' : c < j
            · rw [if_pos e', if_pos (by omega)]
            · rw [if_neg e', if_neg (by omega)])
        clear h6
        go_roundw
        case rel => exact ⟨j + 1, by omega, by go_num, HPUT.out⟩
        case measure => simp [intOf]; omega
      · have ejn : nb = j := by omega
        subst ejn
        have hrel := HREL.out.congr (f' := clr p L S.G S.P (sol0 p nb b) 0) fun c _ => rfl
        have HREL := Lib.hid hrel
        clear hrel
        go_wp2_with fail
        -- the row is cleared at the pivots
        go_loopw [70] (fun iv wr => ∃ i : Nat, i ≤ S.P.length ∧ iv = .int .i64 i ∧ SolR w wr R nb (.slice a n cap) rb R L gb 0 B' O' C' S.G pa S.P 0 L (clr p L S.G S.P (sol0 p nb b) i)) (fun iv _ => S.P.length - (intOf iv).toNat)
        case atStart => exact ⟨0, by omega, rfl, HREL.out⟩
        case round =>
          clear HREL
          obtain ⟨i, i1, rfl, hrel⟩ := hrel
          have HREL := Lib.hid hrel
          clear hrel
          by_cases hi : i < S.P.length
          · obtain ⟨pb, rfl, -, e3⟩ := HREL.out.piv i hi
            have hdm := HSM.out (S.P.getD i 0) (by rw [List.getD_eq_getElem?_getD, List.getElem?_eq_getElem hi]; exact List.getElem_mem hi)
            obtain ⟨d, hd⟩ : ∃ d, d = S.P.getD i 0 := ⟨_, rfl⟩
            rw [← hd] at e3 hdm
            have hdL : d < L := by have := HL.out; omega
            obtain ⟨z, hz⟩ : ∃ z, z = clr p L S.G S.P (sol0 p nb b) i d := ⟨_, rfl⟩
            obtain ⟨c5, -⟩ := HREL.out.row.get0 hdL hz.symm
            obtain ⟨z0, z1⟩ := clr_res (p := p) (by omega) (G := S.G) (P := S.P) HS0B.out i d hdL
            rw [← hz] at z0 z1
            have hiR : i < R := by omega
            obtain ⟨c6, -⟩ := HREL.out.grid.cells i hiR
            rw [Nat.zero_add] at c6
            have hof := HREL.out.offB i hiR
            have hct := HREL.out.same (Below.refl wr.heap.size wr).drew
            have htk := take_any p z (by omega) p1 z0 z1 rb 0 L (B' i) (O' i) (C' i) L L 0 _ (S.G i) (by omega) (by omega) (Nat.le_refl _) (Nat.zero_le _) (fun e => hof e.symm) (fun c hc => clr_res (p := p) (by omega) (G := S.G) (P := S.P) HS0B.out i c hc) (fun c hc => HSR.out i c hiR hc) _ hct.row (hct.grid.rows i hiR)
            have HTK := Lib.hid htk
            have HCT := Lib.hid hct
            have HD := Lib.hid hd
            have HZ := Lib.hid hz
            have hi0 : (0 : Int) ≤ (i : Int) := by omega
            have hi2 : (i : Int) < (S.P.length : Int) := by omega
            have hi3 : (i : Int) < (R : Int) := by omega
            have hd0 : (0 : Int) ≤ (d : Int) := by omega
            have hd1 : (d : Int) < (L : Int) := by omega
            clear htk hct hd hz hdm hof
            go_wp2_with fail
            refine wp_region_still_tail 10 (by kernel_rfl) (by kernel_rfl) ?_
            simp only [List.take_succ_cons, List.take_zero, List.drop_succ_cons, List.drop_zero]
            repeat still_step
            refine wpStill_nil ?_
            change wpList _ _ _ _ _ wr.drew
            go_wp2_with fail
            refine HTK.out.mono ?_
            rintro e w6 ⟨rfl, hr6, hg6⟩
            have HP6 := Lib.hid ((HCT.out.put hg6 hr6).congr (f' := clr p L S.G S.P (sol0 p nb b) (i + 1)) fun c _ => by
              show _ = takeF p _ 0 L _ _ c
              rw [← HD.out, ← HZ.out]; rfl)
            clear hr6 hg6
            go_wp2_with fail
            go_roundw
            case rel => exact ⟨i + 1, by omega, by go_num, HP6.out⟩
            case measure => simp [intOf]; omega
          · have eil : S.P.length = i := by omega
            rw [← eil] at HREL
            have hrel := HREL.out
            rw [← H1.out] at hrel
            have HREL := Lib.hid hrel
            have y1 := hrel.x1
            clear hrel
            go_wp2_with fail
            -- what is left of b must be 0
            obtain ⟨wo, rfl⟩ : ∃ wo : World, wo = wr := ⟨_, rfl⟩
            clear y1
            go_loop [89] (fun jv => ∃ j : Nat, j ≤ nb ∧ jv = .int .i64 j ∧ anyNZ s1 j = false) (fun jv => nb - (intOf jv).toNat)
            case atStart => exact ⟨0, by omega, rfl, rfl⟩
            case round =>
              obtain ⟨j, j1, rfl, hnz⟩ := hrel
              have HNZ := Lib.hid hnz
              clear hnz
              by_cases hj : j < nb
              · have hjL : j < L := by have := HL.out; omega
                obtain ⟨c7, -⟩ := HREL.out.row.get0 (x := s1 j) hjL rfl
                have hj0 : (0 : Int) ≤ (j : Int) := by omega
                have hj2 : (j : Int) < (L : Int) := by omega
                by_cases hz : s1 j = 0
                · rw [hz] at c7
                  have HZ := Lib.hid hz
                  clear hz
                  go_wp2_with fail
                  go_round
                  case rel => exact ⟨j + 1, by omega, by go_num, by show (anyNZ s1 j || decide (s1 j ≠ 0)) = false; rw [HNZ.out, HZ.out]; rfl⟩
                  case measure => simp [intOf]; omega
                · have hzb : (s1 j != 0) = true := by rw [bne_iff_ne]; exact hz
                  have HA6 : Hid (anyNZ s1 nb = true) := by
                    show _ = _
                    cases hh : anyNZ s1 nb with
                    | true => rfl
                    | false => exact absurd (anyNZ_false.1 hh j hj) hz
                  generalize s1 j = v at c7 hzb
                  clear hz
                  go_wp2_with fail
                  go_ret2
                  have h56 : E5 = 6 := by rw [HE5.out, HA6.out, if_pos rfl]
                  exact ⟨_, retT rfl (by rw [h56]; rfl), fun h => absurd h (by rw [h56]; decide), fun _ => rfl, HREL.out.below⟩
              · have ejn : nb = j := by omega
                subst ejn
                have hLR : nb + R ≤ L := by have := HL.out; omega
                obtain ⟨ro, hro, hsl, hsa⟩ := slice_from rb (L := L) (nb := nb) (R := R) (by have := HL.out; omega) (by omega)
                have hsh : SolR w wo R nb (.slice a n cap) rb R L gb 0 B' O' C' S.G pa S.P ro R (fun c => s1 (nb + c)) := by
                  rcases hro with e | e
                  · rw [e]; exact HREL.out.shift hLR
                  · exact { HREL.out with row := fun i hi => absurd hi (by omega) }
                have HSH := Lib.hid (hsh.congr (f' := fun c => if c < 0 then s2 c else s1 (nb + c)) fun c _ => (if_neg (by omega)).symm)
                have HRO := Lib.hid hro
                have y0 := HREL.out.x0
                have y1 := HREL.out.x1
                have y2 := HREL.out.x2
                have HS1B : Hid (∀ c, c < L → 0 ≤ s1 c ∧ s1 c < p) := by
                  intro c hc
                  rw [H1.out]
                  exact clr_res (p := p) (by omega) (G := S.G) (P := S.P) HS0B.out _ c hc
                have hLnb : L - nb = R := by have := HL.out; omega
                clear hsh HREL hro
                go_wp2_with fail
                clear hsl hsa
                -- the sign is turned
                go_loopw [104] (fun iv wr => ∃ i' : Nat, i' ≤ R ∧ iv = .int .i64 i' ∧ SolR w wr R nb (.slice a n cap) rb R L gb 0 B' O' C' S.G pa S.P ro R (fun c => if c < i' then s2 c else s1 (nb + c))) (fun iv _ => R - (intOf iv).toNat)
                case atStart => exact ⟨0, by omega, rfl, HSH.out⟩
                case round =>
                  clear HSH y0 y1 y2
                  obtain ⟨j, j2, rfl, hrel⟩ := hrel
                  have HREL := Lib.hid hrel
                  clear hrel
                  by_cases hj : j < R
                  · obtain ⟨c8, c9⟩ := HREL.out.row.get hj (x := s1 (nb + j)) (if_neg (by omega))
                    obtain ⟨z0, z1⟩ := HS1B.out (nb + j) (by omega)
                    have hv : Hid (s2 j = (p - s1 (nb + j)) % p) := H2.out j
                    have hput := HREL.out.put (gb_set wr ⟨rb, ro + j, none⟩ (.int .u64 ((p - s1 (nb + j)) % p))) (HREL.out.row.set hj ((p - s1 (nb + j)) % p))
                    have HPUT := Lib.hid (hput.congr (f' := fun c => if c < j + 1 then s2 c else s1 (nb + c)) fun c _ => by
                      by_cases e : c = j
                      · rw [if_pos e, if_pos (by omega), e]; exact hv.out.symm
                      · rw [if_neg e]
                        by_cases e' : c < j
                        · rw [if_pos e', if_pos (by omega)]
                        · rw [if_neg e', if_neg (by omega)])
                    rw [show (p - s1 (nb + j)) % p = -s1 (nb + j) % p by simp] at HPUT
                    generalize s1 (nb + j) = z at *
                    clear hput
                    go_wp2_with fail
                    go_roundw
                    case rel => exact ⟨j + 1, by omega, by go_num, HPUT.out⟩
                    case measure => simp [intOf]; omega
                  · have ejR : R = j := by omega
                    have hrel := HREL.out.congr (f' := s2) fun c hc => if_pos (by omega)
                    have HREL4 := Lib.hid hrel
                    obtain ⟨y0, y1, y2⟩ := And.intro hrel.x0 (And.intro hrel.x1 hrel.x2)
                    clear hrel HREL
                    subst ejR
                    go_wp2_with fail
                    -- the kernel
                    refine (HK.out _ (HR.out.below HREL4.out.below)).mono ?_
                    rintro e w7 ⟨gb2, go2, B2, O2, C2, pv2, rfl, hg2, ho2, hb2⟩
                    obtain ⟨pa2, pc2, rfl, hp2⟩ := own_ints ho2
                    have hot := HREL4.out.other hb2 hg2 hp2
                    have HOT := Lib.hid (hot.congr (f' := clr p R T.G T.P s2 0) fun c _ => rfl)
                    clear hot hg2 ho2 hb2 hp2 y0 y1 y2
                    go_wp2_with fail
                    -- cleared at the kernel's pivots
                    go_loopw [127] (fun iv wr => ∃ i' : Nat, i' ≤ T.P.length ∧ iv = .int .i64 i' ∧ SolR w wr R nb (.slice a n cap) rb q R gb2 go2 B2 O2 C2 T.G pa2 T.P ro R (clr p R T.G T.P s2 i')) (fun iv _ => T.P.length - (intOf iv).toNat)
                    case atStart => exact ⟨0, by omega, rfl, HOT.out⟩
                    case round =>
                      clear HOT HREL4
                      obtain ⟨i', i1', rfl, hrel⟩ := hrel
                      have HREL := Lib.hid hrel
                      clear hrel
                      have HS2B : Hid (∀ c, c < R → 0 ≤ s2 c ∧ s2 c < p) := by
                        intro c _
                        rw [H2.out c]
                        exact ⟨Int.emod_nonneg _ (by omega), Int.emod_lt_of_pos _ (by omega)⟩
                      by_cases hi : i' < T.P.length
                      · obtain ⟨pb, rfl, -, e3⟩ := HREL.out.piv i' hi
                        have hdm := HTM.out (T.P.getD i' 0) (by rw [List.getD_eq_getElem?_getD, List.getElem?_eq_getElem hi]; exact List.getElem_mem hi)
                        obtain ⟨d, hd⟩ : ∃ d, d = T.P.getD i' 0 := ⟨_, rfl⟩
                        rw [← hd] at e3 hdm
                        obtain ⟨z, hz⟩ : ∃ z, z = clr p R T.G T.P s2 i' d := ⟨_, rfl⟩
                        obtain ⟨c5, -⟩ := HREL.out.row.get hdm hz.symm
                        obtain ⟨z0, z1⟩ := clr_res (p := p) (by omega) (G := T.G) (P := T.P) HS2B.out i' d hdm
                        rw [← hz] at z0 z1
                        have hiq : i' < q := by omega
                        obtain ⟨c6, -⟩ := HREL.out.grid.cells i' hiq
                        have hof := HREL.out.offB i' hiq
                        have hct := HREL.out.same (Below.refl wr.heap.size wr).drew
                        have htk := take_any p z (by omega) p1 z0 z1 rb ro R (B2 i') (O2 i') (C2 i') R R 0 _ (T.G i') (by omega) (by omega) (Nat.le_refl _) (Nat.zero_le _) (fun e => hof e.symm) (fun c hc => clr_res (p := p) (by omega) (G := T.G) (P := T.P) HS2B.out i' c hc) (fun c hc => HTR.out i' c hiq hc) _ hct.row (hct.grid.rows i' hiq)
                        have HTK := Lib.hid htk
                        have HCT := Lib.hid hct
                        have HD := Lib.hid hd
                        have HZ := Lib.hid hz
                        have hi0 : (0 : Int) ≤ (i' : Int) := by omega
                        have hi2 : (i' : Int) < (T.P.length : Int) := by omega
                        have hi3 : (i' : Int) < (q : Int) := by omega
                        have hd0 : (0 : Int) ≤ (d : Int) := by omega
                        have hd1 : (d : Int) < (R : Int) := by omega
                        clear htk hct hd hz hof
                        go_wp2_with fail
                        refine wp_region_still_tail 10 (by kernel_rfl) (by kernel_rfl) ?_
                        simp only [List.take_succ_cons, List.take_zero, List.drop_succ_cons, List.drop_zero]
                        repeat still_step
                        refine wpStill_nil ?_
                        change wpList _ _ _ _ _ wr.drew
                        go_wp2_with fail
                        refine HTK.out.mono ?_
                        rintro e w6 ⟨rfl, hr6, hg6⟩
                        have HP6 := Lib.hid ((HCT.out.put hg6 hr6).congr (f' := clr p R T.G T.P s2 (i' + 1)) fun c _ => by
                          show _ = takeF p _ 0 R _ _ c
                          rw [← HD.out, ← HZ.out]; rfl)
                        clear hr6 hg6
                        go_wp2_with fail
                        go_roundw
                        case rel => exact ⟨i' + 1, by omega, by go_num, HP6.out⟩
                        case measure => simp [intOf]; omega
                      · have eil : T.P.length = i' := by omega
                        rw [← eil] at HREL
                        have hrel := HREL.out
                        rw [← H3.out] at hrel
                        have HREL := Lib.hid hrel
                        have h3b : ∀ c, c < R → 0 ≤ s3 c ∧ s3 c < 2147483648 := fun c hc => by
                          rw [H3.out]
                          have := clr_res (p := p) (by omega) (G := T.G) (P := T.P) HS2B.out T.P.length c hc
                          omega
                        have hg1 := hrel.grid1 (e := 54) (cap := R) (Nat.le_refl R) hR
                        have hwh := whole_one R 1 _ _ rb ro R s3 hR h3b _ hg1
                        have HWH := Lib.hid hwh
                        have hba : Below wr.heap.size wr (wr.alloc (.cells #[.slice (some ⟨rb, ro, none⟩) R R] 54)) := (Below.refl _ _).alloc (Nat.le_refl _) _
                        have hbw := hrel.below.trans (hba.mono hrel.below.size)
                        have HBW := Lib.hid hbw
                        have h50 : E5 = 0 := by rw [HE5.out, HNZ.out]; rfl
                        have H50 := Lib.hid h50
                        clear hrel h3b hg1 hwh hba hbw h50
                        go_wp2_with fail
                        refine HWH.out.mono ?_
                        rintro e w9 ⟨lb, M, rfl, hls, hb9⟩
                        have hbel := HBW.out.trans (hb9.mono HBW.out.size)
                        have hsw := HBW.out.size
                        clear hb9
                        have fld : ∀ (r : Int) (u : World), (Instr.field 34 (.agg #[.int .i64 1, .int .i64 r, .slice (some ⟨lb, 0, none⟩) R R]) 2).run Try.prog u = .ok (.slice (some ⟨lb, 0, none⟩) R R) u := fun _ _ => by kernel_rfl
                        go_wp2_with fail
                        go_ret2
                        exact ⟨_, retT rfl (by rw [H50.out]; rfl), fun _ => ⟨lb, M, rfl, hls.mono hsw hsw⟩, fun h => absurd H50.out h, hbel⟩
  · have hI : solE r c n nb x b p = openE r c n p ((nb : Int) == c) := if_neg he
    have hne : (openE r c n p ((nb : Int) == c) != 0) = true := by rw [bne_iff_ne]; exact he
    rw [hI]
    obtain ⟨E, hE⟩ : ∃ E, E = openE r c n p ((nb : Int) == c) := ⟨_, rfl⟩
    rw [← hE] at hne ⊢
    have HE := Lib.hid hE.symm
    have HNE : Hid (E ≠ 0) := by rw [hE]; exact he
    clear he hE hI
    go_enter Try.func29, Try.ntmps29
    go_wp2_with (go_at_call 43; refine (open_any r c a n cap hn p hp ((nb : Int) == c) _).mono ?_; rw [HE.out]; rintro e w1 ⟨rfl, hb1⟩)
    go_ret2
    exact ⟨_, rfl, fun h => absurd h HNE.out, fun _ => rfl, HB0.out.trans (hb1.mono (by rw [HS0.out]; omega))⟩

end Go.Proofs.Ytdlpemmoobbgnaa

namespace Go.Proofs.Ytdlpemmoobbgnaa
open laF

section
variable {q : Nat} [NeZero q] {m n j r : Nat}

/-- a row cleared at the pivots is the row less its entries there times the rows -/
theorem clr_ph {G : Nat → Nat → Int} {P : List Nat} {f : Nat → Int} (h : Rref m j P.length (fun i => P.getD i 0) (phG q G)) (hj : j ≤ n) : ∀ i, i ≤ P.length → ∀ c, c < n →
    (ph (clr q n G P f i c) : Fin q) = ph (f c) - sm i (fun l => ph (f (P.getD l 0)) * phG q G l c)
  | 0, _, c, _ => by show ph (f c) = ph (f c) - 0; grind
  | i + 1, hi, c, hc => by
    have hl := h.lt i (by omega)
    try dsimp only at hl
    have h1 := clr_ph (f := f) h hj i (by omega) c hc
    have h2 := clr_ph (f := f) h hj i (by omega) (P.getD i 0) (by omega)
    rw [sm_zero (n := i) (fun l hl' => by
      have := h.col l i (by have := h.le; omega) (by omega) (by omega)
      try dsimp only at this
      rw [this]; grind)] at h2
    show ph (takeF q _ 0 n _ _ c) = _
    unfold takeF
    rw [if_pos ⟨Nat.zero_le _, hc⟩, ph_mod, ph_add, ph_mul, ph_sub_p, h1, h2]
    simp only [sm]
    unfold phG; grind

end

section
variable {R C : Nat} {xa b : Nat → Raw}

theorem sol0_ph {q : Nat} [NeZero q] (h2 : 2 ≤ q) {j : Nat} (hj : j < C) : (ph (sol0 q C b j) : Fin q) = ph (b j).val := by
  unfold sol0
  rw [if_pos hj, resid_eq _ (by omega), ph_mod]
theorem sol0_right {q : Nat} [NeZero q] (t : Nat) : (ph (sol0 q C b (C + t)) : Fin q) = 0 := by
  unfold sol0
  rw [if_neg (by omega)]; exact ph_zero

/-- what the clearing leaves in b's places and behind them -/
theorem sol1_ph {q : Nat} [NeZero q] (hq : isPB q = true) (R C : Nat) (xa b : Nat → Raw) {c : Nat} (hc : c < C + R) :
    (ph (sol1 q R C xa b c) : Fin q) = ph (sol0 q C b c) - sm (besS q R C xa).P.length (fun l => ph (b ((besS q R C xa).P.getD l 0)).val * phG q (besS q R C xa).G l c) := by
  have h2 := isPB_ge q hq
  have h := (besS_ok hq R C xa).1
  have e := clr_ph (f := sol0 q C b) (n := C + R) (j := C) h (by omega) _ (Nat.le_refl _) c hc
  unfold sol1
  rw [e]
  rw [sm_congr (g := fun l => ph (b ((besS q R C xa).P.getD l 0)).val * phG q (besS q R C xa).G l c) (fun l hl => by
    have := h.lt l hl
    try dsimp only at this
    rw [sol0_ph h2 this])]

/-- the row that is answered -/
theorem sol_good {p : Int} (hp : primeB p = true) (h : anyNZ (sol1 p R C xa b) C = false) :
    (∀ t, t < R → 0 ≤ sol3 p R C xa b t ∧ sol3 p R C xa b t < p) ∧ (∀ j, j < C → (dotZ (sol3 p R C xa b) (fun t => (xa (t * C + j)).val) R - (b j).val) % p = 0) ∧
    ∀ l, l < R - kerR p R C xa → sol3 p R C xa b ((kerS p R C xa).P.getD l 0) = 0 := by
  obtain ⟨q, rfl, hq, hz⟩ := prime_nat hp
  have h2 := isPB_ge q hq
  obtain ⟨h1, h3⟩ := besS_ok hq R C xa
  obtain ⟨k1, k2⟩ := kerS_ok hq R C xa
  have hfull := ker_full hq R C xa
  have hx2 : ∀ t, 0 ≤ sol2 q R C xa b t ∧ sol2 q R C xa b t < q := fun t => ⟨Int.emod_nonneg _ (by omega), Int.emod_lt_of_pos _ (by omega)⟩
  have hbd : ∀ t, t < R → 0 ≤ sol3 q R C xa b t ∧ sol3 q R C xa b t < q := fun t ht => clr_res (p := q) (by omega) (fun c _ => hx2 c) _ t ht
  -- x' before the kernel is taken off
  have hx' : ∀ t, t < R → (ph (sol2 q R C xa b t) : Fin q) = sm (besS q R C xa).P.length (fun l => ph (b ((besS q R C xa).P.getD l 0)).val * phG q (besS q R C xa).G l (C + t)) := fun t ht => by
    unfold sol2
    rw [ph_mod, ph_sub_p, sol1_ph hq R C xa b (by omega), sol0_right]; grind
  have hy : ∀ t, t < R → (ph (sol3 q R C xa b t) : Fin q) = ph (sol2 q R C xa b t) - sm (kerS q R C xa).P.length (fun l => ph (sol2 q R C xa b ((kerS q R C xa).P.getD l 0)) * phG q (kerS q R C xa).G l t) := fun t ht =>
    clr_ph (f := sol2 q R C xa b) (n := R) (j := R) k1 (Nat.le_refl R) _ (Nat.le_refl _) t ht
  refine ⟨hbd, fun j hj => ?_, fun l hl => ?_⟩
  · refine ph_zero_iff.1 ?_
    rw [ph_sub, ph_dotZ]
    have hz1 := anyNZ_false.1 h j hj
    have hs1 := sol1_ph hq R C xa b (c := j) (by omega)
    rw [hz1, ph_zero, sol0_ph h2 hj] at hs1
    -- the sum over x'
    have e1 : sm R (fun t => (ph (sol2 q R C xa b t) : Fin q) * ph (xa (t * C + j)).val) = ph (b j).val := by
      rw [sm_congr (g := fun t => sm (besS q R C xa).P.length (fun l => ph (b ((besS q R C xa).P.getD l 0)).val * phG q (besS q R C xa).G l (C + t)) * ph (xa (t * C + j)).val) (fun t ht => by rw [hx' t ht])]
      rw [sm_assoc (fun l => (ph (b ((besS q R C xa).P.getD l 0)).val : Fin q)) (fun t => (ph (xa (t * C + j)).val : Fin q)) (fun l t => phG q (besS q R C xa).G l (C + t))]
      rw [sm_congr (g := fun l => (ph (b ((besS q R C xa).P.getD l 0)).val : Fin q) * phG q (besS q R C xa).G l j) (fun l hl => by
        have hlR : l < R := by have := h1.le; unfold kerR at this; omega
        rw [bes_comb bes_rows (h3.2 l hlR) j hj]
        refine congrArg (fun z => (ph (b ((besS q R C xa).P.getD l 0)).val : Fin q) * z) (sm_congr fun t _ => ?_)
        rw [phG_resG (by omega)])]
      grind
    rw [sm_congr (g := fun t => (ph (sol2 q R C xa b t) : Fin q) * ph (xa (t * C + j)).val + (-1) * (sm (kerS q R C xa).P.length (fun l => ph (sol2 q R C xa b ((kerS q R C xa).P.getD l 0)) * phG q (kerS q R C xa).G l t) * ph (xa (t * C + j)).val)) (fun t ht => by rw [hy t ht]; grind)]
    rw [sm_add, e1, sm_mul, sm_assoc (fun l => (ph (sol2 q R C xa b ((kerS q R C xa).P.getD l 0)) : Fin q)) (fun t => (ph (xa (t * C + j)).val : Fin q)) (fun l t => phG q (kerS q R C xa).G l t)]
    rw [sm_zero (n := (kerS q R C xa).P.length) (fun l hl => by
      have hz := kerS_zero hq (x := xa) (l := l) (by rw [hfull] at hl; exact hl) hj
      rw [show sm R (fun t => phG q (kerS q R C xa).G l t * ph (xa (t * C + j)).val) = 0 from hz]; grind)]
    grind
  · have hlt := k1.lt l (by rw [hfull]; exact hl)
    try dsimp only at hlt
    have b1 := hbd _ hlt
    refine ph_zero_eq b1.1 b1.2 ?_
    rw [hy _ hlt, sm_one _ (show l < (kerS q R C xa).P.length by rw [hfull]; exact hl) (fun k hk hne => by
      have := k1.col k l (by rw [hfull] at hk; exact hk) (by rw [hfull]; exact hl) hne
      try dsimp only at this
      rw [this]; grind)]
    have h1' := k1.one l (by rw [hfull]; exact hl)
    try dsimp only at h1'
    rw [h1']; grind

end
end Go.Proofs.Ytdlpemmoobbgnaa

namespace Go.Proofs.Ytdlpemmoobbgnaa
open Go.RowKit

theorem flatI_get {b m : Nat → Value} : ∀ {n j : Nat} {u : Value}, (flatI b m n)[j]? = some u → ∃ i, i < n ∧ ((j = i * 2 ∧ u = b i) ∨ (j = i * 2 + 1 ∧ u = m i))
  | 0, j, u, h => by simp [flatI] at h
  | n + 1, j, u, h => by
    have hl := flatI_len b m n
    change (flatI b m n ++ [b n, m n])[j]? = some u at h
    by_cases c : j < n * 2
    · rw [List.getElem?_append_left (by omega)] at h
      obtain ⟨i, hi, h1⟩ := flatI_get h
      exact ⟨i, by omega, h1⟩
    · rw [List.getElem?_append_right (by omega), hl] at h
      refine ⟨n, by omega, ?_⟩
      rcases (by omega : j - n * 2 = 0 ∨ j - n * 2 = 1 ∨ 2 ≤ j - n * 2) with e | e | e
      · rw [e] at h; simp at h; exact Or.inl ⟨by omega, h.symm⟩
      · rw [e] at h; simp at h; exact Or.inr ⟨by omega, h.symm⟩
      · rw [List.getElem?_eq_none (by simp; omega)] at h; cases h
theorem flatI_cat {b m b' m' : Nat → Value} (n : Nat) : ∀ k, flatI b m n ++ flatI b' m' k = flatI (fun i => if i < n then b i else b' (i - n)) (fun i => if i < n then m i else m' (i - n)) (n + k)
  | 0 => by
    show flatI b m n ++ [] = flatI _ _ n
    rw [List.append_nil]
    exact flatI_congr fun i hi => ⟨(if_pos hi).symm, (if_pos hi).symm⟩
  | k + 1 => by
    show flatI b m n ++ (flatI b' m' k ++ [b' k, m' k]) = flatI _ _ (n + k) ++ [if n + k < n then b (n + k) else b' (n + k - n), if n + k < n then m (n + k) else m' (n + k - n)]
    rw [← List.append_assoc, flatI_cat n k, if_neg (by omega), if_neg (by omega), Nat.add_sub_cancel_left]

/-- 'append(l, s...)': the integers of a list that w0 holds -/
theorem wp_catI {w0 wr : World} {ops : Array Oper} {rest : List Oper} {o : Oper} {a : Act} {Q : Exit → Act → World → Prop} (hgd : o.guard = none) (s x : Operand) (t : TypeId)
    (ho : o.op = .call { callee := .builtin .append, args := #[s, x], argTypes := #[t, t] }) (ht : Try.prog.underlying t = some (.slice 56))
    {base : Nat} {v : Value} {n : Nat} {X : Nat → Raw} (hown : OwnI w0 wr base v n X) (hs : a.eval s = v) {ad : Option Addr} {m cap : Nat} (hx : a.eval x = .slice ad m cap) (hnil : ad = none → cap = 0) (hb : base ≤ wr.heap.size) (hn : n + m ≤ 1048576)
    {Y : Nat → Raw} (hrd : RdL w0 (.slice ad m cap) m Y) (hold : Below w0.heap.size w0 wr)
    (h : ∀ v' w', OwnI w0 w' base v' (n + m) (fun i => if i < n then X i else Y (i - n)) → Below base wr w' → wpList Try.prog ops Q rest (a.put o.dst v') w') : wpList Try.prog ops Q (o :: rest) a wr := by
  obtain ⟨i0, hi, hz0, hz1, hz2⟩ := info_parts infoI
  obtain ⟨M, h1, h2⟩ := hown
  cases ad with
  | none =>
    have hc := hnil rfl
    subst hc
    have hm : m = 0 := by
      obtain ⟨a2, c2, e, h3, -⟩ := hrd
      simp only [Value.slice.injEq] at e
      omega
    subst hm
    refine wpList_append_own_none hgd s x t ho base 56 i0 2 ht hi v n _ hs h1 hx (h v wr ⟨M, ?_, fun i hi => ?_⟩ (Below.refl _ _))
    · rw [flatI_congr (b' := fun i => .bool (X i).neg) (m' := M) (fun i hi => ⟨by simp only [if_pos (show i < n from hi)], rfl⟩)]; exact h1
    · simp only [if_pos (show i < n from hi)]; exact h2 i hi
  | some adr =>
    obtain ⟨a', cap', e, -, -, hc⟩ := hrd
    injection e with e1 _ e2
    subst e1; subst e2
    have hcells : ∀ i, i < m → ∃ u : Value, wr.cell? (adr.add (i * 2)) = some (.bool (Y i).neg) ∧ wr.cell? (adr.add (i * 2 + 1)) = some u ∧ RdW w0 u (Y i).n (Y i).f := fun i hi => by
      obtain ⟨b, o', e, hc2⟩ := hc (by omega)
      injection e with e
      subst e
      obtain ⟨u, c0, c1, c2⟩ := hc2 i hi
      exact ⟨u, by rw [adn]; exact cell_stays hold c0, by rw [adn, ← Nat.add_assoc]; exact cell_stays hold c1, c2⟩
    have : Inhabited Value := ⟨.slice none 0 0⟩
    obtain ⟨M', hM⟩ := Go.Deep.choose_lt (α := Value) hcells
    refine wpList_append_own _ hgd s x t ho base 56 i0 _ 2 32 ht hi hz0 hz1 hz2 rfl (by omega) v n _ hs h1 adr m cap (flatI (fun i => .bool (Y i).neg) M' m) hx (flatI_len _ _ m) ?_ ?_ (by unfold maxLen; omega) (by omega) hb fun v' w' g1 g2 _ => h v' w' ?_ ?_
    · intro j u hj
      obtain ⟨i, hi, ⟨rfl, rfl⟩ | ⟨rfl, rfl⟩⟩ := flatI_get hj
      · exact (hM i hi).1
      · exact (hM i hi).2.1
    · intro u hu
      obtain ⟨j, hj⟩ := List.getElem?_of_mem hu
      obtain ⟨i, hi, ⟨-, rfl⟩ | ⟨-, rfl⟩⟩ := flatI_get hj
      · rfl
      · obtain ⟨a2, c2, e2, -⟩ := (hM i hi).2.2.1
        rw [e2]; rfl
    · refine ⟨fun i => if i < n then M i else M' (i - n), ?_, fun i hi => ?_⟩
      · have hfc : ∀ i, i < n + m → Value.bool ((fun i => if i < n then X i else Y (i - n)) i).neg = (if i < n then (fun i => Value.bool (X i).neg) i else (fun i => Value.bool (Y i).neg) (i - n)) ∧ (if i < n then M i else M' (i - n)) = (if i < n then M i else M' (i - n)) := fun i _ => ⟨by
          by_cases c : i < n
          · simp only [if_pos c]
          · simp only [if_neg c], rfl⟩
        have hcat := flatI_cat (b := fun i => Value.bool (X i).neg) (m := M) (b' := fun i => Value.bool (Y i).neg) (m' := M') n m
        rw [hcat] at g1
        rw [flatI_congr hfc]
        exact g1
      · by_cases c : i < n
        · simp only [if_pos c]; exact h2 i c
        · simp only [if_neg c]; exact (hM (i - n) (by omega)).2.2
    · exact (Below.refl _ _).grown g2 hb fun k hk => (h1.lt k hk).1

end Go.Proofs.Ytdlpemmoobbgnaa

namespace Go.Proofs.Ytdlpemmoobbgnaa
open Go.RowKit

end Go.Proofs.Ytdlpemmoobbgnaa
