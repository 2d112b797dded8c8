/- The walks of charpoly.size and Trim. A region that draws its order: what reads comes up first, all of it; then what is left, one by one. The walk of charpoly.Add. The walk of charpoly.Mul. The walk of charpoly.monic. The walks of mat.build over the closures of Unit and Diag; mat.Unit, mat.Zero. The walks of the closures of mat.Unit and Diag; mat.Unit, Diag without a list, Zero. The walks of mat.Unit, mat.Diag without a list, mat.Zero. The walks of mat.place over zint.Sub and of mat.Sub. The walk of mat.Trace. The walk of charpoly.square. The walk of charpoly.lift. What memory holds in the loop of charpoly.Char; plain facts on flat matrices. Plain: the characteristic polynomials of ab and ba; the product with a power of x. A region that draws its order: what yields in whatever world, behind a call. trellisref01.SameInt, SameRow, SameMat where they answer yes. The walk of charpoly.Char. -/
import Derived.Test.YtejliecmdkmgiaaGK
import Derived.Test.YtejliecmdkmgiaaGQ
import Derived.Test.YtejliecmdkmgiaaGE
import Derived.Deep.RegionHeld3
import Derived.Test.YtejliecmdkmgiaaGI
import Derived.Test.YtejliecmdkmgiaaGH
set_option linter.unusedVariables false
set_option linter.unusedSimpArgs false
set_option maxHeartbeats 8000000
set_option maxRecDepth 100000
namespace Go.Proofs.Ytejliecmdkmgiaa
open Go.RowKit
theorem PaE.ready {w : World} {base lb n k : Nat} {D : Nat → Prop} {E : Nat → Int} (h : PaE w base D lb n k E) {j : Nat} (hj : j < n) : ∃ u1 u2, w.cell? ⟨lb, j * 2, none⟩ = some u1 ∧ w.cell? ⟨lb, j * 2 + 1, none⟩ = some u2 ∧ w.frozen? ⟨lb, j * 2, none⟩ = false ∧ w.frozen? ⟨lb, j * 2 + 1, none⟩ = false := by
  obtain ⟨f1, f2⟩ := h.blk.cell (i := j * 2) (by omega)
  obtain ⟨f3, f4⟩ := h.blk.cell (i := j * 2 + 1) (by omega)
  obtain ⟨u1, g1⟩ := Option.isSome_iff_exists.1 f1
  obtain ⟨u2, g2⟩ := Option.isSome_iff_exists.1 f3
  exact ⟨u1, u2, g1, g2, f2, f4⟩
theorem PaE.putz {w : World} {base lb n i : Nat} {D : Nat → Prop} {E : Nat → Int} (h : PaE w base D lb n n E) (hi : i < n) (hl : D lb) {v : Value} {b : Nat} {z : Int} (hf : FrZ w b v z) {S : Nat} (hz : ZB S z) (hS : S ≤ 274877906944) (hD : ∀ k, b ≤ k → k < w.heap.size → ¬ D k) :
    ∃ s a c d, v = .agg #[.bool s, .slice a c d] ∧ PaE ((w.setCell ⟨lb, i * 2, none⟩ (.bool s)).setCell ⟨lb, i * 2 + 1, none⟩ (.slice a c d)) base D lb n n (fun t => if t = i then z else E t) := by
  have hle := hf.le hz hS
  obtain ⟨a, c, d, rfl, ho⟩ := hf.agg
  refine ⟨_, _, _, _, rfl, ?_⟩
  have := h.put hi (by omega) hl hle (fun k hk => ⟨(ho k hk).2, hD k (ho k hk).1 (ho k hk).2⟩)
  rwa [show max n (i + 1) = n by omega] at this
theorem PaE.zeros (w : World) (base n : Nat) (D : Nat → Prop) (hb : base ≤ w.heap.size) : PaE (w.alloc (.cells (madeCells #[.bool false, .slice none 0 0] (n * 2)) 49)) base D w.heap.size n n (fun _ => 0) := by
  have h := heap_alloc_new w (.cells (madeCells #[.bool false, .slice none 0 0] (n * 2)) 49)
  refine ⟨hb, ⟨_, h, by simp [madeCells]⟩, fun i hi => ⟨false, .slice none 0 0, ?_, ?_, le_zero _, fun b hb => by simp [Value.ownBlock] at hb⟩⟩
  · rw [cell_of_row _ _ _ _ _ _ h]
    simp [madeCells, show i * 2 < n * 2 by omega]
  · rw [cell_of_row _ _ _ _ _ _ h]
    simp [madeCells, show i * 2 + 1 < n * 2 by omega, show (i * 2 + 1) % 2 = 1 by omega]
theorem gb_two (w : World) (lb i j : Nat) (x y : Value) : w.grownBy ((w.setCell ⟨lb, i, none⟩ x).setCell ⟨lb, j, none⟩ y) (some lb) := gb_trans (gb_set _ _ _) (gb_set _ _ _)
def szE (E : Nat → Int) : Nat → Nat
  | 0 => 0
  | n + 1 => if E n = 0 then szE E n else n + 1
theorem szE_le (E : Nat → Int) : ∀ n, szE E n ≤ n
  | 0 => Nat.le_refl _
  | n + 1 => by
    have := szE_le E n
    show (if E n = 0 then szE E n else n + 1) ≤ n + 1
    split <;> omega
theorem szE_down (E : Nat → Int) : ∀ n i, i ≤ n → (∀ k, i ≤ k → k < n → E k = 0) → szE E n = szE E i
  | 0, i, h, _ => by obtain rfl : i = 0 := by omega
                     rfl
  | n + 1, i, h, hk => by
    by_cases e : i = n + 1
    · rw [e]
    · show (if E n = 0 then szE E n else n + 1) = _
      rw [if_pos (hk n (by omega) (by omega))]
      exact szE_down E n i (by omega) (fun k h1 h2 => hk k h1 (by omega))
theorem csize_any (x : Value) (n : Nat) (E : Nat → Int) (w : World) (hx : RdE w x n E) :
    Calls Try.prog 92 #[x] w fun e w' => e = .returned (.int .i64 (szE E n : Nat)) ∧ Below w.heap.size w w' := by
  obtain ⟨a, cap, rfl, hcap⟩ := hx.slice
  have hnb : n ≤ 1048576 := by obtain ⟨_, _, e, -, h, -⟩ := hx; exact h
  have HX := Lib.hid hx
  clear hx
  go_enter Try.func92, Try.ntmps92
  go_wp2_with fail
  go_loopw [3] (fun iv wr => ∃ i : Nat, i ≤ n ∧ iv = .int .i64 i ∧ (∀ k, i ≤ k → k < n → E k = 0) ∧ Below w.heap.size w wr) (fun iv _ => (intOf iv).toNat)
  case atStart => exact ⟨n, Nat.le_refl _, rfl, fun k h1 h2 => by omega, Below.refl _ _⟩
  case round =>
    obtain ⟨i, hi, rfl, hz, hbl⟩ := hrel
    have HZ := Lib.hid hz
    have HB := Lib.hid hbl
    clear hz hbl
    by_cases h0 : 0 < i
    · obtain ⟨k, hk⟩ : ∃ k, i = k + 1 := ⟨i - 1, by omega⟩
      obtain ⟨b, o, s, m, rfl, c1, c2, hzk⟩ := (HX.out.below HB.out).get (show k < n by omega)
      have h0' : (0 : Int) < (i : Int) := by omega
      have h1' : (i : Int) - 1 < (n : Int) := by omega
      have hq : i - 1 = k := by omega
      rw [← hq] at c1 c2
      have hsg := zSign_any _ (E k) wr hzk
      have HK := Lib.hid hk
      clear hk hq hzk
      by_cases he : E k = 0
      · rw [show sgZ (E k) = 0 by unfold sgZ; rw [if_pos he]] at hsg
        have HSG := Lib.hid hsg
        have HE := Lib.hid he
        clear hsg he
        go_wp2_with (go_at_call 39; refine HSG.out.mono ?_; rintro e w3 ⟨rfl, hb3⟩)
        go_roundw
        case rel => exact ⟨k, by have := HK.out; omega, by rw [HK.out]; go_num, fun j h1 h2 => by
          by_cases e : j = k
          · rw [e]; exact HE.out
          · exact HZ.out j (by have := HK.out; omega) h2, HB.out.trans (hb3.mono HB.out.size)⟩
        case measure => simp [intOf]; omega
      · have hs0 : (sgZ (E k) == 0) = false := by rw [beq_eq_false_iff_ne]; unfold sgZ; rw [if_neg he]; split <;> omega
        have HSG := Lib.hid hsg
        have HE := Lib.hid he
        clear hsg he
        go_wp2_with (go_at_call 39; refine HSG.out.mono ?_; rintro e w3 ⟨rfl, hb3⟩)
        go_ret
        refine ⟨?_, HB.out.trans (hb3.mono HB.out.size)⟩
        rw [szE_down E n i hi HZ.out, HK.out]
        show _ = Ending.returned (.int .i64 ((if E k = 0 then szE E k else k + 1 : Nat) : Int))
        rw [if_neg HE.out]
        rfl
    · obtain rfl : i = 0 := by omega
      go_wp2_with fail
      go_ret
      exact ⟨by rw [szE_down E n 0 (Nat.zero_le _) HZ.out]; rfl, HB.out⟩
end Go.Proofs.Ytejliecmdkmgiaa
namespace Go.Proofs.Ytejliecmdkmgiaa
open Go.RowKit
section
variable {P : Program} {n l : Nat} {Q : Exit → Act → World → Prop} {md : Region.Mode} {ops : Array Oper}
def wpEarly (P : Program) (ops : Array Oper) (S : World → Prop) : List Nat → Act → (Act → Prop) → Prop
  | [], a, K => K a
  | i :: is, a, K => ∃ (oi : Oper) (v : Value), ops[i]? = some oi ∧ YieldsIf P ops S oi v a ∧ wpEarly P ops S is (a.put oi.dst v) K
def earlyOk (md : Region.Mode) (ops : Array Oper) (f : Nat) : List Nat → Array Bool → Bool
  | [], _ => true
  | i :: is, listed => Region.free md ops listed i && (Region.ready md ops listed).contains i && (waitsB md ops f i && tailOff f listed && decide (i < f)) && earlyOk md ops f is (listed.setIfInBounds i true)
def marked : List Nat → Array Bool → Array Bool
  | [], listed => listed
  | i :: is, listed => marked is (listed.setIfInBounds i true)
theorem early_any {S : World → Prop} {f : Nat} (hs : Region.noSelect ops = true) (hQ : ∀ c (a : Act) (d : Option Tmp) (v : Value) w, Q (.panic c) (a.put d v) w → Q (.panic c) a w) {w : World} (hS : S w) :
    ∀ (is : List Nat) (fuel : Nat) (listed : Array Bool) (a : Act), earlyOk md ops f is listed = true →
      wpEarly P ops S is a (fun a' => wpAnyL P md ops Q S f fuel (marked is listed) a' w) → wpAnyL P md ops Q S f (fuel + is.length) listed a w
  | [], _, _, _, _, h => h
  | i :: is, fuel, listed, a, hc, h => by
    obtain ⟨oi, v, hi, hy, h⟩ := h
    simp only [earlyOk, Bool.and_eq_true] at hc
    obtain ⟨⟨⟨c1, c2⟩, c3⟩, c4⟩ := hc
    exact anyL_take (v := v) hi hs c1 c2 (by simpa using c3) (fun c a w => hQ c a _ _ w) hy hS (early_any hs hQ hS is fuel _ _ c4 h)
theorem region_early (S : World → Prop) (f : Nat) (is : List Nat) (fuel : Nat) {id : Nat} {a : Act} {w : World} (hm : P.follows .mixedOrders = true) (hs : Region.noSelect ops = true) (hf : ops.size = fuel + is.length)
    (hc : earlyOk .any ops f is (Array.replicate ops.size false) = true) (hQ : ∀ c (a : Act) (d : Option Tmp) (v : Value) w, Q (.panic c) (a.put d v) w → Q (.panic c) a w) (hS : S w.drew)
    (h : wpEarly P ops S is a (fun a' => wpAnyL P .any ops Q S f fuel (marked is (Array.replicate ops.size false)) a' w.drew)) : (Code.region id ops true).wp P Q a w := by
  refine region_held S f hm ?_
  have := early_any (md := .any) (f := f) hs hQ hS is fuel (Array.replicate ops.size false) a hc h
  rwa [← hf] at this
theorem early_take {S : World → Prop} {i : Nat} {is : List Nat} {oi : Oper} {a : Act} {K : Act → Prop} (hi : ops[i]? = some oi) (hw : Region.wanted oi (yielded ops a.tmps) = true) (h : ∃ v, (∀ w, S w → (execOp a.eval oi).run P w = .ok (.value v) w) ∧ wpEarly P ops S is (a.put oi.dst v) K) : wpEarly P ops S (i :: is) a K :=
  h.elim fun v h => ⟨oi, v, hi, Or.inl ⟨hw, h.1⟩, h.2⟩
theorem early_skip {S : World → Prop} {i : Nat} {is : List Nat} {oi : Oper} {a : Act} {K : Act → Prop} (hi : ops[i]? = some oi) (hw : Region.wanted oi (yielded ops a.tmps) = false) (h : wpEarly P ops S is (a.put oi.dst undef) K) : wpEarly P ops S (i :: is) a K :=
  ⟨oi, undef, hi, Or.inr ⟨hw, rfl⟩, h⟩
theorem early_done {S : World → Prop} {a : Act} {K : Act → Prop} (h : K a) : wpEarly P ops S [] a K := h
end
end Go.Proofs.Ytejliecmdkmgiaa
namespace Go.Proofs.Ytejliecmdkmgiaa
open Go.RowKit Go.Shelf
def LeE (w : World) (v : Value) (n : Nat) (E : Nat → Int) : Prop :=
  ∃ a cap, v = .slice a n cap ∧ n ≤ cap ∧ n ≤ 1048576 ∧ (0 < n → ∃ b o, a = some ⟨b, o, none⟩ ∧ ∀ i, i < n → ∃ s m, w.cell? ⟨b, o + i * 2, none⟩ = some (.bool s) ∧ w.cell? ⟨b, o + i * 2 + 1, none⟩ = some m ∧ LeZ w (.agg #[.bool s, m]) (E i))
theorem LeE.rd {w : World} {v : Value} {n : Nat} {E : Nat → Int} (h : LeE w v n E) : RdE w v n E := by
  obtain ⟨a, cap, e, h1, h2, h3⟩ := h
  refine ⟨a, cap, e, h1, h2, fun hn => ?_⟩
  obtain ⟨b, o, e, h4⟩ := h3 hn
  refine ⟨b, o, e, fun i hi => ?_⟩
  obtain ⟨s, m, c1, c2, c3⟩ := h4 i hi
  exact ⟨s, m, c1, c2, c3.1⟩
theorem LeE.below {w w' : World} {v : Value} {n : Nat} {E : Nat → Int} (h : LeE w v n E) (hb : Below w.heap.size w w') : LeE w' v n E := by
  obtain ⟨a, cap, e, h1, h2, h3⟩ := h
  refine ⟨a, cap, e, h1, h2, fun hn => ?_⟩
  obtain ⟨b, o, e, h4⟩ := h3 hn
  refine ⟨b, o, e, fun i hi => ?_⟩
  obtain ⟨s, m, c1, c2, c3⟩ := h4 i hi
  exact ⟨s, m, cell_stays hb c1, cell_stays hb c2, c3.below hb⟩
theorem LeE.congr {w : World} {v : Value} {n : Nat} {E F : Nat → Int} (h : LeE w v n E) (e : ∀ i, i < n → E i = F i) : LeE w v n F := by
  obtain ⟨a, cap, e1, h1, h2, h3⟩ := h
  refine ⟨a, cap, e1, h1, h2, fun hn => ?_⟩
  obtain ⟨b, o, e2, h4⟩ := h3 hn
  exact ⟨b, o, e2, fun i hi => by rw [← e i hi]; exact h4 i hi⟩
theorem LeE.slice {w : World} {v : Value} {n : Nat} {E : Nat → Int} (h : LeE w v n E) : ∃ a cap, v = .slice a n cap ∧ n ≤ cap := by obtain ⟨a, cap, e, h1, -⟩ := h; exact ⟨a, cap, e, h1⟩
theorem LeE.get {w : World} {a : Option Addr} {n cap : Nat} {E : Nat → Int} (h : LeE w (.slice a n cap) n E) {i : Nat} (hi : i < n) : ∃ b o s m, a = some ⟨b, o, none⟩ ∧ w.cell? ⟨b, o + i * 2, none⟩ = some (.bool s) ∧ w.cell? ⟨b, o + i * 2 + 1, none⟩ = some m ∧ LeZ w (.agg #[.bool s, m]) (E i) := by
  obtain ⟨a', cap', e, -, -, h3⟩ := h
  simp only [Value.slice.injEq, true_and] at e
  obtain ⟨rfl, rfl⟩ := e
  obtain ⟨b, o, rfl, h4⟩ := h3 (by omega)
  obtain ⟨s, m, c1, c2, c3⟩ := h4 i hi
  exact ⟨b, o, s, m, rfl, c1, c2, c3⟩
theorem PaE.lee {w : World} {base lb n k : Nat} {D : Nat → Prop} {E : Nat → Int} (h : PaE w base D lb n k E) {j : Nat} (hj : j ≤ k) (hk : k ≤ n) (hn : j ≤ 1048576) : LeE w (.slice (some ⟨lb, 0, none⟩) j n) j E :=
  ⟨_, n, rfl, by omega, hn, fun _ => ⟨lb, 0, rfl, fun i hi => by
    obtain ⟨s, m, c1, c2, c3, -⟩ := h.cells i (by omega)
    rw [Nat.zero_add]
    exact ⟨s, m, c1, c2, c3⟩⟩⟩
theorem RdE.le_n {w : World} {v : Value} {n : Nat} {E : Nat → Int} (h : RdE w v n E) : n ≤ 1048576 := by obtain ⟨_, _, _, -, h, -⟩ := h; exact h
end Go.Proofs.Ytejliecmdkmgiaa
namespace Go.Proofs.Ytejliecmdkmgiaa
open Go.RowKit Go.Shelf
end Go.Proofs.Ytejliecmdkmgiaa
namespace Go.Proofs.Ytejliecmdkmgiaa
open Go.RowKit Go.Shelf
end Go.Proofs.Ytejliecmdkmgiaa
namespace Go.Proofs.Ytejliecmdkmgiaa
open Go.RowKit Go.Shelf
theorem build_unit (m n : Nat) (E : Nat → Nat → Int) (hm : m ≤ 64) (hn : n ≤ 64) (w : World) (hz : ∀ i j, i < m → j < n → ZB 274877906944 (E i j))
    (hf : ∀ (W : World) (i j : Nat), Below w.heap.size w W → i < m → j < n → Calls Try.prog 103 #[.int .i64 i, .int .i64 j] W fun e w' => ∃ v, e = .returned v ∧ FrZ w' W.heap.size v (E i j) ∧ Below W.heap.size W w') :
    Calls Try.prog 94 #[.int .i64 m, .int .i64 n, .func (.func 103) #[] #[]] w fun e w' => ∃ lb, e = .returned (.agg #[.int .i64 m, .int .i64 n, .slice (some ⟨lb, 0, none⟩) (m * n) (m * n)]) ∧
      FrE w' w.heap.size (fun b => b ≤ lb) lb (m * n) (fun q => E (q / n) (q % n)) ∧ Below w.heap.size w w' := by
  obtain ⟨K, hK⟩ : ∃ K, K = m * n := ⟨_, rfl⟩
  rw [← hK]
  have hK4 : K ≤ 4096 := by rw [hK]; exact Nat.mul_le_mul hm hn
  have mk : ∀ u : World, (Instr.makeSlice 22 (.int .i64 0) (.int .i64 K)).run Try.prog u = .ok (.slice (some ⟨u.heap.size, 0, none⟩) 0 K) (u.alloc (.cells (madeCells #[.bool false, .slice none 0 0] (K * 2)) 49)) := mk_intsN 0 K (Nat.zero_le _) (by omega)
  have e1 : 0 ≤ (m : Int) * n ∧ (m : Int) * n ≤ 4096 := ⟨Int.mul_nonneg (by omega) (by omega), by have := Int.mul_le_mul (show (m : Int) ≤ 64 by omega) (show (n : Int) ≤ 64 by omega) (by omega) (by omega); omega⟩
  obtain ⟨e2, e3⟩ := e1
  have e4 : (m : Int) * n = (K : Int) := by rw [hK]; simp
  have HK := Lib.hid hK
  have HZB := Lib.hid hz
  have HFN := Lib.hid hf
  clear hK hz hf
  go_enter Try.func94, Try.ntmps94
  go_wp2_with fail
  have ws := BRel.start w m n K (fun q => E (q / n) (q % n))
  have WS := Lib.hid ws
  clear ws
  obtain ⟨i0, hi, hz0, hz1, hz2⟩ := info_parts infoI
  have HI := Lib.hid (And.intro hi hz1)
  clear hi hz0 hz1 hz2 mk
  generalize ((w.alloc (.cells #[.int .i64 0, .int .i64 0, .slice none 0 0] 24)).alloc (.cells (madeCells #[.bool false, .slice none 0 0] (K * 2)) 49)).alloc
      (.cells #[.int .i64 m, .int .i64 n, .slice (some ⟨w.heap.size + 1, 0, none⟩) 0 K] 24) = W0 at WS ⊢
  go_loopw [18] (fun iv wr => ∃ i : Nat, i ≤ m ∧ iv = .int .i64 i ∧ BRel w wr m n K (i * n) (fun q => E (q / n) (q % n))) (fun iv _ => m - (intOf iv).toNat)
  case atStart => exact ⟨0, by omega, rfl, by rw [Nat.zero_mul]; exact WS.out⟩
  case round =>
    obtain ⟨i, i1, rfl, hrel⟩ := hrel
    by_cases hi : i < m
    · have HR := Lib.hid hrel
      clear hrel
      go_wp2_with fail
      go_loopw [22] (fun jv wr => ∃ j : Nat, j ≤ n ∧ jv = .int .i64 j ∧ BRel w wr m n K (i * n + j) (fun q => E (q / n) (q % n))) (fun jv _ => n - (intOf jv).toNat)
      case atStart => exact ⟨0, by omega, rfl, HR.out⟩
      case round =>
        clear HR
        obtain ⟨j, j1, rfl, hrel⟩ := hrel
        by_cases hj : j < n
        · obtain ⟨q, hq⟩ : ∃ q, q = i * n + j := ⟨_, rfl⟩
          have hqK : q < K := by
            rw [hq, HK.out]
            have := Nat.mul_le_mul_right n (show i + 1 ≤ m by omega)
            rw [Nat.add_mul, Nat.one_mul] at this; omega
          have hx : E (q / n) (q % n) = E i j := by
            rw [hq, Nat.mul_comm i n, Nat.mul_add_div (by omega), Nat.mul_add_mod, Nat.div_eq_of_lt hj, Nat.mod_eq_of_lt hj, Nat.add_zero]
          rw [← hq] at hrel
          have hcl := HFN.out wr.drew i j hrel.below.drew hi hj
          have m2 := hrel.m2
          have mf := hrel.mf
          have HR := Lib.hid hrel
          have HX := Lib.hid hx
          have HQ := Lib.hid hq
          have HZ := Lib.hid (HZB.out i j hi hj)
          have HCL := Lib.hid hcl
          clear hrel hq hx hcl
          go_wp2_with fail
          go_region_law (first
            | (go_simp; go_at_call 103; refine HCL.out.mono ?_; rintro e w6 ⟨v6, rfl, o1, o4⟩; have HRD := Lib.hid (o1.le HZ.out (Nat.le_refl _)); obtain ⟨a6, n6, c6, rfl, o2⟩ := o1.agg; have HO2 := Lib.hid o2; have k0 := cell_stays (w := wr.drew) o4 m2; have k1 := froz_stays (w := wr.drew) o4 m2 mf; have AP := Lib.hid (HR.out.app hqK (below_drew o4) (.bool (decide (E i j < 0))) (.slice a6 n6 c6)); have k4 := AP.out.2.2.2.2; clear o1 o2)
            | (refine step_append_room rfl (.tmp 26) (.tmp 31) 22 rfl 49 i0 2 Try.underlying22 HI.out.1 HI.out.2 (w.heap.size + 1) 0 q K (by simp [Act.eval, Act.put]) ⟨w6.heap.size, 0, none⟩ 1 1 [.bool (decide (E i j < 0)), .slice a6 n6 c6] (by simp [Act.eval, Act.put]) rfl AP.out.1 (by intro u hu; simp at hu; rcases hu with rfl | rfl <;> rfl) (by omega) AP.out.2.1 ?_; have k2 := AP.out.2.2.1; have k3 := AP.out.2.2.2.1))
          all_goals
            have hN := HR.out.push hqK (below_drew o4) (s := decide (E i j < 0)) (mv := .slice a6 n6 c6) (by show LeZ _ _ (E (q / n) (q % n)); rw [HX.out]; exact HRD.out) HO2.out
            have HNX := Lib.hid hN
            clear hN AP k0 k1 k2 k3 k4 o4 HO2 HRD
            try clear Q
            go_wp2_with fail
            go_roundw
            case rel => exact ⟨j + 1, by omega, by go_num, by rw [← Nat.add_assoc, ← HQ.out]; exact HNX.out⟩
            case measure => simp [intOf]; omega
        · obtain rfl : j = n := by omega
          go_wp2_with fail
          go_roundw
          case rel => exact ⟨i + 1, by omega, by go_num, by rw [Nat.add_mul, Nat.one_mul]; exact hrel⟩
          case measure => simp [intOf]; omega
    · obtain rfl : i = m := by omega
      rw [← HK.out] at hrel
      have m0 := hrel.m0
      have m1 := hrel.m1
      have m2 := hrel.m2
      obtain ⟨r0, s0⟩ := hrel.r0
      obtain ⟨r1, s1⟩ := hrel.r1
      obtain ⟨r2, s2⟩ := hrel.r2
      have HR := Lib.hid hrel
      clear hrel
      go_wp2_with fail
      have hg : wr.grownBy (((wr.setCell ⟨w.heap.size, 0, none⟩ (.int .i64 i)).setCell ⟨w.heap.size, 1, none⟩ (.int .i64 n)).setCell ⟨w.heap.size, 2, none⟩ (.slice (some ⟨w.heap.size + 1, 0, none⟩) K K)) (some w.heap.size) :=
        gb_trans (gb_trans (gb_set _ _ _) (gb_set _ _ _)) (gb_set _ _ _)
      refine bodyPost_ret (v := .agg #[.int .i64 i, .int .i64 n, .slice (some ⟨w.heap.size + 1, 0, none⟩) K K]) ?_ rfl ⟨w.heap.size + 1, rfl, ?_, ?_⟩
      · simp [results, Try.results94, go_sem, r0, r1, r2]
      · exact (HR.out.ls.grown hg (by simp) (by show w.heap.size < _; omega)).turnD (fun b _ hb => by omega)
      · exact HR.out.below.grown hg HR.out.below.size (fun k hk => by injection hk with hk; omega)
theorem build_diag (m n : Nat) (p1 : Value) (E : Nat → Nat → Int) (hm : m ≤ 64) (hn : n ≤ 64) (w : World) (hz : ∀ i j, i < m → j < n → ZB 274877906944 (E i j))
    (hf : ∀ (W : World) (i j : Nat), Below w.heap.size w W → i < m → j < n → Calls Try.prog 179 #[.int .i64 i, .int .i64 j, p1] W fun e w' => ∃ v, e = .returned v ∧ FrZ w' W.heap.size v (E i j) ∧ Below W.heap.size W w') :
    Calls Try.prog 94 #[.int .i64 m, .int .i64 n, .func (.func 179) #[] #[p1]] w fun e w' => ∃ lb, e = .returned (.agg #[.int .i64 m, .int .i64 n, .slice (some ⟨lb, 0, none⟩) (m * n) (m * n)]) ∧
      FrE w' w.heap.size (fun b => b ≤ lb) lb (m * n) (fun q => E (q / n) (q % n)) ∧ Below w.heap.size w w' := by
  obtain ⟨K, hK⟩ : ∃ K, K = m * n := ⟨_, rfl⟩
  rw [← hK]
  have hK4 : K ≤ 4096 := by rw [hK]; exact Nat.mul_le_mul hm hn
  have mk : ∀ u : World, (Instr.makeSlice 22 (.int .i64 0) (.int .i64 K)).run Try.prog u = .ok (.slice (some ⟨u.heap.size, 0, none⟩) 0 K) (u.alloc (.cells (madeCells #[.bool false, .slice none 0 0] (K * 2)) 49)) := mk_intsN 0 K (Nat.zero_le _) (by omega)
  have e1 : 0 ≤ (m : Int) * n ∧ (m : Int) * n ≤ 4096 := ⟨Int.mul_nonneg (by omega) (by omega), by have := Int.mul_le_mul (show (m : Int) ≤ 64 by omega) (show (n : Int) ≤ 64 by omega) (by omega) (by omega); omega⟩
  obtain ⟨e2, e3⟩ := e1
  have e4 : (m : Int) * n = (K : Int) := by rw [hK]; simp
  have HK := Lib.hid hK
  have HZB := Lib.hid hz
  have HFN := Lib.hid hf
  clear hK hz hf
  go_enter Try.func94, Try.ntmps94
  go_wp2_with fail
  have ws := BRel.start w m n K (fun q => E (q / n) (q % n))
  have WS := Lib.hid ws
  clear ws
  obtain ⟨i0, hi, hz0, hz1, hz2⟩ := info_parts infoI
  have HI := Lib.hid (And.intro hi hz1)
  clear hi hz0 hz1 hz2 mk
  generalize ((w.alloc (.cells #[.int .i64 0, .int .i64 0, .slice none 0 0] 24)).alloc (.cells (madeCells #[.bool false, .slice none 0 0] (K * 2)) 49)).alloc
      (.cells #[.int .i64 m, .int .i64 n, .slice (some ⟨w.heap.size + 1, 0, none⟩) 0 K] 24) = W0 at WS ⊢
  go_loopw [18] (fun iv wr => ∃ i : Nat, i ≤ m ∧ iv = .int .i64 i ∧ BRel w wr m n K (i * n) (fun q => E (q / n) (q % n))) (fun iv _ => m - (intOf iv).toNat)
  case atStart => exact ⟨0, by omega, rfl, by rw [Nat.zero_mul]; exact WS.out⟩
  case round =>
    obtain ⟨i, i1, rfl, hrel⟩ := hrel
    by_cases hi : i < m
    · have HR := Lib.hid hrel
      clear hrel
      go_wp2_with fail
      go_loopw [22] (fun jv wr => ∃ j : Nat, j ≤ n ∧ jv = .int .i64 j ∧ BRel w wr m n K (i * n + j) (fun q => E (q / n) (q % n))) (fun jv _ => n - (intOf jv).toNat)
      case atStart => exact ⟨0, by omega, rfl, HR.out⟩
      case round =>
        clear HR
        obtain ⟨j, j1, rfl, hrel⟩ := hrel
        by_cases hj : j < n
        · obtain ⟨q, hq⟩ : ∃ q, q = i * n + j := ⟨_, rfl⟩
          have hqK : q < K := by
            rw [hq, HK.out]
            have := Nat.mul_le_mul_right n (show i + 1 ≤ m by omega)
            rw [Nat.add_mul, Nat.one_mul] at this; omega
          have hx : E (q / n) (q % n) = E i j := by
            rw [hq, Nat.mul_comm i n, Nat.mul_add_div (by omega), Nat.mul_add_mod, Nat.div_eq_of_lt hj, Nat.mod_eq_of_lt hj, Nat.add_zero]
          rw [← hq] at hrel
          have hcl := HFN.out wr.drew i j hrel.below.drew hi hj
          have m2 := hrel.m2
          have mf := hrel.mf
          have HR := Lib.hid hrel
          have HX := Lib.hid hx
          have HQ := Lib.hid hq
          have HZ := Lib.hid (HZB.out i j hi hj)
          have HCL := Lib.hid hcl
          clear hrel hq hx hcl
          go_wp2_with fail
          go_region_law (first
            | (go_simp; go_at_call 179; refine HCL.out.mono ?_; rintro e w6 ⟨v6, rfl, o1, o4⟩; have HRD := Lib.hid (o1.le HZ.out (Nat.le_refl _)); obtain ⟨a6, n6, c6, rfl, o2⟩ := o1.agg; have HO2 := Lib.hid o2; have k0 := cell_stays (w := wr.drew) o4 m2; have k1 := froz_stays (w := wr.drew) o4 m2 mf; have AP := Lib.hid (HR.out.app hqK (below_drew o4) (.bool (decide (E i j < 0))) (.slice a6 n6 c6)); have k4 := AP.out.2.2.2.2; clear o1 o2)
            | (refine step_append_room rfl (.tmp 26) (.tmp 31) 22 rfl 49 i0 2 Try.underlying22 HI.out.1 HI.out.2 (w.heap.size + 1) 0 q K (by simp [Act.eval, Act.put]) ⟨w6.heap.size, 0, none⟩ 1 1 [.bool (decide (E i j < 0)), .slice a6 n6 c6] (by simp [Act.eval, Act.put]) rfl AP.out.1 (by intro u hu; simp at hu; rcases hu with rfl | rfl <;> rfl) (by omega) AP.out.2.1 ?_; have k2 := AP.out.2.2.1; have k3 := AP.out.2.2.2.1))
          all_goals
            have hN := HR.out.push hqK (below_drew o4) (s := decide (E i j < 0)) (mv := .slice a6 n6 c6) (by show LeZ _ _ (E (q / n) (q % n)); rw [HX.out]; exact HRD.out) HO2.out
            have HNX := Lib.hid hN
            clear hN AP k0 k1 k2 k3 k4 o4 HO2 HRD
            try clear Q
            go_wp2_with fail
            go_roundw
            case rel => exact ⟨j + 1, by omega, by go_num, by rw [← Nat.add_assoc, ← HQ.out]; exact HNX.out⟩
            case measure => simp [intOf]; omega
        · obtain rfl : j = n := by omega
          go_wp2_with fail
          go_roundw
          case rel => exact ⟨i + 1, by omega, by go_num, by rw [Nat.add_mul, Nat.one_mul]; exact hrel⟩
          case measure => simp [intOf]; omega
    · obtain rfl : i = m := by omega
      rw [← HK.out] at hrel
      have m0 := hrel.m0
      have m1 := hrel.m1
      have m2 := hrel.m2
      obtain ⟨r0, s0⟩ := hrel.r0
      obtain ⟨r1, s1⟩ := hrel.r1
      obtain ⟨r2, s2⟩ := hrel.r2
      have HR := Lib.hid hrel
      clear hrel
      go_wp2_with fail
      have hg : wr.grownBy (((wr.setCell ⟨w.heap.size, 0, none⟩ (.int .i64 i)).setCell ⟨w.heap.size, 1, none⟩ (.int .i64 n)).setCell ⟨w.heap.size, 2, none⟩ (.slice (some ⟨w.heap.size + 1, 0, none⟩) K K)) (some w.heap.size) :=
        gb_trans (gb_trans (gb_set _ _ _) (gb_set _ _ _)) (gb_set _ _ _)
      refine bodyPost_ret (v := .agg #[.int .i64 i, .int .i64 n, .slice (some ⟨w.heap.size + 1, 0, none⟩) K K]) ?_ rfl ⟨w.heap.size + 1, rfl, ?_, ?_⟩
      · simp [results, Try.results94, go_sem, r0, r1, r2]
      · exact (HR.out.ls.grown hg (by simp) (by show w.heap.size < _; omega)).turnD (fun b _ hb => by omega)
      · exact HR.out.below.grown hg HR.out.below.size (fun k hk => by injection hk with hk; omega)
end Go.Proofs.Ytejliecmdkmgiaa
namespace Go.Proofs.Ytejliecmdkmgiaa
open Go.RowKit Go.Shelf
def unitE (i j : Nat) : Int := if i = j then 1 else 0
theorem unitE_zb (i j : Nat) : ZB 274877906944 (unitE i j) := by
  unfold unitE
  split
  · exact zb_ones.mono (by omega)
  · exact zb_nil _
theorem fr_zero (w : World) (b : Nat) : FrZ w b (.agg #[.bool false, .slice none 0 0]) 0 := ⟨_, 0, fun _ => 0, rfl, Or.inl ⟨rfl, rfl⟩, ⟨fun i h => absurd h (by omega), fun h => absurd h (by omega), rfl⟩⟩
theorem unit1_any (i j : Nat) (hi : i < 64) (hj : j < 64) (w : World) :
    Calls Try.prog 103 #[.int .i64 i, .int .i64 j] w fun e w' => ∃ v, e = .returned v ∧ FrZ w' w.heap.size v (unitE i j) ∧ Below w.heap.size w w' := by
  have hb := bl_alloc w (.cells #[.bool false, .slice none 0 0] 49)
  obtain ⟨x0, x1, y0, y1⟩ := two_cells w (.bool false) (.slice none 0 0) 49
  have HB := Lib.hid hb
  have hsz : (w.alloc (.cells #[.bool false, .slice none 0 0] 49)).heap.size = w.heap.size + 1 := by simp
  have HSZ := Lib.hid hsz
  clear hb hsz
  go_enter Try.func103, Try.ntmps103
  go_upto_region 1 with fail
  generalize w.alloc (.cells #[.bool false, .slice none 0 0] 49) = W at *
  by_cases h : i = j
  · have he : ((i : Int) == (j : Int)) = true := by rw [beq_iff_eq]; omega
    have HU := Lib.hid (show unitE i j = 1 from if_pos h)
    clear h
    go_wp2_with fail
    refine (zOf_fr 1 (by omega) (by omega) W).mono ?_
    rintro e w3 ⟨v, rfl, hf, hb3⟩
    obtain ⟨aq, nq, cq, rfl, hst⟩ := FrZ.stored (b := w.heap.size) (hf.mono (by have := HSZ.out; omega))
    have u2 := froz_stays hb3 x0 y0
    have u3 := froz_stays hb3 x1 y1
    replace x0 := cell_stays hb3 x0
    replace x1 := cell_stays hb3 x1
    have hbl := (HB.out.trans (hb3.mono HB.out.size)).grown (stored2_gb w3 w.heap.size (.bool (decide ((1 : Int) < 0))) (.slice aq nq cq)) (by have := HB.out.size; have := hb3.size; omega) (fun k hk => by injection hk with hk; omega)
    have HST := Lib.hid hst
    have HBL := Lib.hid hbl
    clear hf hb3 hst hbl y0 y1
    go_wp2_with fail
    refine bodyPost_ret (v := .agg #[.bool (decide ((1 : Int) < 0)), .slice aq nq cq]) ?_ rfl ⟨_, rfl, by rw [HU.out]; exact HST.out, HBL.out⟩
    simp [results, Try.results103, go_sem, x0, x1]
  · have he : ((i : Int) == (j : Int)) = false := by rw [beq_eq_false_iff_ne]; omega
    have HU := Lib.hid (show unitE i j = 0 from if_neg h)
    clear h
    have hbl := HB.out.grown (stored2_gb W w.heap.size (.bool false) (.slice none 0 0)) HB.out.size (fun k hk => by injection hk with hk; omega)
    have HBL := Lib.hid hbl
    clear hbl
    go_wp2_with fail
    refine bodyPost_ret (v := .agg #[.bool false, .slice none 0 0]) ?_ rfl ⟨_, rfl, by rw [HU.out]; exact fr_zero _ _, HBL.out⟩
    simp [results, Try.results103, go_sem, x0, x1]
theorem diag1_any (i j pb : Nat) (a : Option Addr) (c : Nat) (hi : i < 64) (hj : j < 64) (w : World) (hc : w.cell? ⟨pb, 0, none⟩ = some (.slice a 0 c)) :
    Calls Try.prog 179 #[.int .i64 i, .int .i64 j, .pointer (some ⟨pb, 0, none⟩)] w fun e w' => ∃ v, e = .returned v ∧ FrZ w' w.heap.size v 0 ∧ Below w.heap.size w w' := by
  have hb := bl_alloc w (.cells #[.bool false, .slice none 0 0] 49)
  obtain ⟨x0, x1, y0, y1⟩ := two_cells w (.bool false) (.slice none 0 0) 49
  replace hc := cell_stays hb hc
  have hbl := hb.grown (stored2_gb (w.alloc (.cells #[.bool false, .slice none 0 0] 49)) w.heap.size (.bool false) (.slice none 0 0)) hb.size (fun k hk => by injection hk with hk; omega)
  have HBL := Lib.hid hbl
  clear hb hbl
  go_enter Try.func179, Try.ntmps179
  go_upto_region 1 with fail
  generalize w.alloc (.cells #[.bool false, .slice none 0 0] 49) = W at *
  have hi' : ¬ (i : Int) < 0 := by omega
  by_cases h : i = j
  · have he : ((i : Int) == (j : Int)) = true := by rw [beq_iff_eq]; omega
    clear h
    go_wp2_with fail
    refine bodyPost_ret (v := .agg #[.bool false, .slice none 0 0]) ?_ rfl ⟨_, rfl, fr_zero _ _, HBL.out⟩
    simp [results, Try.results179, go_sem, x0, x1]
  · have he : ((i : Int) == (j : Int)) = false := by rw [beq_eq_false_iff_ne]; omega
    clear h
    go_wp2_with fail
    refine bodyPost_ret (v := .agg #[.bool false, .slice none 0 0]) ?_ rfl ⟨_, rfl, fr_zero _ _, HBL.out⟩
    simp [results, Try.results179, go_sem, x0, x1]
end Go.Proofs.Ytejliecmdkmgiaa
namespace Go.Proofs.Ytejliecmdkmgiaa
open Go.RowKit Go.Shelf
theorem side_yes {n : Nat} (h : n ≤ 64) : sideB (n : Int) = true := by unfold sideB; simp; omega
theorem box1 (w : World) (a : Value) (t : TypeId) : (w.alloc (.cells #[a] t)).cell? ⟨w.heap.size, 0, none⟩ = some a ∧ (w.alloc (.cells #[a] t)).frozen? ⟨w.heap.size, 0, none⟩ = false := by
  have h := heap_alloc_new w (.cells #[a] t)
  refine ⟨by rw [cell_of_row _ _ _ _ _ _ h]; rfl, ?_⟩
  unfold World.frozen?
  simp only [h]; simp
theorem Unit_good (n : Nat) (w : World) (hn : n ≤ 64) :
    Calls Try.prog 33 #[.int .i64 n] w fun e w' => ∃ lb, e = .returned (.tuple #[.agg #[.int .i64 n, .int .i64 n, .slice (some ⟨lb, 0, none⟩) (n * n) (n * n)], .int .i64 0]) ∧
      FrE w' w.heap.size (fun b => b ≤ lb) lb (n * n) (fun q => unitE (q / n) (q % n)) ∧ Below w.heap.size w w' := by
  have hs := side_yes hn
  have hb1 := bl_alloc w (.cells #[.int .i64 0, .int .i64 0, .slice none 0 0] 24)
  have hz := three_cells w (.int .i64 0) (.int .i64 0) (.slice none 0 0) 24
  have hsz : (w.alloc (.cells #[.int .i64 0, .int .i64 0, .slice none 0 0] 24)).heap.size = w.heap.size + 1 := by simp
  have hbd := fun (u : World) => build_unit n n unitE hn hn u (fun i j _ _ => unitE_zb i j) (fun W i j _ hi hj => unit1_any i j (by omega) (by omega) W)
  have HBD := Lib.hid hbd
  have HB := Lib.hid hb1
  have HSZ := Lib.hid hsz
  have x0 := (hz 0 _ rfl).1
  have x1 := (hz 1 _ rfl).1
  have x2 := (hz 2 _ rfl).1
  have y0 := (hz 0 _ rfl).2
  have y1 := (hz 1 _ rfl).2
  have y2 := (hz 2 _ rfl).2
  clear hbd hb1 hsz hz
  go_enter Try.func33, Try.ntmps33
  go_upto_region 1 with fail
  generalize w.alloc (.cells #[.int .i64 0, .int .i64 0, .slice none 0 0] 24) = W at *
  go_wp2_with fail
  (refine (side_any n W).mono ?_)
  rintro e w3 ⟨rfl, rfl⟩
  rw [hs]
  go_wp2_with fail
  (refine (HBD.out W).mono ?_)
  rintro e w4 ⟨lb, rfl, hf, hb4⟩
  have v0 := froz_stays hb4 x0 y0
  have v1 := froz_stays hb4 x1 y1
  have v2 := froz_stays hb4 x2 y2
  replace x0 := cell_stays hb4 x0
  replace x1 := cell_stays hb4 x1
  replace x2 := cell_stays hb4 x2
  have hg := stored3_gb w4 w.heap.size (.int .i64 n) (.int .i64 n) (.slice (some ⟨lb, 0, none⟩) (n * n) (n * n))
  have hlb : w.heap.size + 1 ≤ lb := by have := hf.own; have := HSZ.out; omega
  have HF := Lib.hid ((hf.grown hg (by omega) (by show w.heap.size ≤ lb; omega)).mono HB.out.size)
  have hbw := HB.out.trans (hb4.mono HB.out.size)
  have HBL := Lib.hid (hbw.grown hg hbw.size (fun k hk => by injection hk with hk; omega))
  clear hf hb4 hg hbw y0 y1 y2 HBD
  go_wp2_with fail
  refine bodyPost_ret (v := .tuple #[.agg #[.int .i64 n, .int .i64 n, .slice (some ⟨lb, 0, none⟩) (n * n) (n * n)], .int .i64 0]) ?_ rfl ⟨lb, rfl, HF.out, HBL.out⟩
  simp [results, Try.results33, go_sem, x0, x1, x2]
theorem Diag_nil (m n : Nat) (w : World) (hm : m ≤ 64) (hn : n ≤ 64) :
    Calls Try.prog 157 #[.int .i64 m, .int .i64 n, .slice none 0 0] w fun e w' => ∃ lb, e = .returned (.tuple #[.agg #[.int .i64 m, .int .i64 n, .slice (some ⟨lb, 0, none⟩) (m * n) (m * n)], .int .i64 0]) ∧
      FrE w' w.heap.size (fun b => b ≤ lb) lb (m * n) (fun _ => 0) ∧ Below w.heap.size w w' := by
  have hs := side_yes hn
  have hs' := side_yes hm
  obtain ⟨w1, hw1⟩ : ∃ w1, w1 = w.alloc (.cells #[.slice none 0 0] 22) := ⟨_, rfl⟩
  have hb0 : Below w.heap.size w w1 := by rw [hw1]; exact bl_alloc w _
  have hs1 : w1.heap.size = w.heap.size + 1 := by rw [hw1]; simp
  have hc : w1.cell? ⟨w.heap.size, 0, none⟩ = some (.slice none 0 0) := by rw [hw1]; exact (box1 w _ _).1
  have hb1 := bl_alloc w1 (.cells #[.int .i64 0, .int .i64 0, .slice none 0 0] 24)
  have hz := three_cells w1 (.int .i64 0) (.int .i64 0) (.slice none 0 0) 24
  rw [hs1] at hz
  replace hc := cell_stays hb1 hc
  have hsz : (w1.alloc (.cells #[.int .i64 0, .int .i64 0, .slice none 0 0] 24)).heap.size = w.heap.size + 2 := by simp [hs1]
  have hmn : IntKind.i64.wrap (if (m : Int) < n then (m : Int) else n) = (if (m : Int) < n then (m : Int) else n) := by split <;> exact IntWalk.i64_in _ (by omega)
  have hbd := fun (u : World) (h : u.cell? ⟨w.heap.size, 0, none⟩ = some (.slice none 0 0)) => build_diag m n (.pointer (some ⟨w.heap.size, 0, none⟩)) (fun _ _ => 0) hm hn u (fun i j _ _ => zb_nil _) (fun W i j hW hi hj => diag1_any i j w.heap.size none 0 (by omega) (by omega) W (cell_stays hW h))
  have hmf : ∀ (fn : Fn) (first cap : Array Value) (w : World), (Instr.makeFunc fn first cap).run Try.prog w = .ok (.func fn first cap) w := fun fn first cap w => by rfl
  have HBD := Lib.hid hbd
  have HB := Lib.hid (below_via hb0 hb1)
  have HSZ := Lib.hid hsz
  have x0 := (hz 0 _ rfl).1
  have x1 := (hz 1 _ rfl).1
  have x2 := (hz 2 _ rfl).1
  have y0 := (hz 0 _ rfl).2
  have y1 := (hz 1 _ rfl).2
  have y2 := (hz 2 _ rfl).2
  clear hbd hb0 hb1 hsz hz hs1
  go_enter Try.func157, Try.ntmps157
  go_upto_region 1 with fail
  rw [← hw1]
  generalize w1.alloc (.cells #[.int .i64 0, .int .i64 0, .slice none 0 0] 24) = W at *
  clear hw1
  go_wp2_with (first | (go_at_call_of 102 (Value.int .i64 (m : Int)); refine (side_any m _).mono ?_; rintro e w' ⟨rfl, rfl⟩; rw [hs']) | (go_at_call_of 102 (Value.int .i64 (n : Int)); refine (side_any n _).mono ?_; rintro e w' ⟨rfl, rfl⟩; rw [hs]))
  have hb4 := HBD.out W hc
  have HB4 := Lib.hid hb4
  clear HBD hb4 hc
  go_wp2_with fail
  (refine HB4.out.mono ?_)
  rintro e w4 ⟨lb, rfl, hf, hb4⟩
  have v0 := froz_stays hb4 x0 y0
  have v1 := froz_stays hb4 x1 y1
  have v2 := froz_stays hb4 x2 y2
  replace x0 := cell_stays hb4 x0
  replace x1 := cell_stays hb4 x1
  replace x2 := cell_stays hb4 x2
  have hg := stored3_gb w4 (w.heap.size + 1) (.int .i64 m) (.int .i64 n) (.slice (some ⟨lb, 0, none⟩) (m * n) (m * n))
  have hlb : w.heap.size + 2 ≤ lb := by have := hf.own; have := HSZ.out; omega
  have HF := Lib.hid ((hf.grown hg (by omega) (by show w.heap.size + 1 ≤ lb; omega)).mono HB.out.size)
  have hbw := HB.out.trans (hb4.mono HB.out.size)
  have HBL := Lib.hid (hbw.grown hg hbw.size (fun k hk => by injection hk with hk; omega))
  clear hf hb4 hg hbw y0 y1 y2
  go_wp2_with fail
  refine bodyPost_ret (v := .tuple #[.agg #[.int .i64 m, .int .i64 n, .slice (some ⟨lb, 0, none⟩) (m * n) (m * n)], .int .i64 0]) ?_ rfl ⟨lb, rfl, HF.out, HBL.out⟩
  simp [results, Try.results157, go_sem, x0, x1, x2]
theorem Zero_good (m n : Nat) (w : World) (hm : m ≤ 64) (hn : n ≤ 64) :
    Calls Try.prog 99 #[.int .i64 m, .int .i64 n] w fun e w' => ∃ lb, e = .returned (.tuple #[.agg #[.int .i64 m, .int .i64 n, .slice (some ⟨lb, 0, none⟩) (m * n) (m * n)], .int .i64 0]) ∧
      FrE w' w.heap.size (fun b => b ≤ lb) lb (m * n) (fun _ => 0) ∧ Below w.heap.size w w' := by
  have hb1 := bl_alloc w (.cells #[.int .i64 0, .int .i64 0, .slice none 0 0] 24)
  have hz := three_cells w (.int .i64 0) (.int .i64 0) (.slice none 0 0) 24
  have hsz : (w.alloc (.cells #[.int .i64 0, .int .i64 0, .slice none 0 0] 24)).heap.size = w.heap.size + 1 := by simp
  have HB := Lib.hid hb1
  have HSZ := Lib.hid hsz
  have x0 := (hz 0 _ rfl).1
  have x1 := (hz 1 _ rfl).1
  have x2 := (hz 2 _ rfl).1
  have y0 := (hz 0 _ rfl).2
  have y1 := (hz 1 _ rfl).2
  have y2 := (hz 2 _ rfl).2
  clear hb1 hsz hz
  go_enter Try.func99, Try.ntmps99
  go_upto_region 1 with fail
  generalize w.alloc (.cells #[.int .i64 0, .int .i64 0, .slice none 0 0] 24) = W at *
  have HD := Lib.hid (Diag_nil m n W hm hn)
  go_wp2_with fail
  (refine HD.out.mono ?_)
  rintro e w4 ⟨lb, rfl, hf, hb4⟩
  have v0 := froz_stays hb4 x0 y0
  have v1 := froz_stays hb4 x1 y1
  have v2 := froz_stays hb4 x2 y2
  replace x0 := cell_stays hb4 x0
  replace x1 := cell_stays hb4 x1
  replace x2 := cell_stays hb4 x2
  have hg := stored3_gb w4 w.heap.size (.int .i64 m) (.int .i64 n) (.slice (some ⟨lb, 0, none⟩) (m * n) (m * n))
  have hlb : w.heap.size + 1 ≤ lb := by have := hf.own; have := HSZ.out; omega
  have HF := Lib.hid ((hf.grown hg (by omega) (by show w.heap.size ≤ lb; omega)).mono HB.out.size)
  have hbw := HB.out.trans (hb4.mono HB.out.size)
  have HBL := Lib.hid (hbw.grown hg hbw.size (fun k hk => by injection hk with hk; omega))
  clear hf hb4 hg hbw y0 y1 y2 HD
  go_wp2_with fail
  refine bodyPost_ret (v := .tuple #[.agg #[.int .i64 m, .int .i64 n, .slice (some ⟨lb, 0, none⟩) (m * n) (m * n)], .int .i64 0]) ?_ rfl ⟨lb, rfl, HF.out, HBL.out⟩
  simp [results, Try.results99, go_sem, x0, x1, x2]
end Go.Proofs.Ytejliecmdkmgiaa
namespace Go.Proofs.Ytejliecmdkmgiaa
open Go.RowKit Go.Shelf
theorem ZB.sub {S T : Nat} {x y : Int} (hx : ZB S x) (hy : ZB T y) : ZB (S + T + 1) (x - y) := by
  rw [Int.sub_eq_add_neg]; exact hx.add hy.neg
theorem place1s_any (fb ab bb R C i j : Nat) (sl sl' : Value) (A B : Nat → Int) (w : World) (hR : R ≤ 64) (hC : C ≤ 64) (hi : i < R) (hj : j < C)
    (f0 : w.cell? ⟨fb, 0, none⟩ = some (.func (.func 64) #[] #[])) (c1 : w.cell? ⟨ab, 1, none⟩ = some (.int .i64 C)) (c2 : w.cell? ⟨ab, 2, none⟩ = some sl) (d1 : w.cell? ⟨bb, 1, none⟩ = some (.int .i64 C)) (d2 : w.cell? ⟨bb, 2, none⟩ = some sl') (hr : RdE w sl (R * C) A) (hr' : RdE w sl' (R * C) B) :
    Calls Try.prog 164 #[.int .i64 i, .int .i64 j, .pointer (some ⟨fb, 0, none⟩), .pointer (some ⟨ab, 0, none⟩), .pointer (some ⟨bb, 0, none⟩)] w fun e w' => ∃ v, e = .returned v ∧ FrZ w' w.heap.size v (A (i * C + j) - B (i * C + j)) ∧ Below w.heap.size w w' := by
  have hK4 : R * C ≤ 4096 := Nat.mul_le_mul hR hC
  obtain ⟨a, cap, rfl, hcap⟩ := hr.slice
  obtain ⟨b, cap', rfl, hcap'⟩ := hr'.slice
  obtain ⟨p, hp⟩ : ∃ p, p = i * C + j := ⟨_, rfl⟩
  obtain ⟨hpK, hpe⟩ := idx_lt hi hj hp
  rw [← hp]
  have hba := bl_alloc w (.cells #[.bool false, .slice none 0 0] 49)
  obtain ⟨z0, z1, y0, y1⟩ := two_cells w (.bool false) (.slice none 0 0) 49
  have hsz : (w.alloc (.cells #[.bool false, .slice none 0 0] 49)).heap.size = w.heap.size + 1 := by simp
  replace f0 := cell_stays hba f0
  replace c1 := cell_stays hba c1
  replace c2 := cell_stays hba c2
  replace d1 := cell_stays hba d1
  replace d2 := cell_stays hba d2
  obtain ⟨ba, oa, sa, ma, rfl, a0, a1, hza⟩ := (hr.below hba).get hpK
  obtain ⟨bb', ob, sb, mb, rfl, b0, b1, hzb⟩ := (hr'.below hba).get hpK
  obtain ⟨ama, ana, aca, rfl⟩ := hza.agg
  obtain ⟨amb, anb, acb, rfl⟩ := hzb.agg
  have m0 : 0 ≤ (i : Int) * C := Int.mul_nonneg (by omega) (by omega)
  have m1 : (i : Int) * C ≤ 4096 := by omega
  have hpI : (p : Int) < ((R * C : Nat) : Int) := by exact_mod_cast hpK
  have wi1 : IntKind.i64.wrap ((i : Int) * C) = (i : Int) * C := IntWalk.i64_in _ (by omega)
  have wi2 : IntKind.i64.wrap ((i : Int) * C + j) = (p : Int) := by rw [hpe]; exact IntWalk.i64_in _ (by omega)
  have hma := zSub_any _ _ (A p) (B p) (w.alloc (.cells #[.bool false, .slice none 0 0] 49)).drew (hza.below (bl_drew _)) (hzb.below (bl_drew _))
  obtain ⟨D, hD⟩ : ∃ D, D = A p - B p := ⟨_, rfl⟩
  rw [← hD] at hma ⊢
  have HMA := Lib.hid hma
  clear hD
  have HB := Lib.hid (below_via hba (bl_drew _))
  have HS := Lib.hid hsz
  generalize R * C = K at *
  clear hma hza hzb hba hp hpe hr hr' hsz
  go_enter Try.func164, Try.ntmps164
  go_upto_region 1 with fail
  generalize w.alloc (.cells #[.bool false, .slice none 0 0] 49) = W at *
  refine wp_region_still_tail 21 (by kernel_rfl) (by kernel_rfl) ?_
  simp only [List.take_succ_cons, List.take_zero, List.drop_succ_cons, List.drop_zero]
  repeat still_step
  refine wpStill_nil ?_
  change wpList _ _ _ _ _ W.drew
  replace z0 := cell_stays (bl_drew W) z0
  replace z1 := cell_stays (bl_drew W) z1
  have u0 : W.drew.frozen? ⟨w.heap.size, 0, none⟩ = false := y0
  have u1 : W.drew.frozen? ⟨w.heap.size, 1, none⟩ = false := y1
  have hs2 : W.drew.heap.size = w.heap.size + 1 := HS.out
  clear a0 a1 b0 b1 c1 c2 d1 d2 f0 y0 y1 wi1 wi2 HS
  generalize W.drew = w4 at *
  go_wp2_with fail
  (refine HMA.out.mono ?_)
  rintro e w5 ⟨v, rfl, hf5, hb5⟩
  replace u0 := froz_stays hb5 z0 u0
  replace u1 := froz_stays hb5 z1 u1
  replace z0 := cell_stays hb5 z0
  replace z1 := cell_stays hb5 z1
  obtain ⟨am5, an5, ac5, rfl, f1, f2⟩ := det_fin (b := w.heap.size) (w := w) hf5 (by omega) (Nat.le_refl _) (below_via HB.out hb5)
  have F1 := Lib.hid f1
  have F2 := Lib.hid f2
  clear hf5 hb5 f1 f2 HMA HB
  go_wp2_with fail
  refine bodyPost_ret (v := .agg #[.bool (decide (D < 0)), .slice am5 an5 ac5]) ?_ rfl ⟨_, rfl, F1.out, F2.out⟩
  simp [results, Try.results164, go_sem, z0, z1]
def subE (A B : Nat → Int) (q : Nat) : Int := A q - B q
theorem place_sub (R C S T : Nat) (sl sl' : Value) (A B : Nat → Int) (w : World) (hR : R ≤ 64) (hC : C ≤ 64) (hST : S + T + 1 ≤ 274877906944) (hr : RdE w sl (R * C) A) (hr' : RdE w sl' (R * C) B) (hA : ∀ q, q < R * C → ZB S (A q)) (hB : ∀ q, q < R * C → ZB T (B q)) :
    Calls Try.prog 111 #[.agg #[.int .i64 R, .int .i64 C, sl], .agg #[.int .i64 R, .int .i64 C, sl'], .func (.func 64) #[] #[]] w fun e w' => ∃ lb, e = .returned (.tuple #[.agg #[.int .i64 R, .int .i64 C, .slice (some ⟨lb, 0, none⟩) (R * C) (R * C)], .int .i64 0]) ∧
      FrE w' w.heap.size (fun b => b ≤ lb) lb (R * C) (subE A B) ∧ Below w.heap.size w w' := by
  have hK4 : R * C ≤ 4096 := Nat.mul_le_mul hR hC
  obtain ⟨a, cap, rfl, hcap⟩ := hr.slice
  obtain ⟨b, cap', rfl, hcap'⟩ := hr'.slice
  obtain ⟨⟨c0, c1, c2⟩, ⟨d0, d1, d2⟩, f0, hz, hBW, hsz⟩ := boxes4M w (.int .i64 R) (.int .i64 C) (.slice a (R * C) cap) (.int .i64 R) (.int .i64 C) (.slice b (R * C) cap') (.func (.func 64) #[] #[]) 57
  have hbd := fun (u : World) (hu : Below w.heap.size w u) (h0 : u.cell? ⟨w.heap.size + 1 + 1, 0, none⟩ = some (.func (.func 64) #[] #[])) (h1 : u.cell? ⟨w.heap.size, 1, none⟩ = some (.int .i64 C)) (h2 : u.cell? ⟨w.heap.size, 2, none⟩ = some (.slice a (R * C) cap)) (h3 : u.cell? ⟨w.heap.size + 1, 1, none⟩ = some (.int .i64 C)) (h4 : u.cell? ⟨w.heap.size + 1, 2, none⟩ = some (.slice b (R * C) cap')) =>
    build_place R C (.pointer (some ⟨w.heap.size + 1 + 1, 0, none⟩)) (.pointer (some ⟨w.heap.size, 0, none⟩)) (.pointer (some ⟨w.heap.size + 1, 0, none⟩)) (fun i j => A (i * C + j) - B (i * C + j)) hR hC u (fun i j hi hj => ((hA _ (idx_lt hi hj rfl).1).sub (hB _ (idx_lt hi hj rfl).1)).mono hST)
      (fun W i j hW hi hj => place1s_any (w.heap.size + 1 + 1) w.heap.size (w.heap.size + 1) R C i j _ _ A B W hR hC hi hj (cell_stays hW h0) (cell_stays hW h1) (cell_stays hW h2) (cell_stays hW h3) (cell_stays hW h4) ((hr.below hu).below hW) ((hr'.below hu).below hW))
  have hEq : ∀ q, q < R * C → A (q / C * C + q % C) - B (q / C * C + q % C) = subE A B q := fun q hq => by
    unfold subE; rw [Nat.mul_comm, Nat.div_add_mod]
  have hck := fun (q : Nat) (u : World) (h0 : u.cell? ⟨q, 0, none⟩ = some (.int .i64 R)) (h1 : u.cell? ⟨q, 1, none⟩ = some (.int .i64 C)) (h2 : u.cell? ⟨q, 2, none⟩ = some (.slice a (R * C) cap)) (h3 : u.cell? ⟨q, 3, none⟩ = some (.int .i64 R)) (h4 : u.cell? ⟨q, 4, none⟩ = some (.int .i64 C)) (h5 : u.cell? ⟨q, 5, none⟩ = some (.slice b (R * C) cap')) =>
    check_two q R C R C a b (R * C) (R * C) cap cap' (by omega) (by omega) u h0 h1 h2 h3 h4 h5
  rw [checkE_ok hR hC rfl] at hck
  generalize R * C = K at *
  have hmf : ∀ (fn : Fn) (first cap : Array Value) (w : World), (Instr.makeFunc fn first cap).run Try.prog w = .ok (.func fn first cap) w := fun fn first cap w => by rfl
  have HBD := Lib.hid hbd
  have HCK := Lib.hid hck
  have HB := Lib.hid hBW
  have HSZ := Lib.hid hsz
  have HEQ := Lib.hid hEq
  obtain ⟨z0, y0⟩ := hz 0 _ rfl
  obtain ⟨z1, y1⟩ := hz 1 _ rfl
  obtain ⟨z2, y2⟩ := hz 2 _ rfl
  clear hbd hck hBW hsz hz hr hr' hA hB hEq
  go_enter Try.func111, Try.ntmps111
  go_upto_region 1 with fail
  generalize (((w.alloc (.cells #[.int .i64 R, .int .i64 C, .slice a K cap] 24)).alloc (.cells #[.int .i64 R, .int .i64 C, .slice b K cap'] 24)).alloc (.cells #[.func (.func 64) #[] #[]] 57)).alloc (.cells #[.int .i64 0, .int .i64 0, .slice none 0 0] 24) = W at *
  have k6 := six_new W (.int .i64 R) (.int .i64 C) (.slice a K cap) (.int .i64 R) (.int .i64 C) (.slice b K cap') 24
  have hck2 := HCK.out W.heap.size _ (k6 0 _ rfl) (k6 1 _ rfl) (k6 2 _ rfl) (k6 3 _ rfl) (k6 4 _ rfl) (k6 5 _ rfl)
  rw [show chk2 0 0 = 0 from rfl] at hck2
  have HC2 := Lib.hid hck2
  have hba := bl_alloc W (.cells #[.int .i64 R, .int .i64 C, .slice a K cap, .int .i64 R, .int .i64 C, .slice b K cap'] 24)
  have HBA := Lib.hid hba
  clear k6 hck2 hba HCK
  go_wp2_with fail
  (refine HC2.out.mono ?_)
  rintro e w3 ⟨rfl, hb3⟩
  have hb4 := below_via HBA.out hb3
  have HB3 := Lib.hid (below_via HB.out hb4)
  have HS3 := Lib.hid (show w.heap.size + 4 ≤ w3.heap.size by have := HSZ.out; have := hb4.size; omega)
  replace y0 := froz_stays hb4 z0 y0
  replace y1 := froz_stays hb4 z1 y1
  replace y2 := froz_stays hb4 z2 y2
  replace z0 := cell_stays hb4 z0
  replace z1 := cell_stays hb4 z1
  replace z2 := cell_stays hb4 z2
  replace c0 := cell_stays hb4 c0
  replace c1 := cell_stays hb4 c1
  replace c2 := cell_stays hb4 c2
  replace d0 := cell_stays hb4 d0
  replace d1 := cell_stays hb4 d1
  replace d2 := cell_stays hb4 d2
  replace f0 := cell_stays hb4 f0
  clear hb3 hb4 HC2 HBA HB HSZ
  go_wp2_with fail
  (refine (HBD.out w3 HB3.out f0 c1 c2 d1 d2).mono ?_)
  rintro e w5 ⟨lb, rfl, hf, hb5⟩
  replace y0 := froz_stays hb5 z0 y0
  replace y1 := froz_stays hb5 z1 y1
  replace y2 := froz_stays hb5 z2 y2
  replace z0 := cell_stays hb5 z0
  replace z1 := cell_stays hb5 z1
  replace z2 := cell_stays hb5 z2
  obtain ⟨f1, f2⟩ := mat_fin (w := w) (b := w.heap.size + 1 + 1 + 1) (hf.congr HEQ.out) (by have := HS3.out; omega) (by omega) (below_via HB3.out hb5) (.int .i64 R) (.int .i64 C) (.slice (some ⟨lb, 0, none⟩) K K)
  have F1 := Lib.hid f1
  have F2 := Lib.hid f2
  clear hf hb5 f1 f2 HBD c0 c1 c2 d0 d1 d2 f0
  go_wp2_with fail
  refine bodyPost_ret (v := .tuple #[.agg #[.int .i64 R, .int .i64 C, .slice (some ⟨lb, 0, none⟩) K K], .int .i64 0]) ?_ rfl ⟨lb, rfl, F1.out, F2.out⟩
  simp [results, Try.results111, go_sem, z0, z1, z2]
theorem Sub_good (R C S T : Nat) (sl sl' : Value) (A B : Nat → Int) (w : World) (hR : R ≤ 64) (hC : C ≤ 64) (hST : S + T + 1 ≤ 274877906944) (hr : RdE w sl (R * C) A) (hr' : RdE w sl' (R * C) B) (hA : ∀ q, q < R * C → ZB S (A q)) (hB : ∀ q, q < R * C → ZB T (B q)) :
    Calls Try.prog 100 #[.agg #[.int .i64 R, .int .i64 C, sl], .agg #[.int .i64 R, .int .i64 C, sl']] w fun e w' => ∃ lb, e = .returned (.tuple #[.agg #[.int .i64 R, .int .i64 C, .slice (some ⟨lb, 0, none⟩) (R * C) (R * C)], .int .i64 0]) ∧
      FrE w' w.heap.size (fun b => b ≤ lb) lb (R * C) (subE A B) ∧ Below w.heap.size w w' := by
  obtain ⟨a, cap, rfl, hcap⟩ := hr.slice
  obtain ⟨b, cap', rfl, hcap'⟩ := hr'.slice
  obtain ⟨⟨c0, c1, c2⟩, ⟨d0, d1, d2⟩, hz, hBW, hsz⟩ := boxes3M w (.int .i64 R) (.int .i64 C) (.slice a (R * C) cap) (.int .i64 R) (.int .i64 C) (.slice b (R * C) cap')
  have hpr := fun (u : World) (hu : Below w.heap.size w u) => place_sub R C S T _ _ A B u hR hC hST (hr.below hu) (hr'.below hu) hA hB
  generalize R * C = K at *
  have HPR := Lib.hid hpr
  have HB := Lib.hid hBW
  have HSZ := Lib.hid hsz
  obtain ⟨z0, y0⟩ := hz 0 _ rfl
  obtain ⟨z1, y1⟩ := hz 1 _ rfl
  obtain ⟨z2, y2⟩ := hz 2 _ rfl
  clear hpr hBW hsz hz hr hr' hA hB
  go_enter Try.func100, Try.ntmps100
  go_upto_region 1 with fail
  generalize ((w.alloc (.cells #[.int .i64 R, .int .i64 C, .slice a K cap] 24)).alloc (.cells #[.int .i64 R, .int .i64 C, .slice b K cap'] 24)).alloc (.cells #[.int .i64 0, .int .i64 0, .slice none 0 0] 24) = W at *
  go_wp2_with fail
  (refine (HPR.out W HB.out).mono ?_)
  rintro e w5 ⟨lb, rfl, hf, hb5⟩
  replace y0 := froz_stays hb5 z0 y0
  replace y1 := froz_stays hb5 z1 y1
  replace y2 := froz_stays hb5 z2 y2
  replace z0 := cell_stays hb5 z0
  replace z1 := cell_stays hb5 z1
  replace z2 := cell_stays hb5 z2
  obtain ⟨f1, f2⟩ := mat_fin (w := w) (b := w.heap.size + 1 + 1) hf (by rw [HSZ.out]; omega) (by omega) (below_via HB.out hb5) (.int .i64 R) (.int .i64 C) (.slice (some ⟨lb, 0, none⟩) K K)
  have F1 := Lib.hid f1
  have F2 := Lib.hid f2
  clear hf hb5 f1 f2 HPR c0 c1 c2 d0 d1 d2
  go_wp2_with fail
  refine bodyPost_ret (v := .tuple #[.agg #[.int .i64 R, .int .i64 C, .slice (some ⟨lb, 0, none⟩) K K], .int .i64 0]) ?_ rfl ⟨lb, rfl, F1.out, F2.out⟩
  simp [results, Try.results100, go_sem, z0, z1, z2]
end Go.Proofs.Ytejliecmdkmgiaa
namespace Go.Proofs.Ytejliecmdkmgiaa
open Go.RowKit Go.Shelf
def trS (n : Nat) (E : Nat → Int) (k : Nat) : Int := laZ.sm k (fun i => E (i * n + i))
theorem trS_zb {n S : Nat} {E : Nat → Int} (hn : n ≤ 64) (hE : ∀ q, q < n * n → ZB S (E q)) {k : Nat} (hk : k ≤ n) : ZB (S + 1) (trS n E k) := by
  have h := smZ_abs (B := 18446744073709551616 ^ S - 1) k (fun i => E (i * n + i)) (fun t ht => by
    have h1 := hE _ (idx_lt (show t < n by omega) (show t < n by omega) rfl).1
    unfold ZB at h1; omega)
  unfold ZB trS
  rw [Int.pow_succ]
  have hp := pow_pos' (show (0 : Int) < 18446744073709551616 by omega) S
  generalize (18446744073709551616 : Int) ^ S = X at *
  have h5 : (k : Int) * (X - 1) ≤ 64 * (X - 1) := Int.mul_le_mul_of_nonneg_right (by omega) (by omega)
  omega
theorem trS_succ (n : Nat) (E : Nat → Int) (k : Nat) : trS n E (k + 1) = trS n E k + E (k * n + k) := rfl
theorem Trace_good (n S : Nat) (sl : Value) (E : Nat → Int) (w : World) (hn : n ≤ 64) (hS : S + 1 ≤ 274877906944) (hr : RdE w sl (n * n) E) (hE : ∀ q, q < n * n → ZB S (E q)) :
    Calls Try.prog 34 #[.agg #[.int .i64 n, .int .i64 n, sl]] w fun e w' => ∃ v, e = .returned (.tuple #[v, .int .i64 0]) ∧ FrZ w' w.heap.size v (trS n E n) ∧ Below w.heap.size w w' := by
  have hK4 : n * n ≤ 4096 := Nat.mul_le_mul hn hn
  obtain ⟨N, hN⟩ : ∃ N, N = n * n := ⟨_, rfl⟩
  rw [← hN] at hr hK4
  obtain ⟨a, cap, rfl, hcap⟩ := hr.slice
  have hck := fun (u : World) => Check_any n n a N cap (by omega) u
  rw [checkE_ok hn hn hN] at hck
  obtain ⟨w1, hw1⟩ : ∃ w1, w1 = w.alloc (.cells #[.int .i64 n, .int .i64 n, .slice a N cap] 24) := ⟨_, rfl⟩
  have hb0 : Below w.heap.size w w1 := by rw [hw1]; exact bl_alloc w _
  have hs1 : w1.heap.size = w.heap.size + 1 := by rw [hw1]; simp
  have k0 := three_cells w (.int .i64 n) (.int .i64 n) (.slice a N cap) 24
  rw [← hw1] at k0
  have hb1 := bl_alloc w1 (.cells #[.bool false, .slice none 0 0] 49)
  obtain ⟨r0, r1, r2, r3⟩ := two_cells w1 (.bool false) (.slice none 0 0) 49
  have hs2 : (w1.alloc (.cells #[.bool false, .slice none 0 0] 49)).heap.size = w.heap.size + 2 := by simp [hs1]
  rw [hs1] at r0 r1 r2 r3
  have c0 := cell_stays hb1 (k0 0 _ rfl).1
  have c1 := cell_stays hb1 (k0 1 _ rfl).1
  have c2 := cell_stays hb1 (k0 2 _ rfl).1
  have HB := Lib.hid (below_via hb0 hb1)
  have HCK := Lib.hid hck
  have HSZ := Lib.hid hs2
  have HR := Lib.hid hr
  have HE := Lib.hid hE
  have HS := Lib.hid hS
  have HN := Lib.hid hN
  have hmix : Try.prog.follows .mixedOrders = true := by kernel_rfl
  clear hck hr hE hS hN hb0 hb1 hs1 hs2 k0
  go_enter Try.func34, Try.ntmps34
  go_upto_region 1 with fail
  rw [← hw1]
  generalize w1.alloc (.cells #[.bool false, .slice none 0 0] 49) = W at *
  clear hw1
  go_wp2_with fail
  (refine (HCK.out W).mono ?_)
  rintro e w3 ⟨rfl, hb3⟩
  have HB3 := Lib.hid (below_via HB.out hb3)
  have HS3 := Lib.hid (show w.heap.size + 2 ≤ w3.heap.size by have := HSZ.out; have := hb3.size; omega)
  replace r2 := froz_stays hb3 r0 r2
  replace r3 := froz_stays hb3 r1 r3
  replace r0 := cell_stays hb3 r0
  replace r1 := cell_stays hb3 r1
  replace c0 := cell_stays hb3 c0
  replace c1 := cell_stays hb3 c1
  replace c2 := cell_stays hb3 c2
  clear hb3 HB HCK HSZ
  go_upto_region 7 with fail
  have hb4 := bl_alloc w3 (.cells #[.bool false, .slice none 0 0] 49)
  obtain ⟨y0, y1, v0, v1⟩ := two_cells w3 (.bool false) (.slice none 0 0) 49
  have hs4 : (w3.alloc (.cells #[.bool false, .slice none 0 0] 49)).heap.size = w3.heap.size + 1 := by simp
  replace r2 := froz_stays hb4 r0 r2
  replace r3 := froz_stays hb4 r1 r3
  replace r0 := cell_stays hb4 r0
  replace r1 := cell_stays hb4 r1
  replace c0 := cell_stays hb4 c0
  replace c1 := cell_stays hb4 c1
  replace c2 := cell_stays hb4 c2
  have HB4 := Lib.hid (below_via HB3.out hb4)
  have HS4 := Lib.hid hs4
  obtain ⟨p, hp⟩ : ∃ p, p = w3.heap.size := ⟨_, rfl⟩
  generalize w3.alloc (.cells #[.bool false, .slice none 0 0] 49) = w4 at *
  rw [← hp] at HS3 HS4 y0 y1 v0 v1 ⊢
  clear hb4 hs4 HB3 hp
  go_upto_region 8 with fail
  go_loopw [21] (fun kv wr => ∃ (k : Nat) (am : Option Addr) (an ac : Nat), k ≤ n ∧ kv = .int .i64 k ∧ Below p w4 wr ∧
    (wr.cell? ⟨p, 0, none⟩ = some (.bool (decide (trS n E k < 0))) ∧ wr.cell? ⟨p, 1, none⟩ = some (.slice am an ac) ∧ wr.frozen? ⟨p, 0, none⟩ = false ∧ wr.frozen? ⟨p, 1, none⟩ = false) ∧
    FrZ wr (p + 1) (.agg #[.bool (decide (trS n E k < 0)), .slice am an ac]) (trS n E k) ∧ p + 1 ≤ wr.heap.size) (fun kv _ => n - (intOf kv).toNat)
  case atStart => exact ⟨0, none, 0, 0, Nat.zero_le _, rfl, Below.refl _ _, ⟨y0, y1, v0, v1⟩, frz_nil _ _, by rw [HS4.out]; exact Nat.le_refl _⟩
  case round =>
    clear y0 y1 v0 v1
    obtain ⟨k, am, an, ac, hkn, rfl, hbl, ⟨y0, y1, v0, v1⟩, hf, hs⟩ := hrel
    have hbw := HB4.out.trans (hbl.mono (by have := HS3.out; omega))
    have hp2 := HS3.out
    replace c0 := below_keep hbl (by omega) c0
    replace c1 := below_keep hbl (by omega) c1
    replace c2 := below_keep hbl (by omega) c2
    by_cases hk : k < n
    · obtain ⟨q, hq⟩ : ∃ q, q = k * n + k := ⟨_, rfl⟩
      obtain ⟨hqN, hqe⟩ := idx_lt hk hk hq
      rw [← HN.out] at hqN
      obtain ⟨ba, oa, sa, ma, rfl, a0, a1, hza⟩ := (HR.out.below hbw).get hqN
      obtain ⟨ama, ana, aca, rfl⟩ := hza.agg
      have hz := hf.rd (trS_zb hn HE.out (Nat.le_of_lt hk)) HS.out
      obtain ⟨z, hzz⟩ : ∃ z, z = trS n E k := ⟨_, rfl⟩
      have hz' : trS n E (k + 1) = z + E q := by rw [trS_succ, ← hq, ← hzz]
      rw [← hzz] at hz y0
      obtain ⟨sg, hsg⟩ : ∃ sg, sg = decide (z < 0) := ⟨_, rfl⟩
      rw [← hsg] at hz y0
      have m0 : 0 ≤ (k : Int) * n := Int.mul_nonneg (by omega) (by omega)
      have m1 : (k : Int) * n ≤ 4096 := by omega
      have hqI : (q : Int) < (N : Int) := by omega
      have wi1 : IntKind.i64.wrap ((k : Int) * n) = (k : Int) * n := IntWalk.i64_in _ (by omega)
      have wi2 : IntKind.i64.wrap ((k : Int) * n + k) = (q : Int) := by rw [hqe]; exact IntWalk.i64_in _ (by omega)
      have hma := zAdd_any _ _ z (E q) wr.drew (hz.below (bl_drew _)) (hza.below (bl_drew _))
      rw [← hz'] at hma
      obtain ⟨z1, hz1⟩ : ∃ z1, z1 = trS n E (k + 1) := ⟨_, rfl⟩
      rw [← hz1] at hma
      have HZ1 := Lib.hid hz1
      have HMA := Lib.hid hma
      have HBL := Lib.hid hbl
      have HPS := Lib.hid hs
      clear hz' hz1 hma hza hz hbw hbl hsg hzz hq hf hqe hs c0
      go_wp2_with fail
      refine region_early (fun u => u.cell? ⟨p, 0, none⟩ = some (.bool sg) ∧ u.cell? ⟨p, 1, none⟩ = some (.slice am an ac) ∧ u.cell? ⟨w.heap.size, 1, none⟩ = some (.int .i64 n) ∧ u.cell? ⟨w.heap.size, 2, none⟩ = some (.slice (some ⟨ba, oa, none⟩) N cap) ∧ u.cell? ⟨ba, oa + q * 2, none⟩ = some (.bool sa) ∧ u.cell? ⟨ba, oa + q * 2 + 1, none⟩ = some (.slice ama ana aca)) 12 [0, 1, 2, 3, 4, 5, 6, 7, 8, 9, 10] 2 hmix (by kernel_rfl) rfl (by kernel_rfl) (fun _ _ d _ _ h => by cases d <;> exact h) ⟨y0, y1, c1, c2, a0, a1⟩ ?_
      iterate 11 (refine early_take rfl (by rfl) ?_; apply Exists.intro; refine ⟨fun u hu => ?_, ?_⟩; (obtain ⟨u1, u2, u3, u4, u5, u6⟩ := hu; go_simp; rfl); simp only [Act.put, List.getElem_toArray, List.getElem_cons_zero, List.getElem_cons_succ, List.setIfInBounds_toArray, List.set_cons_zero, List.set_cons_succ])
      refine early_done ?_
      simp only [marked]
      refine anyL_one (i := 11) (by kernel_rfl) rfl (by rfl) fun K hK => ?_
      go_simp
      refine HMA.out.mono ?_
      rintro e w5 ⟨v, rfl, hf5, hb5⟩
      have hb := below_via (bl_drew wr) hb5
      replace v0 := froz_stays hb y0 v0
      replace v1 := froz_stays hb y1 v1
      have x0 := cell_stays hb y0
      have x1 := cell_stays hb y1
      obtain ⟨am5, an5, ac5, rfl, -⟩ := (hf5.mono (show p + 1 ≤ wr.drew.heap.size from HPS.out)).stored
      refine hK _ _ (fun _ => ⟨x0, x1, cell_stays hb c1, cell_stays hb c2, cell_stays hb a0, cell_stays hb a1⟩) ?_
      clear hK K y0 y1 a0 a1
      refine anyL_one (i := 12) (by kernel_rfl) rfl (by rfl) fun K hK => ?_
      go_simp
      refine hK _ _ (fun e => absurd e (by decide)) ?_
      clear hK K
      refine anyL_done (by kernel_rfl) ?_ _
      have hg5 := stored2_gb w5 p (.bool (decide (z1 < 0))) (.slice am5 an5 ac5)
      have HF6 := Lib.hid ((hf5.mono (show p + 1 ≤ wr.drew.heap.size from HPS.out)).far hg5 (by omega))
      have hs5 := hb.size
      have hps := HPS.out
      have HB6 := Lib.hid ((HBL.out.trans (hb.mono (by omega))).grown hg5 (by omega) (fun k hk => by injection hk with hk; omega))
      have HS6 := Lib.hid (show p + 1 ≤ (stored2 w5 p (.bool (decide (z1 < 0))) (.slice am5 an5 ac5)).heap.size from Nat.le_trans (by omega) hg5.size)
      obtain ⟨n0, n1⟩ := two_own (x0 := .bool (decide (z1 < 0))) (x1 := .slice am5 an5 ac5) x0 x1
      have n2 : (stored2 w5 p (.bool (decide (z1 < 0))) (.slice am5 an5 ac5)).frozen? ⟨p, 0, none⟩ = false := by unfold stored2; rw [World.frozen?_setCell, World.frozen?_setCell]; exact v0
      have n3 : (stored2 w5 p (.bool (decide (z1 < 0))) (.slice am5 an5 ac5)).frozen? ⟨p, 1, none⟩ = false := by unfold stored2; rw [World.frozen?_setCell, World.frozen?_setCell]; exact v1
      have HN2 := Lib.hid (And.intro n0 (And.intro n1 (And.intro n2 n3)))
      have wk : IntKind.i64.wrap ((k : Int) + 1) = (k : Int) + 1 := IntWalk.i64_in _ (by omega)
      clear hf5 hb5 hb hg5 hs5 n0 n1 n2 n3 HMA HBL v0 v1 x0 x1 c1 c2
      go_wp2_with fail
      go_roundw
      case rel => exact ⟨k + 1, am5, an5, ac5, by omega, by go_num, HB6.out, by rw [← HZ1.out]; exact HN2.out, by rw [← HZ1.out]; exact HF6.out, HS6.out⟩
      case measure => simp [intOf]; omega
    · obtain rfl : k = n := by omega
      obtain ⟨z1, hz1⟩ : ∃ z1, z1 = trS k E k := ⟨_, rfl⟩
      rw [← hz1] at hf y0
      have HZ1 := Lib.hid hz1
      clear hz1
      replace r2 := (hbl.frozen (p := ⟨w.heap.size + 1, 0, none⟩) (by show w.heap.size + 1 < _; omega)).trans r2
      replace r3 := (hbl.frozen (p := ⟨w.heap.size + 1, 1, none⟩) (by show w.heap.size + 1 < _; omega)).trans r3
      replace r0 := below_keep hbl (by omega) r0
      replace r1 := below_keep hbl (by omega) r1
      obtain ⟨am', an', ac', he, f1, f2⟩ := det_fin (b := w.heap.size + 1) (w := w) hf (by omega) (by omega) hbw
      injection he with he
      injection he with he
      injection he with _ he
      injection he with he
      injection he with e1 e2 e3
      subst e1 e2 e3
      have F1 := Lib.hid f1
      have F2 := Lib.hid f2
      clear hf hbw hbl f1 f2 c0 c1 c2 HR
      go_wp2_with fail
      refine bodyPost_ret (v := .tuple #[.agg #[.bool (decide (z1 < 0)), .slice am an ac], .int .i64 0]) ?_ rfl ⟨_, rfl, by rw [← HZ1.out]; exact F1.out, F2.out⟩
      simp [results, Try.results34, go_sem, r0, r1]
end Go.Proofs.Ytejliecmdkmgiaa
namespace Go.Proofs.Ytejliecmdkmgiaa
open Go.RowKit Go.Shelf
def sqE (r c : Int) (n : Nat) : Int := if checkE r c n = 0 then (if r = c then 0 else 2) else 1
theorem square_any (r c : Int) (a : Option Addr) (n cap : Nat) (hn : n ≤ 17592186044416) (w : World) :
    Calls Try.prog 88 #[.agg #[.int .i64 r, .int .i64 c, .slice a n cap]] w fun e w' => e = .returned (.int .i64 (sqE r c n)) ∧ Below w.heap.size w w' := by
  have hck := fun (u : World) => Check_any r c a n cap hn u
  have hb0 := bl_alloc w (.cells #[.int .i64 r, .int .i64 c, .slice a n cap] 24)
  have k0 := three_cells w (.int .i64 r) (.int .i64 c) (.slice a n cap) 24
  have c0 := (k0 0 _ rfl).1
  have c1 := (k0 1 _ rfl).1
  have c2 := (k0 2 _ rfl).1
  have HB := Lib.hid hb0
  have hE : checkE r c n = 0 ∨ checkE r c n = 1 := by unfold checkE; split <;> simp
  obtain ⟨q, hq⟩ : ∃ q, q = sqE r c n := ⟨_, rfl⟩
  rw [← hq]
  unfold sqE at hq
  obtain ⟨K, hK⟩ : ∃ K, K = checkE r c n := ⟨_, rfl⟩
  rw [← hK] at hE hq
  simp only [← hK] at hck
  have HCK := Lib.hid hck
  clear hb0 k0 hck hK
  go_enter Try.func88, Try.ntmps88
  go_upto_region 1 with fail
  generalize w.alloc (.cells #[.int .i64 r, .int .i64 c, .slice a n cap] 24) = W at *
  rcases hE with rfl | rfl
  · rw [if_pos rfl] at hq
    by_cases hrc : r = c
    · rw [if_pos hrc] at hq
      have hrc' : (r != c) = false := by rw [bne_eq_false_iff_eq]; exact hrc
      subst hq
      clear hrc
      go_wp2_with fail
      (refine (HCK.out W).mono ?_)
      rintro e w3 ⟨rfl, hb3⟩
      have HB3 := Lib.hid (below_via HB.out hb3)
      replace c0 := cell_stays hb3 c0
      replace c1 := cell_stays hb3 c1
      clear hb3 HCK
      go_wp2_with fail
      go_ret
      exact ⟨rfl, HB3.out⟩
    · rw [if_neg hrc] at hq
      have hrc' : (r != c) = true := by rw [bne_iff_ne]; exact hrc
      subst hq
      clear hrc
      go_wp2_with fail
      (refine (HCK.out W).mono ?_)
      rintro e w3 ⟨rfl, hb3⟩
      have HB3 := Lib.hid (below_via HB.out hb3)
      replace c0 := cell_stays hb3 c0
      replace c1 := cell_stays hb3 c1
      clear hb3 HCK
      go_wp2_with fail
      go_ret
      exact ⟨rfl, HB3.out⟩
  · rw [if_neg (by decide)] at hq
    subst hq
    go_wp2_with fail
    (refine (HCK.out W).mono ?_)
    rintro e w3 ⟨rfl, hb3⟩
    have HB3 := Lib.hid (below_via HB.out hb3)
    clear hb3 HCK
    go_wp2_with fail
    go_ret
    exact ⟨rfl, HB3.out⟩
theorem sqE_ok {n k : Nat} (hn : n ≤ 64) (hk : k = n * n) : sqE n n k = 0 := by unfold sqE; rw [checkE_ok hn hn hk]; simp
end Go.Proofs.Ytejliecmdkmgiaa
namespace Go.Proofs.Ytejliecmdkmgiaa
open Go.RowKit Go.Shelf
def liftE (n : Nat) (z : Int) (i : Nat) (E : Nat → Int) (q : Nat) : Int := if q / n < i ∧ q / n = q % n then E q + z else E q
theorem lift_any (n lb base S : Nat) (D : Nat → Prop) (E : Nat → Int) (s : Bool) (m : Value) (z : Int) (w : World) (hn : n ≤ 64) (h : PaE w base D lb (n * n) (n * n) E) (hD : D lb) (hDl : ∀ b, D b → b < w.heap.size) (hc : RdZ w (.agg #[.bool s, m]) z) (hcb : m.ownBlock ≠ some lb)
    (hS : S ≤ 274877906944) (hz : ∀ q, q < n * n → ZB S (E q + z)) :
    Calls Try.prog 91 #[.agg #[.int .i64 n, .int .i64 n, .slice (some ⟨lb, 0, none⟩) (n * n) (n * n)], .agg #[.bool s, m]] w fun e w' => e = .returned (.tuple #[]) ∧ PaE w' base D lb (n * n) (n * n) (liftE n z n E) ∧ w.grownBy w' (some lb) := by
  have hN4 : n * n ≤ 4096 := Nat.mul_le_mul hn hn
  obtain ⟨N, hN⟩ : ∃ N, N = n * n := ⟨_, rfl⟩
  have HN := Lib.hid hN
  rw [← hN] at h hz hN4 ⊢
  obtain ⟨am, ac, an, rfl⟩ := hc.agg
  have HZ := Lib.hid hz
  have hmix : Try.prog.follows .mixedOrders = true := by kernel_rfl
  have hlbW : lb < w.heap.size := h.lt
  have hB1 := bl_alloc w (.cells #[.int .i64 n, .int .i64 n, .slice (some ⟨lb, 0, none⟩) N N] 24)
  have hB2 := bl_alloc (w.alloc (.cells #[.int .i64 n, .int .i64 n, .slice (some ⟨lb, 0, none⟩) N N] 24)) (.cells #[.bool s, .slice am ac an] 49)
  have k1 := three_cells w (.int .i64 n) (.int .i64 n) (.slice (some ⟨lb, 0, none⟩) N N) 24
  have k2 := two_cells (w.alloc (.cells #[.int .i64 n, .int .i64 n, .slice (some ⟨lb, 0, none⟩) N N] 24)) (.bool s) (.slice am ac an) 49
  have hs1 : (w.alloc (.cells #[.int .i64 n, .int .i64 n, .slice (some ⟨lb, 0, none⟩) N N] 24)).heap.size = w.heap.size + 1 := by simp
  rw [hs1] at k2
  have HW := Lib.hid (And.intro (cell_stays hB2 (k1 0 _ rfl).1) (And.intro (cell_stays hB2 (k1 1 _ rfl).1) (And.intro (cell_stays hB2 (k1 2 _ rfl).1) (And.intro k2.1 k2.2.1))))
  have HB := Lib.hid (below_via hB1 hB2)
  have HP := Lib.hid ((h.below hB1).below hB2)
  have HC := Lib.hid ((hc.below hB1).below hB2)
  have HCB := Lib.hid hcb
  have HDL := Lib.hid hDl
  have HD := Lib.hid hD
  clear hN hz h hc hcb hDl hD hB1 hB2 k1 k2 hs1
  go_enter Try.func91, Try.ntmps91
  go_wp2_with fail
  generalize (w.alloc (.cells #[.int .i64 n, .int .i64 n, .slice (some ⟨lb, 0, none⟩) N N] 24)).alloc (.cells #[.bool s, .slice am ac an] 49) = W at *
  go_loopw [7] (fun iv wr => ∃ i : Nat, i ≤ n ∧ iv = .int .i64 i ∧ PaE wr base D lb N N (liftE n z i E) ∧ W.grownBy wr (some lb)) (fun iv _ => n - (intOf iv).toNat)
  case atStart => exact ⟨0, Nat.zero_le _, rfl, HP.out.congr (fun q _ => by unfold liftE; rw [if_neg (by omega)]), gb_refl _ _⟩
  case round =>
    obtain ⟨i, hi, rfl, hp, hg⟩ := hrel
    by_cases hin : i < n
    · obtain ⟨q, hq⟩ : ∃ q, q = i * n + i := ⟨_, rfl⟩
      obtain ⟨hqN, hqe⟩ := idx_lt hin hin hq
      rw [← HN.out] at hqN
      obtain ⟨s1, m1, c1, c2, c3, c4⟩ := hp.cells q hqN
      obtain ⟨a1, n1, p1, rfl⟩ := c3.agg
      have hne : ∀ b, w.heap.size ≤ b → some b ≠ some lb := fun b hb e => by injection e with e; omega
      obtain ⟨w0, w1, w2, w3, w4⟩ := HW.out
      have x0 := hg.cell w0 (hne _ (Nat.le_refl _))
      have x1 := hg.cell w1 (hne _ (Nat.le_refl _))
      have x2 := hg.cell w2 (hne _ (Nat.le_refl _))
      have x3 := hg.cell w3 (hne _ (Nat.le_succ _))
      have x4 := hg.cell w4 (hne _ (Nat.le_succ _))
      have e1 : IntKind.i64.wrap ((i : Int) * n) = (i : Int) * n := IntWalk.i64_in _ (by constructor <;> omega)
      have e2 : IntKind.i64.wrap ((i : Int) * n + i) = (q : Int) := by rw [hqe]; exact IntWalk.i64_in _ (by omega)
      have hq2 : (q : Int) < (N : Int) := by omega
      have hwr : w.heap.size ≤ wr.heap.size := Nat.le_trans HB.out.size hg.size
      have hzc : RdZ wr (.agg #[.bool s, .slice am ac an]) z := HC.out.gb hg HCB.out
      have hE : liftE n z i E q = E q := by unfold liftE; rw [if_neg (by rw [hq, Nat.mul_comm i n, Nat.mul_add_div (by omega), Nat.div_eq_of_lt hin]; omega)]
      rw [hE] at c3
      have HADD := Lib.hid (zAdd_any _ _ (E q) z wr.drew (c3.1.below (bl_drew _)) (hzc.below (bl_drew _)))
      have HPP := Lib.hid hp
      have HFI := Lib.hid (fun (w3 : World) (v : Value) (hf : FrZ w3 wr.drew.heap.size v (E q + z)) (hb3 : Below wr.drew.heap.size wr.drew w3) => (hp.below (below_via (bl_drew wr) hb3)).putz hqN HD.out hf (HZ.out q hqN) hS (fun j h1 h2 h3 => by have := HDL.out j h3; have h1 : wr.heap.size ≤ j := h1; omega))
      have HG := Lib.hid hg
      have HLE := Lib.hid c3
      have HOW := Lib.hid c4
      have HNE := Lib.hid hne
      have HQ := Lib.hid hq
      clear hp hg c3 c4 hne hq w0 w1 w2 w3 w4 x0 hqe hzc hE
      go_wp2_with fail
      refine region_early (fun u => u.cell? ⟨w.heap.size, 1, none⟩ = some (.int .i64 n) ∧ u.cell? ⟨w.heap.size, 2, none⟩ = some (.slice (some ⟨lb, 0, none⟩) N N) ∧ u.cell? ⟨w.heap.size + 1, 0, none⟩ = some (.bool s) ∧ u.cell? ⟨w.heap.size + 1, 1, none⟩ = some (.slice am ac an) ∧ u.cell? ⟨lb, q * 2, none⟩ = some (.bool s1) ∧ u.cell? ⟨lb, q * 2 + 1, none⟩ = some (.slice a1 n1 p1)) 20 [0, 1, 2, 3, 4, 5, 6, 7, 8, 9, 10, 11, 12, 13, 14, 15, 16, 17, 18] 3 hmix (by kernel_rfl) rfl (by kernel_rfl) (fun _ _ d _ _ h => by cases d <;> exact h) ⟨x1, x2, x3, x4, c1, c2⟩ ?_
      iterate 19 (refine early_take rfl (by rfl) ?_; apply Exists.intro; refine ⟨fun u hu => ?_, ?_⟩; (obtain ⟨u1, u2, u3, u4, u5, u6⟩ := hu; go_simp; rfl); simp only [Act.put, List.setIfInBounds_toArray, List.set_cons_zero, List.set_cons_succ])
      refine early_done ?_
      simp only [marked]
      refine anyL_one (i := 19) (by kernel_rfl) rfl (by rfl) fun K hK => ?_
      go_simp
      refine HADD.out.mono ?_
      rintro e w3 ⟨v, rfl, hf, hb3⟩
      have hb := below_via (bl_drew wr) hb3
      obtain ⟨u1, u2, q1, q2, q3, q4⟩ := (HPP.out.below hb).ready hqN
      obtain ⟨s3, a3, n3, p3, rfl, hfi⟩ := HFI.out w3 v hf hb3
      have HF := Lib.hid hfi
      have HB3 := Lib.hid hb
      refine hK _ _ (fun _ => ⟨cell_stays hb x1, cell_stays hb x2, cell_stays hb x3, cell_stays hb x4, cell_stays hb c1, cell_stays hb c2⟩) ?_
      clear hK K hf hb3 hb hfi
      refine anyL_one (i := 20) (by kernel_rfl) rfl (by rfl) fun K hK => ?_
      go_simp
      refine hK _ _ (fun e => absurd e (by decide)) ?_
      clear hK K
      refine anyL_one (i := 21) (by kernel_rfl) rfl (by rfl) fun K hK => ?_
      go_simp
      refine hK _ _ (fun e => absurd e (by decide)) ?_
      clear hK K
      refine anyL_done (by kernel_rfl) ?_ _
      have HG3 := Lib.hid (gb_trans (gb_trans HG.out (gb_below HB3.out _)) (gb_two w3 lb (q * 2) (q * 2 + 1) (.bool s3) (.slice a3 n3 p3)))
      go_wp2_with fail
      go_roundw
      case rel => exact ⟨i + 1, by omega, by go_num, HF.out.congr (fun t ht => by
        have hq := HQ.out
        have hd1 : q / n = i := by rw [hq, Nat.mul_comm i n, Nat.mul_add_div (by omega), Nat.div_eq_of_lt hin]; rfl
        have hd2 : q % n = i := by rw [hq, Nat.mul_comm i n, Nat.mul_add_mod, Nat.mod_eq_of_lt hin]
        unfold liftE
        by_cases e : t = q
        · rw [if_pos e, e, hd1, hd2, if_pos ⟨by omega, rfl⟩]
        · rw [if_neg e]
          by_cases e2 : t / n = i ∧ t / n = t % n
          · exfalso
            apply e
            have h1 := Nat.div_add_mod t n
            have h2 := Nat.div_add_mod q n
            rw [← h1, ← h2, hd1, hd2, e2.1, ← e2.2, e2.1]
          · by_cases e3 : t / n < i ∧ t / n = t % n
            · rw [if_pos e3, if_pos ⟨by omega, e3.2⟩]
            · rw [if_neg e3, if_neg (fun e4 => e3 ⟨by have : t / n ≠ i := fun e5 => e2 ⟨e5, e4.2⟩; omega, e4.2⟩)]), HG3.out⟩
      case measure => simp [intOf]; omega
    · obtain rfl : i = n := by omega
      have HPP := Lib.hid hp
      have HG := Lib.hid hg
      clear hp hg
      go_wp2_with fail
      go_end0
      exact ⟨rfl, HPP.out, gb_trans (gb_below HB.out _) HG.out⟩
end Go.Proofs.Ytejliecmdkmgiaa
namespace Go.Proofs.Ytejliecmdkmgiaa
open Go.RowKit Go.Shelf
theorem three_own {W : World} {q : Nat} {v0 v1 v2 x0 x1 x2 : Value} (h0 : W.cell? ⟨q, 0, none⟩ = some v0) (h1 : W.cell? ⟨q, 1, none⟩ = some v1) (h2 : W.cell? ⟨q, 2, none⟩ = some v2) :
    (stored3 W q x0 x1 x2).cell? ⟨q, 0, none⟩ = some x0 ∧ (stored3 W q x0 x1 x2).cell? ⟨q, 1, none⟩ = some x1 ∧ (stored3 W q x0 x1 x2).cell? ⟨q, 2, none⟩ = some x2 := by
  have ne : ∀ i j : Nat, i ≠ j → (⟨q, i, none⟩ : Addr) ≠ ⟨q, j, none⟩ := fun i j h e => by injection e with _ e _; omega
  unfold stored3
  refine ⟨?_, ?_, ?_⟩
  · rw [World.cell?_setCell_other _ _ _ _ (ne 2 0 (by omega)), World.cell?_setCell_other _ _ _ _ (ne 1 0 (by omega))]
    exact World.cell?_setCell_same _ _ _ h0
  · rw [World.cell?_setCell_other _ _ _ _ (ne 2 1 (by omega))]
    refine World.cell?_setCell_same _ _ _ (u := v1) ?_
    rw [World.cell?_setCell_other _ _ _ _ (ne 0 1 (by omega))]; exact h1
  · refine World.cell?_setCell_same _ _ _ (u := v2) ?_
    rw [World.cell?_setCell_other _ _ _ _ (ne 1 2 (by omega)), World.cell?_setCell_other _ _ _ _ (ne 0 2 (by omega))]; exact h2
theorem three_froz {W : World} {q b i : Nat} {x0 x1 x2 : Value} (h : W.frozen? ⟨b, i, none⟩ = false) : (stored3 W q x0 x1 x2).frozen? ⟨b, i, none⟩ = false := by
  unfold stored3; rw [World.frozen?_setCell, World.frozen?_setCell, World.frozen?_setCell]; exact h
structure MBox (w : World) (mb : Nat) (r c : Int) (v : Value) : Prop where
  m0 : w.cell? ⟨mb, 0, none⟩ = some (.int .i64 r)
  m1 : w.cell? ⟨mb, 1, none⟩ = some (.int .i64 c)
  m2 : w.cell? ⟨mb, 2, none⟩ = some v
  f0 : w.frozen? ⟨mb, 0, none⟩ = false
  f1 : w.frozen? ⟨mb, 1, none⟩ = false
  f2 : w.frozen? ⟨mb, 2, none⟩ = false
theorem MBox.below {w w' : World} {mb : Nat} {r c : Int} {v : Value} (h : MBox w mb r c v) (hb : Below w.heap.size w w') : MBox w' mb r c v :=
  ⟨cell_stays hb h.m0, cell_stays hb h.m1, cell_stays hb h.m2, froz_stays hb h.m0 h.f0, froz_stays hb h.m1 h.f1, froz_stays hb h.m2 h.f2⟩
theorem MBox.store {w : World} {mb : Nat} {r c r' c' : Int} {v v' : Value} (h : MBox w mb r c v) : MBox (stored3 w mb (.int .i64 r') (.int .i64 c') v') mb r' c' v' := by
  obtain ⟨h0, h1, h2⟩ := three_own (x0 := .int .i64 r') (x1 := .int .i64 c') (x2 := v') h.m0 h.m1 h.m2
  exact ⟨h0, h1, h2, three_froz h.f0, three_froz h.f1, three_froz h.f2⟩
theorem froz_grown {w w' : World} {b d i : Nat} {v : Value} (hg : w.grownBy w' (some d)) (hb : b ≠ d) (hc : w.cell? ⟨b, i, none⟩ = some v) (hf : w.frozen? ⟨b, i, none⟩ = false) : w'.frozen? ⟨b, i, none⟩ = false := by
  have h1 := World.block_lt_of_cell? w _ hc
  have h2 := hg.block b h1 (fun e => hb (Option.some.inj e))
  unfold World.frozen? at *
  rw [h2]; exact hf
theorem MBox.grown {w w' : World} {mb d : Nat} {r c : Int} {v : Value} (h : MBox w mb r c v) (hg : w.grownBy w' (some d)) (hd : mb ≠ d) : MBox w' mb r c v :=
  have ne : some mb ≠ some d := fun e => hd (Option.some.inj e)
  ⟨hg.cell h.m0 ne, hg.cell h.m1 ne, hg.cell h.m2 ne, froz_grown hg hd h.m0 h.f0, froz_grown hg hd h.m1 h.f1, froz_grown hg hd h.m2 h.f2⟩
theorem MBox.new (w : World) (r c : Int) (v : Value) : MBox (w.alloc (.cells #[.int .i64 r, .int .i64 c, v] 24)) w.heap.size r c v := by
  have k := three_cells w (.int .i64 r) (.int .i64 c) v 24
  exact ⟨(k 0 _ rfl).1, (k 1 _ rfl).1, (k 2 _ rfl).1, (k 0 _ rfl).2, (k 1 _ rfl).2, (k 2 _ rfl).2⟩
structure ChR (w wr : World) (n pb mb lb : Nat) (sl : Value) (P G : Nat → Int) : Prop where
  below : Below w.heap.size w wr
  pm : w.heap.size < pb ∧ pb < mb ∧ mb < wr.heap.size
  a : MBox wr w.heap.size n n sl
  m : MBox wr mb n n (.slice (some ⟨lb, 0, none⟩) (n * n) (n * n))
  p : PaE wr w.heap.size (fun b => b ≤ pb ∨ b = mb ∨ b = lb) pb (n + 1) (n + 1) P
  g : PaE wr w.heap.size (fun b => b ≤ lb ∨ b = mb) lb (n * n) (n * n) G
  pl : pb < lb
  ml : mb ≠ lb
section
variable {w wr w' W1 : World} {n pb mb lb lb' : Nat} {sl : Value} {P G G' : Nat → Int}
theorem ChR.on (h : ChR w wr n pb mb lb sl P G) (hb : Below wr.heap.size wr w') : ChR w w' n pb mb lb sl P G :=
  ⟨below_via' h.below hb, ⟨h.pm.1, h.pm.2.1, Nat.lt_of_lt_of_le h.pm.2.2 hb.size⟩, h.a.below hb, h.m.below hb, h.p.below hb, h.g.below hb, h.pl, h.ml⟩
where below_via' {w u w' : World} (h : Below w.heap.size w u) (b : Below u.heap.size u w') : Below w.heap.size w w' := h.trans (b.mono h.size)
theorem ChR.mul (h : ChR w wr n pb mb lb sl P G) (hb : Below wr.heap.size wr W1) (hf : FrE W1 wr.heap.size (fun b => b ≤ lb') lb' (n * n) G') :
    ChR w (stored3 W1 mb (.int .i64 n) (.int .i64 n) (.slice (some ⟨lb', 0, none⟩) (n * n) (n * n))) n pb mb lb' sl P G' := by
  have hg := stored3_gb W1 mb (.int .i64 n) (.int .i64 n) (.slice (some ⟨lb', 0, none⟩) (n * n) (n * n))
  obtain ⟨p1, p2, p3⟩ := h.pm
  have hl := hf.own
  have hbw := below_via h.below hb
  refine ⟨hbw.grown hg hbw.size (fun k hk => by injection hk with hk; omega), ⟨p1, p2, Nat.lt_of_lt_of_le p3 (Nat.le_trans hb.size hg.size)⟩, (h.a.below hb).grown hg (by omega), (h.m.below hb).store, ?_, ?_, by omega, by omega⟩
  · refine PaE.grown ?_ hg (by omega) (Or.inr (Or.inl rfl))
    have h1 := h.p.turnD (D' := fun b => b ≤ pb ∨ b = mb ∨ b = lb') (fun b hbl hn hd => by
      rcases hd with hd | hd | hd
      · exact hn (Or.inl hd)
      · exact hn (Or.inr (Or.inl hd))
      · omega)
    exact h1.below hb
  · refine PaE.grown ?_ hg (by omega) (Or.inr rfl)
    exact (hf.mono (show w.heap.size ≤ wr.heap.size from h.below.size)).turnD (D' := fun b => b ≤ lb' ∨ b = mb) (fun b _ hn hd => by
      rcases hd with hd | hd
      · exact hn hd
      · exact hn (by omega))
theorem ChR.put (h : ChR w wr n pb mb lb sl P G) {u : World} (hu : Below wr.heap.size wr u) {s : Bool} {a : Option Addr} {c d : Nat} {z : Int} {b : Nat} (hb : wr.heap.size ≤ b) (hf : FrZ u b (.agg #[.bool s, .slice a c d]) z) {S : Nat} (hz : ZB S z) (hS : S ≤ 274877906944) {j : Nat} (hj : j < n + 1) :
    ChR w ((u.setCell ⟨pb, j * 2, none⟩ (.bool s)).setCell ⟨pb, j * 2 + 1, none⟩ (.slice a c d)) n pb mb lb sl (fun t => if t = j then z else P t) G ∧
      RdZ ((u.setCell ⟨pb, j * 2, none⟩ (.bool s)).setCell ⟨pb, j * 2 + 1, none⟩ (.slice a c d)) (.agg #[.bool s, .slice a c d]) z ∧ (Value.slice a c d).ownBlock ≠ some lb ∧ u.grownBy ((u.setCell ⟨pb, j * 2, none⟩ (.bool s)).setCell ⟨pb, j * 2 + 1, none⟩ (.slice a c d)) (some pb) := by
  have h1 := h.on hu
  obtain ⟨p1, p2, p3⟩ := h.pm
  have hlw := h.g.lt
  have hrd := hf.rd hz hS
  obtain ⟨s', a', c', d', he, hp⟩ := h1.p.putz hj (Or.inl (Nat.le_refl _)) hf hz hS (fun k k1 k2 k3 => by omega)
  injection he with he
  injection he with he
  injection he with he1 he
  injection he with he _
  injection he1 with he1
  rw [← he1, ← he] at hp
  have hown : ∀ k, (Value.slice a c d).ownBlock = some k → b ≤ k := by
    obtain ⟨a', c', d', e, ho⟩ := hf.agg
    injection e with e
    injection e with e
    injection e with _ e
    injection e with e _
    rw [e]
    exact fun k hk => (ho k hk).1
  have hg : u.grownBy ((u.setCell ⟨pb, j * 2, none⟩ (.bool s)).setCell ⟨pb, j * 2 + 1, none⟩ (.slice a c d)) (some pb) := gb_two _ _ _ _ _ _
  refine ⟨⟨h1.below.grown hg h1.below.size (fun k hk => by injection hk with hk; omega), ⟨p1, p2, Nat.lt_of_lt_of_le p3 (Nat.le_trans hu.size hg.size)⟩, h1.a.grown hg (by omega), h1.m.grown hg (by omega), hp, h1.g.grown hg (by have := h.pl; omega) (Or.inl (by have := h.pl; omega)), h.pl, h.ml⟩, hrd.gb hg (fun e => by have := hown _ e; omega), fun e => by have := hown _ e; omega, hg⟩
theorem ChR.lift (h : ChR w wr n pb mb lb sl P G) (hg : wr.grownBy w' (some lb)) (hp : PaE w' w.heap.size (fun b => b ≤ lb ∨ b = mb) lb (n * n) (n * n) G') : ChR w w' n pb mb lb sl P G' := by
  obtain ⟨p1, p2, p3⟩ := h.pm
  have hl := h.pl
  exact ⟨h.below.grown hg h.below.size (fun k hk => by injection hk with hk; omega), ⟨p1, p2, Nat.lt_of_lt_of_le p3 hg.size⟩, h.a.grown hg (by omega), h.m.grown hg h.ml, h.p.grown hg (by omega) (Or.inr (Or.inr rfl)), hp, hl, h.ml⟩
theorem ChR.congr (h : ChR w wr n pb mb lb sl P G) {P' : Nat → Int} (hp : ∀ i, i < n + 1 → P i = P' i) (hg : ∀ q, q < n * n → G q = G' q) : ChR w wr n pb mb lb sl P' G' :=
  { h with p := h.p.congr hp, g := h.g.congr hg }
theorem ChR.start {w6 w7 : World} (h6 : Below w.heap.size w w6) (a6 : MBox w6 w.heap.size n n sl) (hpb : w.heap.size < pb) (p6 : PaE w6 w.heap.size (fun b => b ≤ pb) pb (n + 1) (n + 1) P) (h7 : Below w6.heap.size w6 w7) (f7 : FrE w7 w6.heap.size (fun b => b ≤ lb) lb (n * n) G) :
    ChR w (w7.alloc (.cells #[.int .i64 n, .int .i64 n, .slice (some ⟨lb, 0, none⟩) (n * n) (n * n)] 24)) n pb w7.heap.size lb sl P G := by
  have hb8 := bl_alloc w7 (.cells #[.int .i64 n, .int .i64 n, .slice (some ⟨lb, 0, none⟩) (n * n) (n * n)] 24)
  have hs8 : (w7.alloc (.cells #[.int .i64 n, .int .i64 n, .slice (some ⟨lb, 0, none⟩) (n * n) (n * n)] 24)).heap.size = w7.heap.size + 1 := by simp
  have hm := MBox.new w7 n n (.slice (some ⟨lb, 0, none⟩) (n * n) (n * n))
  have hl := p6.lt
  have hl2 := f7.own
  have hl3 := f7.lt
  have hs7 := h7.size
  have hs6 := h6.size
  have h68 := below_via h7 hb8
  refine ⟨below_via h6 h68, ⟨hpb, by omega, by omega⟩, a6.below h68, hm, (p6.turnD fun b hbl hn hd => ?_).below h68, PaE.below ?_ hb8, by omega, by omega⟩
  · rcases hd with hd | hd | hd
    · exact hn hd
    · omega
    · omega
  · exact (f7.mono hs6).turnD (fun b hbl hn hd => by
      rcases hd with hd | hd
      · exact hn hd
      · omega)
end
def mtx (n : Nat) (E : Nat → Int) (i j : Nat) : Int := E (i * n + j)
def flat (n : Nat) (M : Nat → Nat → Int) (q : Nat) : Int := M (q / n) (q % n)
theorem at_flat {n i j : Nat} (hj : j < n) (M : Nat → Nat → Int) : flat n M (i * n + j) = M i j := by
  unfold flat
  rw [Nat.mul_comm i n, Nat.mul_add_div (by omega), Nat.mul_add_mod, Nat.div_eq_of_lt hj, Nat.mod_eq_of_lt hj, Nat.add_zero]
theorem flat_lt {n q : Nat} (hq : q < n * n) : q / n < n ∧ q % n < n ∧ q / n * n + q % n = q := by
  have hn : 0 < n := Nat.pos_of_ne_zero fun e => by subst e; simp at hq
  exact ⟨Nat.div_lt_of_lt_mul hq, Nat.mod_lt _ hn, by rw [Nat.mul_comm]; exact Nat.div_add_mod q n⟩
theorem mul_flat {n q : Nat} (hq : q < n * n) (E : Nat → Int) (M : Nat → Nat → Int) : mulE E (flat n M) n n q = flat n (laZ.mm n (mtx n E) M) q := by
  obtain ⟨h1, h2, -⟩ := flat_lt hq
  exact laZ.sm_congr fun t ht => by rw [at_flat h2]; rfl
theorem mul_flat' {n q : Nat} (hq : q < n * n) (E : Nat → Int) (M : Nat → Nat → Int) : mulE (flat n M) E n n q = flat n (laZ.mm n M (mtx n E)) q := by
  exact laZ.sm_congr fun t ht => by rw [at_flat ht]; rfl
theorem tr_flat (n : Nat) (M : Nat → Nat → Int) : trS n (flat n M) n = laZ.sm n (fun l => M l l) := laZ.sm_congr fun t ht => at_flat ht M
theorem mtx_zb {n S : Nat} {E : Nat → Int} (hE : ∀ q, q < n * n → ZB S (E q)) : ∀ i j, i < n → j < n → ZB S (mtx n E i j) := fun i j hi hj => hE _ (idx_lt hi hj rfl).1
theorem flat_zb {n S : Nat} {M : Nat → Nat → Int} (hM : ∀ i j, i < n → j < n → ZB S (M i j)) : ∀ q, q < n * n → ZB S (flat n M q) := fun q hq => hM _ _ (flat_lt hq).1 (flat_lt hq).2.1
theorem lift_flat {n q : Nat} (hq : q < n * n) (z : Int) (M : Nat → Nat → Int) : liftE n z n (flat n M) q = flat n (fun i j => M i j + z * laZ.idm i j) q := by
  obtain ⟨h1, h2, -⟩ := flat_lt hq
  unfold liftE
  show _ = M (q / n) (q % n) + z * laZ.idm (q / n) (q % n)
  unfold flat laZ.idm
  by_cases e : q / n = q % n
  · rw [if_pos ⟨h1, e⟩, if_pos e.symm, Int.mul_one]
  · rw [if_neg (fun h => e h.2), if_neg (fun h : q % n = q / n => e h.symm), Int.mul_zero, Int.add_zero]
def chP (n : Nat) (A : Nat → Nat → Int) (t j : Nat) : Int := if n ≤ j + t then flq n A (n - j) else 0
end Go.Proofs.Ytejliecmdkmgiaa
namespace Go.Proofs.Ytejliecmdkmgiaa
open Go.RowKit
open laZ
def chE (n : Nat) (E : Nat → Int) (j : Nat) : Int := flq n (mtx n E) (n - j)
theorem chE_zb {n S : Nat} {E : Nat → Int} (hn : n ≤ 64) (hE : ∀ q, q < n * n → ZB S (E q)) (j : Nat) (hj : j < n + 1) : ZB (64 * (S + 1) + 1) (chE n E j) :=
  (flC_zb hn (mtx_zb hE) (n - j)).2.1.mono (Nat.succ_le_succ (Nat.mul_le_mul_right _ (by omega)))
end Go.Proofs.Ytejliecmdkmgiaa
namespace Go.Proofs.Ytejliecmdkmgiaa
open Go.RowKit
theorem anyL_yield {P : Program} {Q : Exit → Act → World → Prop} {md : Region.Mode} {ops : Array Oper} {S : World → Prop} {f i : Nat} {oi : Oper} {fuel : Nat} {listed : Array Bool} {a : Act} {w : World} (hi : ops[i]? = some oi)
    (hs : Region.noSelect ops = true) (hfr : Region.free md ops listed i = true) (hr : (Region.ready md ops listed).contains i = true) (hf : decide (i < f) = true)
    (hQ : ∀ c (a : Act) (d : Option Tmp) (v : Value) w, Q (.panic c) (a.put d v) w → Q (.panic c) a w) (hw : Region.wanted oi (yielded ops a.tmps) = true) (hS : S w)
    (h : ∃ v, (∀ w, (execOp a.eval oi).run P w = .ok (.value v) w) ∧ wpAnyL P md ops Q S f fuel (listed.setIfInBounds i true) (a.put oi.dst v) w) : wpAnyL P md ops Q S f (fuel + 1) listed a w :=
  h.elim fun v h => anyL_pure (v := v) hi hs hfr hr hf (fun c a w => hQ c a _ _ w) (Or.inl ⟨hw, fun w _ => h.1 w⟩) hS h.2
end Go.Proofs.Ytejliecmdkmgiaa
namespace Go.Proofs.Ytejliecmdkmgiaa
open Go.RowKit Go.Shelf
theorem SameInt_yes (x y : Value) (z : Int) (w : World) (hx : LeZ w x z) (hy : LeZ w y z) :
    Calls Try.prog 85 #[x, y] w fun e w' => e = .returned (.bool true) ∧ Below w.heap.size w w' := by
  obtain ⟨-, m, n, f, rfl, h1, h2⟩ := hx
  obtain ⟨-, m', n', f', rfl, g1, g2⟩ := hy
  obtain ⟨rfl, hfg⟩ := h2.unique (by decide) g2
  obtain ⟨a, cap, rfl, -⟩ := wd_get h1
  obtain ⟨a', cap', rfl, -⟩ := wd_get g1
  have HS := Lib.hid (fun (W : World) (hb : Below w.heap.size w W) => Same_yes _ _ n f f' W (h1.below hb) (g1.below hb) hfg)
  have hsr : ((decide (z < 0)) == (decide (z < 0))) = true := by simp
  clear h1 g1 h2 g2 hfg
  generalize decide (z < 0) = s at *
  go_enter Try.func85, Try.ntmps85
  go_wp2_with fail
  refine (HS.out _ (below_via (bl_alloc _ _) (bl_alloc _ _))).mono ?_
  rintro e w3 ⟨rfl, hb3⟩
  have HB := Lib.hid (below_via (below_via (bl_alloc _ _) (bl_alloc _ _)) hb3)
  clear hb3 HS
  go_wp2_with fail
  go_ret
  exact ⟨rfl, HB.out⟩
end Go.Proofs.Ytejliecmdkmgiaa
namespace Go.Proofs.Ytejliecmdkmgiaa
open Go.RowKit Go.Shelf
theorem Char_good (n S : Nat) (sl : Value) (E : Nat → Int) (w : World) (hn : n ≤ 64) (hS : S ≤ 2000000000) (hr : RdE w sl (n * n) E) (hE : ∀ q, q < n * n → ZB S (E q)) :
    Calls Try.prog 17 #[.agg #[.int .i64 n, .int .i64 n, sl]] w fun e w' => ∃ lb, e = .returned (.tuple #[.slice (some ⟨lb, 0, none⟩) (n + 1) (n + 1), .int .i64 0]) ∧
      FrE w' w.heap.size (fun b => b ≤ lb) lb (n + 1) (fun j => flq n (mtx n E) (n - j)) ∧ Below w.heap.size w w' := by
  have hK4 : n * n ≤ 4096 := Nat.mul_le_mul hn hn
  have hA := mtx_zb hE
  have hfl := fun k (hk : k ≤ n) => flC_zb hn hA k
  obtain ⟨a, cap, rfl, hcap⟩ := hr.slice
  obtain ⟨N, hN⟩ : ∃ N, N = n * n := ⟨_, rfl⟩
  have hsq := fun (u : World) => square_any n n a N cap (by omega) u
  rw [sqE_ok hn hN] at hsq
  have hb0 := bl_alloc w (.cells #[.int .i64 n, .int .i64 n, .slice a N cap] 24)
  have hbx := MBox.new w n n (.slice a N cap)
  have hs0 : (w.alloc (.cells #[.int .i64 n, .int .i64 n, .slice a N cap] 24)).heap.size = w.heap.size + 1 := by simp
  have HSQ := Lib.hid hsq
  have HB := Lib.hid hb0
  have HBX := Lib.hid hbx
  have HS0 := Lib.hid hs0
  have HR := Lib.hid hr
  have HE := Lib.hid hE
  have HFL := Lib.hid hfl
  have HN := Lib.hid hN
  have x0 := hbx.m0
  have x1 := hbx.m1
  have x2 := hbx.m2
  rw [← hN]
  clear hsq hb0 hbx hr hE hA hfl hN hs0
  go_enter Try.func17, Try.ntmps17
  go_upto_region 1 with fail
  generalize w.alloc (.cells #[.int .i64 n, .int .i64 n, .slice a N cap] 24) = W at *
  go_wp2_with fail
  (refine (HSQ.out W).mono ?_)
  rintro e w3 ⟨rfl, hb3⟩
  have HB3 := Lib.hid (below_via HB.out hb3)
  have HX3 := Lib.hid (HBX.out.below hb3)
  have HS3 := Lib.hid (show w.heap.size + 1 ≤ w3.heap.size by have := HS0.out; have := hb3.size; omega)
  replace x0 := HX3.out.m0
  replace x1 := HX3.out.m1
  replace x2 := HX3.out.m2
  clear hb3 HB HBX HSQ HS0
  have mk : ∀ u : World, (Instr.makeSlice 22 (.int .i64 ((n : Int) + 1)) (.int .i64 ((n : Int) + 1))).run Try.prog u = .ok (.slice (some ⟨u.heap.size, 0, none⟩) (n + 1) (n + 1)) (u.alloc (.cells (madeCells #[.bool false, .slice none 0 0] ((n + 1) * 2)) 49)) := mk_intsN (n + 1) (n + 1) (Nat.le_refl _) (by omega)
  have wn : IntKind.i64.wrap ((n : Int) + 1) = (n : Int) + 1 := IntWalk.i64_in _ (by omega)
  go_upto_region 6 with fail
  have pz := PaE.zeros w3 w.heap.size (n + 1) (fun b => b ≤ w3.heap.size) HB3.out.size
  have hbz := bl_alloc w3 (.cells (madeCells #[.bool false, .slice none 0 0] ((n + 1) * 2)) 49)
  obtain ⟨pb, hpb⟩ : ∃ pb, pb = w3.heap.size := ⟨_, rfl⟩
  rw [← hpb] at pz ⊢
  have HP := Lib.hid (show w.heap.size < pb by have := HS3.out; omega)
  have HB4 := Lib.hid (below_via HB3.out hbz)
  have HX4 := Lib.hid (HX3.out.below hbz)
  generalize w3.alloc (.cells (madeCells #[.bool false, .slice none 0 0] ((n + 1) * 2)) 49) = w4 at *
  have HPZ := Lib.hid pz
  clear hbz mk wn hpb HB3 HX3 HS3 pz x0 x1 x2
  go_wp2_with fail
  (refine (zOf_fr 1 (by omega) (by omega) w4).mono ?_)
  rintro e w5 ⟨v, rfl, hf5, hb5⟩
  have hp5 := HPZ.out.below hb5
  obtain ⟨q1, q2, k1, k2, k3, k4⟩ := hp5.ready (show n < n + 1 by omega)
  obtain ⟨s5, a5, c5, d5, rfl, hp6⟩ := hp5.putz (show n < n + 1 by omega) (Nat.le_refl _) hf5 (zb_ones) (by omega) (fun k h1 h2 h3 => by have := HPZ.out.lt; omega)
  have hg6 := gb_two w5 pb (n * 2) (n * 2 + 1) (.bool s5) (.slice a5 c5 d5)
  have hb6 := below_via HB4.out hb5
  have HB6 := Lib.hid (hb6.grown hg6 hb6.size (fun k hk => by injection hk with hk; have := HP.out; omega))
  have HX6 := Lib.hid ((HX4.out.below hb5).grown hg6 (by have := HP.out; omega))
  have HP6 := Lib.hid hp6
  clear hf5 hb5 hp5 hp6 hg6 hb6 HB4 HX4 HPZ
  have hn1 : (n : Int) < (n : Int) + 1 := by omega
  go_upto_region 7 with fail
  generalize (w5.setCell ⟨pb, n * 2, none⟩ (.bool s5)).setCell ⟨pb, n * 2 + 1, none⟩ (.slice a5 c5 d5) = w6 at *
  clear k1 k2 k3 k4
  go_wp2_with fail
  (refine (Unit_good n w6 hn).mono ?_)
  rintro e w7 ⟨lb, rfl, hf7, hb7⟩
  have hst := ChR.start HB6.out HX6.out HP.out HP6.out hb7 hf7
  have HST := Lib.hid (hst.congr (P' := chP n (mtx n E) 0) (G' := flat n (flC n (mtx n E) 0)) (fun i hi => by
    unfold chP
    by_cases e : i = n
    · rw [if_pos e, if_pos (by omega), e, Nat.sub_self]; rfl
    · rw [if_neg e, if_neg (by omega)]) (fun q hq => by
    show unitE (q / n) (q % n) = laZ.idm (q / n) (q % n)
    unfold unitE laZ.idm
    by_cases e : q / n = q % n
    · rw [if_pos e, if_pos e.symm]
    · rw [if_neg e, if_neg (fun e' => e e'.symm)]))
  clear hst hf7 hb7 HB6 HX6 HP6
  go_upto_region 9 with fail
  obtain ⟨mb, hmb⟩ : ∃ mb, mb = w7.heap.size := ⟨_, rfl⟩
  rw [← hmb] at HST ⊢
  clear hmb
  have hT64 : 64 * (S + 1) + 1 ≤ 128000000065 := by omega
  have hZ := fun (t : Nat) (ht : t ≤ n) => show (∀ i j, i < n → j < n → ZB (64 * (S + 1) + 1) (flC n (mtx n E) t i j)) ∧ ZB (64 * (S + 1) + 1) (flq n (mtx n E) t) from by
    obtain ⟨z1, z2, -⟩ := HFL.out t ht
    have hm : t * (S + 1) + 1 ≤ 64 * (S + 1) + 1 := Nat.succ_le_succ (Nat.mul_le_mul_right _ (by omega))
    exact ⟨fun i j hi hj => (z1 i j hi hj).mono hm, z2.mono hm⟩
  obtain ⟨T, hT⟩ : ∃ T, T = 64 * (S + 1) + 1 := ⟨_, rfl⟩
  rw [← hT] at hZ hT64
  have HZ := Lib.hid hZ
  have HT := Lib.hid hT64
  clear hT hZ hT64 HFL
  go_loopw [9] (fun kv wr => ∃ t lb : Nat, t ≤ n ∧ kv = .int .i64 ((t : Int) + 1) ∧ ChR w wr n pb mb lb (.slice a N cap) (chP n (mtx n E) t) (flat n (flC n (mtx n E) t))) (fun kv _ => n + 1 - (intOf kv).toNat)
  case atStart => exact ⟨0, lb, Nat.zero_le _, rfl, HST.out⟩
  case round =>
    obtain ⟨t, lb, ht, rfl, hrel⟩ := hrel
    have x0 := hrel.a.m0
    have x1 := hrel.a.m1
    have x2 := hrel.a.m2
    have m0 := hrel.m.m0
    have m1 := hrel.m.m1
    have m2 := hrel.m.m2
    rw [← HN.out] at m2
    by_cases htn : t < n
    · have hle : (t : Int) + 1 ≤ (n : Int) := by omega
      have hmul := Mul_good n n n S T _ _ E (flat n (flC n (mtx n E) t)) wr hn hn hn (by have := HT.out; omega) ((HR.out.below hrel.below)) (hrel.g.rd (Nat.le_refl _) (by omega)) HE.out (flat_zb (HZ.out t ht).1)
      rw [← HN.out] at hmul
      have HMUL := Lib.hid hmul
      have HREL := Lib.hid hrel
      have f0 := hrel.m.f0
      have f1 := hrel.m.f1
      have f2 := hrel.m.f2
      clear hmul hrel HST
      go_wp2_with fail
      (refine HMUL.out.mono ?_)
      rintro e w9 ⟨l2, rfl, hf9, hb9⟩
      rw [HN.out] at hf9
      have hr2 := HREL.out.mul hb9 hf9
      have hr3 := hr2.congr (fun _ _ => rfl) (fun q hq => mul_flat hq E (flC n (mtx n E) t))
      have hm9 := HREL.out.m.below hb9
      have m0 := hm9.m0
      have m1 := hm9.m1
      have m2 := hm9.m2
      have f0 := hm9.f0
      have f1 := hm9.f1
      have f2 := hm9.f2
      rw [← HN.out] at m2
      rw [← HN.out] at hr3
      obtain ⟨wa, hwa⟩ : ∃ wa, wa = ((w9.setCell ⟨mb, 0, none⟩ (.int .i64 n)).setCell ⟨mb, 1, none⟩ (.int .i64 n)).setCell ⟨mb, 2, none⟩ (.slice (some ⟨l2, 0, none⟩) N N) := ⟨_, rfl⟩
      have HR3 := Lib.hid (show ChR w wa n pb mb l2 (.slice a N cap) (chP n (mtx n E) t) (flat n (laZ.mm n (mtx n E) (flC n (mtx n E) t))) by rw [hwa]; exact hr3)
      clear hr2 hr3 hm9 hf9 hb9 HREL HMUL x0 x1 x2
      go_upto_region 12 with fail
      rw [← hwa]
      clear hwa m0 m1 m2 f0 f1 f2
      have m0 := HR3.out.m.m0
      have m1 := HR3.out.m.m1
      have m2 := HR3.out.m.m2
      rw [← HN.out] at m2
      have hmz := mm_zb hn (mtx_zb HE.out) (HZ.out t ht).1
      have HTR := Lib.hid (Trace_good n (S + T + 1) _ _ wa hn (by have := HT.out; omega) (HR3.out.g.rd (Nat.le_refl _) (by omega)) (flat_zb hmz))
      rw [← HN.out] at HTR
      have htz := trS_zb hn (flat_zb hmz) (Nat.le_refl n)
      rw [tr_flat] at HTR htz
      obtain ⟨τ, hτ⟩ : ∃ τ, τ = laZ.sm n (fun l => laZ.mm n (mtx n E) (flC n (mtx n E) t) l l) := ⟨_, rfl⟩
      have hdv := (flq_dvd n (mtx n E) t).1
      rw [← hτ] at HTR htz hdv
      have HTZ := Lib.hid htz
      have HDV := Lib.hid hdv
      have HTA := Lib.hid hτ
      clear hτ htz hdv hmz
      go_wp2_with fail
      (refine HTR.out.mono ?_)
      rintro e wb ⟨v, rfl, hfb, hbb⟩
      have hzb := hfb.rd HTZ.out (by have := HT.out; omega)
      obtain ⟨ab, nb, cb, rfl, -⟩ := hfb.agg
      have hbc := bl_alloc wb (.cells #[.bool (decide (τ < 0)), .slice ab nb cb] 49)
      obtain ⟨y0, y1, -, -⟩ := two_cells wb (.bool (decide (τ < 0))) (.slice ab nb cb) 49
      have HZB := Lib.hid (hzb.below hbc)
      have HBC := Lib.hid (below_via hbb hbc)
      clear hfb hbb hzb hbc HTR m0 m1 m2
      go_upto_region 13 with fail
      generalize wb.alloc (.cells #[.bool (decide (τ < 0)), .slice ab nb cb] 49) = wc at *
      go_wp2_with fail
      (refine (zNeg_any _ τ wc HZB.out).mono ?_)
      rintro e wd ⟨v, rfl, hfd, hbd⟩
      have hzd := hfd.rd (HTZ.out.neg) (by have := HT.out; omega)
      have HZD := Lib.hid hzd
      have HBD := Lib.hid (below_via HBC.out hbd)
      clear hfd hbd hzd HBC HZB y0 y1
      go_wp2_with fail
      (refine (zOf_fr ((t : Int) + 1) (by omega) (by omega) wd).mono ?_)
      rintro e we ⟨u, rfl, hfe, hbe⟩
      have hze := hfe.rd (show ZB 1 ((t : Int) + 1) by unfold ZB; omega) (by omega)
      have hzf := HZD.out.below hbe
      have HBE := Lib.hid (below_via HBD.out hbe)
      have HZE := Lib.hid hze
      have HZF := Lib.hid hzf
      clear hfe hbe hze hzf HZD HBD
      go_wp2_with fail
      (refine (zExact_any _ _ (-τ) ((t : Int) + 1) we (by omega) (Int.dvd_neg.2 (show ((t : Int) + 1) ∣ τ from HDV.out)) HZF.out HZE.out).mono ?_)
      rintro e wf ⟨c, rfl, hff, hbf⟩
      have hqe : -τ / ((t : Int) + 1) = flq n (mtx n E) (t + 1) := by rw [HTA.out]; rfl
      rw [hqe] at hff
      have hqz := (HZ.out (t + 1) (by omega)).2
      obtain ⟨z, hz⟩ : ∃ z, z = flq n (mtx n E) (t + 1) := ⟨_, rfl⟩
      rw [← hz] at hff hqz
      have HZZ := Lib.hid hz
      have HQZ := Lib.hid hqz
      obtain ⟨af, nf, cf, rfl, -⟩ := hff.agg
      have hbg := bl_alloc wf (.cells #[.bool (decide (z < 0)), .slice af nf cf] 49)
      obtain ⟨y0, y1, -, -⟩ := two_cells wf (.bool (decide (z < 0))) (.slice af nf cf) 49
      have HFG := Lib.hid (hff.below hbg)
      have HBF := Lib.hid (show wa.heap.size ≤ wf.heap.size from Nat.le_trans HBE.out.size hbf.size)
      have HBG := Lib.hid (below_via HBE.out (below_via hbf hbg))
      have HOW := Lib.hid (show wa.heap.size ≤ we.heap.size from HBE.out.size)
      clear hff hbf hbg hqe hqz hz HZE HZF HBE HDV HTA
      go_upto_region 14 with fail
      obtain ⟨cb2, hcb2⟩ : ∃ cb2, cb2 = wf.heap.size := ⟨_, rfl⟩
      rw [← hcb2] at y0 y1 ⊢
      have HCB := Lib.hid (show wa.heap.size ≤ cb2 by rw [hcb2]; exact HBF.out)
      clear hcb2 HBF
      generalize wf.alloc (.cells #[.bool (decide (z < 0)), .slice af nf cf] 49) = wg at *
      obtain ⟨j, hj⟩ : ∃ j, j = n - (t + 1) := ⟨_, rfl⟩
      have wj : IntKind.i64.wrap ((n : Int) - ((t : Int) + 1)) = (j : Int) := by rw [show (n : Int) - ((t : Int) + 1) = (j : Int) by omega]; exact IntWalk.i64_in _ (by omega)
      have hj1 : (j : Int) < (n : Int) + 1 := by omega
      obtain ⟨u1, u2, k1, k2, k3, k4⟩ := (HR3.out.on HBG.out).p.ready (show j < n + 1 by omega)
      obtain ⟨hr5, hrz, how, hg5⟩ := HR3.out.put HBG.out HOW.out HFG.out HQZ.out (by have := HT.out; omega) (show j < n + 1 by omega)
      have hne : cb2 ≠ pb := fun e => by
        have h1 := HR3.out.pm
        have h2 := HBG.out.size
        have h3 := HCB.out
        omega
      have y2 := hg5.cell y0 (fun e => hne (Option.some.inj e))
      have y3 := hg5.cell y1 (fun e => hne (Option.some.inj e))
      have HR5 := Lib.hid hr5
      have HRZ := Lib.hid hrz
      have HOW2 := Lib.hid how
      have HJ := Lib.hid hj
      clear hr5 hrz how hg5 hne hj HR3 HBG HOW HFG HCB
      go_upto_region 15 with fail
      generalize (wg.setCell ⟨pb, j * 2, none⟩ (.bool (decide (z < 0)))).setCell ⟨pb, j * 2 + 1, none⟩ (.slice af nf cf) = wh at *
      have m0 := HR5.out.m.m0
      have m1 := HR5.out.m.m1
      have m2 := HR5.out.m.m2
      rw [← HN.out] at m2
      have hmz := mm_zb hn (mtx_zb HE.out) (HZ.out t ht).1
      have hlf := lift_any n l2 w.heap.size (S + T + 1 + T + 1) (fun b => b ≤ l2 ∨ b = mb) _ (decide (z < 0)) (.slice af nf cf) z wh hn HR5.out.g (Or.inl (Nat.le_refl _)) (fun b hb => by
        rcases hb with hb | hb
        · exact Nat.lt_of_le_of_lt hb HR5.out.g.lt
        · rw [hb]; exact HR5.out.pm.2.2) HRZ.out HOW2.out (by have := HT.out; omega) (fun q hq => (flat_zb hmz q hq).add HQZ.out)
      rw [← HN.out] at hlf
      have HLF := Lib.hid hlf
      clear hlf hmz k1 k2 k3 k4 y0 y1
      go_wp2_with fail
      (refine HLF.out.mono ?_)
      rintro e wi ⟨rfl, hp, hg⟩
      rw [HN.out] at hp
      have hr6 := (HR5.out.lift hg hp).congr (P' := chP n (mtx n E) (t + 1)) (G' := flat n (flC n (mtx n E) (t + 1))) (fun i hi => by
        have hj := HJ.out
        unfold chP
        by_cases e : i = j
        · rw [if_pos e, if_pos (by omega), HZZ.out, show n - i = t + 1 by omega]
        · rw [if_neg e]
          by_cases e2 : n ≤ i + t
          · rw [if_pos e2, if_pos (by omega)]
          · rw [if_neg e2, if_neg (by omega)]) (fun q hq => by
        rw [lift_flat hq, HZZ.out]; rfl)
      have HR6 := Lib.hid hr6
      clear hr6 hp hg HLF HR5 HRZ m0 m1 m2 y2 y3
      have wk : IntKind.i64.wrap ((t : Int) + 1 + 1) = (t : Int) + 1 + 1 := IntWalk.i64_in _ (by omega)
      go_wp2_with fail
      go_roundw
      case rel => exact ⟨t + 1, l2, by omega, by go_num, HR6.out⟩
      case measure => simp [intOf]; omega
    · obtain rfl : t = n := by omega
      have hle : ¬ (t : Int) + 1 ≤ (t : Int) := by omega
      have HREL := Lib.hid hrel
      clear hrel
      go_wp2_with fail
      refine bodyPost_ret (v := .tuple #[.slice (some ⟨pb, 0, none⟩) (t + 1) (t + 1), .int .i64 0]) ?_ rfl ⟨pb, rfl, (HREL.out.p.turnD (fun b _ hb hd => hb (Or.inl hd))).congr (fun i hi => by unfold chP; rw [if_pos (by omega)]), HREL.out.below⟩
      simp [results, Try.results17, go_sem]
end Go.Proofs.Ytejliecmdkmgiaa
