/- The walk of modp's elimination: reduce. Plain facts on primes by trial division (no program in sight). The walks of modp.Prime, modp.Below and the law's own trial division: each answers by 'isPB', 'belowP'. The walks of mat.side, mat.Check, modp.open. The walk of modp.Det. Lists of integers of the call's own: a block of pairs (sign, words), each integer's words in a block of their own. The walk of modp.whole: a grid of residues as a matrix of integers. The walks of modp.Rank, modp.Reduce and modp.Echelon. The walk of modp.Echelon. -/
import Derived.Test.YtdlpemmoobbgnaaGA
import Derived.StillTailTactics
import Derived.Deep.LoopGhost
import Derived.Deep.DeepCutAuto
import Derived.Test.YtdlpemmoobbgnaaProg
import Derived.WalkKit
import Derived.WalkSpells
import Derived.WalkLawsBesides
import Derived.Lib.Hide
import Derived.Deep.RegionWith
import Derived.ArgAppend
import Derived.Deep.RegionLaw
set_option linter.unusedVariables false
set_option linter.unusedSimpArgs false
namespace Go.Proofs.Ytdlpemmoobbgnaa
open Go.RowKit

theorem infoInt : (Try.prog.info? 3).map (fun i => (i.zero, i.size, i.bytes)) = some (some (.int .i64 0), 1, 8) := by kernel_rfl

def ints (l : List Nat) : List Value := l.map fun c : Nat => Value.int .i64 (c : Int)

theorem swap_rel {m n gb go base B0 e size r l : Nat} {w wr : World} {B O C : Nat → Nat} {G G1 : Nat → Nat → Int} {v : Value} {nn : Nat} {xs : List Value} {d d' : Int} (hB0 : B0 = w.heap.size)
    (hl : l < m) (hr : r < m) (hgr : GridAt .u64 wr base gb go m n B O C G) (HB : Hid (∀ i, i < m → B i < B0)) (hG1 : G1 = swF l r G) (hd : d = d') (hgb : gb < B0)
    (hown : wr.ownsRow B0 e size v nn xs) (hbel : Below base w wr) (hsz : B0 ≤ wr.heap.size) :
    ∃ B' O' C', Hid (∀ i, i < m → B' i < B0) ∧ GridAt .u64 ((wr.setCell ⟨gb, go + l, none⟩ (.slice (some ⟨B r, O r, none⟩) n (C r))).setCell ⟨gb, go + r, none⟩ (.slice (some ⟨B l, O l, none⟩) n (C l))).drew base gb go m n B' O' C' G1 ∧
      Value.int .u64 d = Value.int .u64 d' ∧
      ((wr.setCell ⟨gb, go + l, none⟩ (.slice (some ⟨B r, O r, none⟩) n (C r))).setCell ⟨gb, go + r, none⟩ (.slice (some ⟨B l, O l, none⟩) n (C l))).drew.ownsRow B0 e size v nn xs ∧
      Below base w ((wr.setCell ⟨gb, go + l, none⟩ (.slice (some ⟨B r, O r, none⟩) n (C r))).setCell ⟨gb, go + r, none⟩ (.slice (some ⟨B l, O l, none⟩) n (C l))).drew ∧
      B0 ≤ ((wr.setCell ⟨gb, go + l, none⟩ (.slice (some ⟨B r, O r, none⟩) n (C r))).setCell ⟨gb, go + r, none⟩ (.slice (some ⟨B l, O l, none⟩) n (C l))).drew.heap.size := by
  have hs := hgr.swap hl hr rfl
  have hg : wr.grownBy ((wr.setCell ⟨gb, go + l, none⟩ (.slice (some ⟨B r, O r, none⟩) n (C r))).setCell ⟨gb, go + r, none⟩ (.slice (some ⟨B l, O l, none⟩) n (C l))) (some gb) := gb_trans (gb_set _ _ _) (gb_set _ _ _)
  have ho := hown.kept hg (own_block hown hgb)
  have hb := (hbel.setCell (p := ⟨gb, go + l, none⟩) hgr.ownG (.slice (some ⟨B r, O r, none⟩) n (C r))).setCell (p := ⟨gb, go + r, none⟩) hgr.ownG (.slice (some ⟨B l, O l, none⟩) n (C l))
  have hz := hg.size
  generalize ((wr.setCell ⟨gb, go + l, none⟩ (.slice (some ⟨B r, O r, none⟩) n (C r))).setCell ⟨gb, go + r, none⟩ (.slice (some ⟨B l, O l, none⟩) n (C l))) = W at *
  subst hG1
  exact ⟨_, _, _, fun i hi => HB.out _ (sw_lt hl hr hi), hs.drew, by rw [hd], ho.drew, hb.drew, Nat.le_trans hsz hz⟩

theorem row_rel {m n gb go base B0 e size i : Nat} {w w2 w3 : World} {B O C : Nat → Nat} {G : Nat → Nat → Int} {v : Value} {nn : Nat} {xs : List Value} {f : Nat → Int}
    (hi : i < m) (hgr : GridAt .u64 w2 base gb go m n B O C G) (HB : Hid (∀ i, i < m → B i < B0)) (hown : w2.ownsRow B0 e size v nn xs) (hbel : Below base w w2) (hsz : B0 ≤ w2.heap.size)
    (hf : RowAt .u64 w3 (B i) (O i) n f) (hg : w2.grownBy w3 (some (B i))) :
    GridAt .u64 w3 base gb go m n B O C (fun l c => if l = i then f c else G l c) ∧ w3.ownsRow B0 e size v nn xs ∧ Below base w w3 ∧ B0 ≤ w3.heap.size := by
  have hlt := hgr.lt i hi
  have ho := hgr.own i hi
  exact ⟨hgr.upd hi hf hg, hown.kept hg (own_block hown (HB.out i hi)), hbel.grown hg (by omega) (fun k hk => by injection hk with hk; omega), Nat.le_trans hsz hg.size⟩

theorem elim_zero (p : Int) (j n r : Nat) (G : Nat → Nat → Int) : elimF p j n r G 0 = G := by
  funext i; unfold elimF; rw [if_neg (by omega)]
theorem elim_at (p : Int) (j n r : Nat) (G : Nat → Nat → Int) (k : Nat) : elimF p j n r G k k = G k := by unfold elimF; rw [if_neg (by omega)]
theorem elim_r (p : Int) (j n r : Nat) (G : Nat → Nat → Int) (k : Nat) : elimF p j n r G k r = G r := by unfold elimF; rw [if_neg (by omega)]
theorem elim_skip (p : Int) (j n r : Nat) (G : Nat → Nat → Int) : elimF p j n r G (r + 1) = elimF p j n r G r := by
  funext i; unfold elimF
  by_cases h : i < r ∧ i ≠ r
  · rw [if_pos h, if_pos (by omega)]
  · rw [if_neg h, if_neg (by omega)]
theorem elim_next (p : Int) (j n r : Nat) (G : Nat → Nat → Int) (k : Nat) (hk : k ≠ r) (l c : Nat) :
    (if l = k then takeF p (G k j) j n (G k) (G r) c else elimF p j n r G k l c) = elimF p j n r G (k + 1) l c := by
  unfold elimF
  by_cases h : l = k
  · subst h; rw [if_pos rfl, if_pos (by omega)]
  · rw [if_neg h]
    by_cases h2 : l < k ∧ l ≠ r
    · rw [if_pos h2, if_pos (by omega)]
    · rw [if_neg h2, if_neg (by omega)]

theorem app_rel {m n gb go base B0 e size : Nat} {w wr w1 : World} {B O C : Nat → Nat} {G : Nat → Nat → Int} {v : Value} {nn : Nat} {xs : List Value} {X : Obj} (hB0 : base ≤ B0) (hgb : gb < B0)
    (hgr : GridAt .u64 wr base gb go m n B O C G) (HB : Hid (∀ i, i < m → B i < B0)) (hown : wr.ownsRow B0 e size v nn xs) (hbel : Below base w wr) (hsz : B0 ≤ wr.heap.size)
    (hg : (wr.alloc X).grownBy w1 v.ownBlock) : GridAt .u64 w1 base gb go m n B O C G ∧ Below base w w1 ∧ B0 ≤ w1.heap.size := by
  have hb2 := hbel.alloc (by omega) X
  have hgr2 := hgr.grown (World.grownBy_alloc wr X none) (by simp) (fun _ _ => by simp)
  have hlt := fun k hk => (hown.lt k hk).1
  have hz := hg.size
  have hz2 : (wr.alloc X).heap.size = wr.heap.size + 1 := by simp
  refine ⟨hgr2.grown hg ?_ (fun i hi => ?_), hb2.grown hg (by omega) (fun k hk => Nat.le_trans hB0 (hlt k hk)), by omega⟩
  · intro e; have := hlt gb e.symm; omega
  · intro e; have := hlt (B i) e.symm; have := HB.out i hi; omega

theorem ints_snoc (l : List Nat) (j : Nat) : ints (l ++ [j]) = ints l ++ [.int .i64 (j : Int)] := by unfold ints; rw [List.map_append]; rfl

set_option maxHeartbeats 4000000 in
set_option maxRecDepth 100000 in
theorem reduce_any (p : Int) (h1 : 2 ≤ p) (h2 : p < 2147483648) (m n cols cap base gb go : Nat) (B O C : Nat → Nat) (G : Nat → Nat → Int) (hm : m ≤ 1048576) (hn : n ≤ 1048576) (hc : cols ≤ n)
    (hres : Res p m n G) (w : World) (hg : GridAt .u64 w base gb go m n B O C G) (hbase : base ≤ w.heap.size) :
    Calls Try.prog 44 #[.int .u64 p, .slice (some ⟨gb, go, none⟩) m cap, .int .i64 cols] w fun e w' =>
      ∃ B' O' C' pv, e = .returned (.tuple #[pv, .int .u64 (RS.run p m n ⟨G, [], 1 % p⟩ cols).d]) ∧ GridAt .u64 w' base gb go m n B' O' C' (RS.run p m n ⟨G, [], 1 % p⟩ cols).G ∧
        w'.ownsRow w.heap.size 3 1 pv (RS.run p m n ⟨G, [], 1 % p⟩ cols).P.length (ints (RS.run p m n ⟨G, [], 1 % p⟩ cols).P) ∧ Below base w w' := by
  obtain ⟨i0, hi, hz0, hz1, hz2⟩ := info_parts infoInt
  have HI := Lib.hid hi
  have HZ0 := Lib.hid hz0
  have HZ1 := Lib.hid hz1
  have HZ2 := Lib.hid hz2
  have HR := Lib.hid hres
  have hgb : 0 < m → gb < w.heap.size := fun h0 => hg.ltG h0
  have HG := Lib.hid hg
  obtain ⟨S, hS⟩ : ∃ S : Nat → RS, S = RS.run p m n ⟨G, [], 1 % p⟩ := ⟨_, rfl⟩
  rw [← hS]
  have HS := Lib.hid hS
  clear hi hz0 hz1 hz2 hres hg hS
  go_enter Try.func44, Try.ntmps44
  go_wp2_with fail
  go_loopg [6, 7, 8] (cols + 1) (fun gk pv dv jv wr => ∃ (j : Nat) (B O C : Nat → Nat), Hid (∀ i, i < m → B i < w.heap.size) ∧ j ≤ cols ∧ cols + 1 ≤ j + gk ∧ jv = .int .i64 j ∧ dv = .int .u64 (S j).d ∧ GridAt .u64 wr base gb go m n B O C (S j).G ∧
      wr.ownsRow w.heap.size 3 1 pv (S j).P.length (ints (S j).P) ∧ Below base w wr ∧ w.heap.size ≤ wr.heap.size)
  case atStart => 
    refine ⟨0, B, O, C, HG.out.lt, by omega, by omega, rfl, ?_, ?_, ?_, Below.refl _ _, Nat.le_refl _⟩
    · rw [HS.out]; rfl
    · rw [HS.out]; exact HG.out
    · rw [HS.out]; exact World.ownsRow_nil w w.heap.size 3 1
  case round =>
    obtain ⟨j, B, O, C, HB, j1, jg, rfl, rfl, hgr, hown, hbel, hsz⟩ := hrel
    have hl : (S j).P.length ≤ m := by rw [HS.out]; exact RS.run_len (Nat.zero_le _) j
    have hdd : 0 ≤ (S j).d ∧ (S j).d < p := by rw [HS.out]; exact RS.run_d (by omega) (md.mod_bd 1 p (by omega)) j
    have hrs : Res p m n (S j).G := by rw [HS.out]; exact RS.run_res (by omega) (Nat.zero_le _) HR.out j
    have hnext : S (j + 1) = (S j).step p m n j := by rw [HS.out]; rfl
    have hlast : (S j).P.length = m → S cols = S j := by
      intro e
      rw [HS.out] at e ⊢
      have := RS.run_full e (cols - j)
      rwa [show j + (cols - j) = cols by omega] at this
    obtain ⟨a, pc, rfl⟩ := own_slice hown
    obtain ⟨s, hs⟩ : ∃ s, s = S j := ⟨_, rfl⟩
    rw [← hs] at hl hdd hrs hnext hlast hgr hown ⊢
    obtain ⟨r, hr⟩ : ∃ r, r = s.P.length := ⟨_, rfl⟩
    rw [← hr] at hl hlast hown ⊢
    obtain ⟨d, hd⟩ : ∃ d, d = s.d := ⟨_, rfl⟩
    rw [← hd] at hdd ⊢
    obtain ⟨hd0, hd1⟩ := hdd
    have HD := Lib.hid hd
    have Hr := Lib.hid hr
    have Hs := Lib.hid hs
    have HN := Lib.hid hnext
    have HL := Lib.hid hlast
    have HRS := Lib.hid hrs
    clear hd hr hs hnext hlast hrs
    by_cases hjc : j < cols
    · by_cases hrm : r < m
      · have hjn : j < n := by omega
        have hgb := hgb (by omega)
        obtain ⟨i, hi⟩ : ∃ i, i = fnd s.G j (m - r) r := ⟨_, rfl⟩
        have hi0 := fnd_bd s.G j (m - r) r
        have hi1 := fnd_ne s.G j (m - r) r
        rw [← hi] at hi0 hi1
        obtain ⟨i1, i2⟩ := hi0
        have H1 := Lib.hid hi1
        have H0 := Lib.hid hi
        clear hi hi1
        go_wp2_with fail
        go_loop [10] (fun v => ∃ l : Nat, r ≤ l ∧ l ≤ m ∧ Hid (fnd s.G j (m - l) l = i) ∧ v = .int .i64 l) (fun v => m - (intOf v).toNat)
        case atStart => exact ⟨r, Nat.le_refl _, by omega, H0.out.symm, rfl⟩
        case round =>
          obtain ⟨l, l1, l2, hl, rfl⟩ := hrel
          by_cases hlm : l < m
          · obtain ⟨c1, _⟩ := hgr.cells l hlm
            obtain ⟨x, hx⟩ : ∃ x, x = s.G l j := ⟨_, rfl⟩
            obtain ⟨c2, _⟩ := (hgr.rows l hlm).get hjn hx.symm
            have hcap := hgr.caps l hlm
            have HX := Lib.hid hx
            clear hx
            by_cases hz : x = 0
            · have hzb : (x == 0) = true := beq_iff_eq.2 hz
              have HZ := Lib.hid hz
              clear hz
              go_wp2_with fail
              go_round
              case rel =>
                refine ⟨l + 1, by omega, by omega, ?_, by go_num⟩
                show _ = _
                rw [← hl.out, show m - l = (m - (l + 1)) + 1 by omega]
                show _ = if s.G l j = 0 then _ else _
                rw [if_pos (by rw [← HX.out]; exact HZ.out)]
              case measure => simp [intOf]; omega
            · have hzb : (x == 0) = false := beq_eq_false_iff_ne.2 hz
              have e : l = i := by
                rw [← hl.out, show m - l = (m - (l + 1)) + 1 by omega]
                show _ = if s.G l j = 0 then _ else _
                rw [if_neg (by rw [← HX.out]; exact hz)]
              subst e
              have HZ := Lib.hid hz
              clear hz
              obtain ⟨d', hd'⟩ : ∃ d', d' = if l = r then d else (p - d) % p := ⟨_, rfl⟩
              obtain ⟨G1, hG1⟩ : ∃ G1, G1 = swF l r s.G := ⟨_, rfl⟩
              have HD' := Lib.hid hd'
              have HG1 := Lib.hid hG1
              clear hd' hG1
              go_upto_if 51 with fail
              go_cut [7] (fun dv wx => ∃ B' O' C', Hid (∀ i, i < m → B' i < w.heap.size) ∧ GridAt .u64 wx base gb go m n B' O' C' G1 ∧ dv = .int .u64 d' ∧
                wx.ownsRow w.heap.size 3 1 (.slice a r pc) r (ints s.P) ∧ Below base w wx ∧ w.heap.size ≤ wx.heap.size)
              case first =>
                by_cases hlr : l = r
                · have e1 : Hid (d' = d) := HD'.out.trans (if_pos hlr)
                  have e2 : Hid (G1 = s.G) := by rw [HG1.out, hlr]; exact swF_self r s.G
                  have hlr' : ((l : Int) != r) = false := by rw [bne_eq_false_iff_eq]; omega
                  clear hlr
                  go_wp2_with fail
                  go_meet
                  exact ⟨B, O, C, HB, by rw [e2.out]; exact hgr, by rw [e1.out], hown, hbel, hsz⟩
                · have hlr' : ((l : Int) != r) = true := by rw [bne_iff_ne]; omega
                  have e1 : Hid (d' = (p - d) % p) := HD'.out.trans (if_neg hlr)
                  obtain ⟨c3, c4⟩ := hgr.cells r hrm
                  obtain ⟨c5, c6⟩ := hgr.cells l hlm
                  have c7 : (wr.setCell ⟨gb, go + l, none⟩ (.slice (some ⟨B r, O r, none⟩) n (C r))).cell? ⟨gb, go + r, none⟩ = some (.slice (some ⟨B r, O r, none⟩) n (C r)) := by
                    rw [World.cell?_setCell_other _ _ _ _ (by intro e'; injection e' with _ e3 _; omega)]; exact c3
                  have c8 : (wr.setCell ⟨gb, go + r, none⟩ (.slice (some ⟨B l, O l, none⟩) n (C l))).cell? ⟨gb, go + l, none⟩ = some (.slice (some ⟨B l, O l, none⟩) n (C l)) := by
                    rw [World.cell?_setCell_other _ _ _ _ (by intro e'; injection e' with _ e3 _; omega)]; exact c5
                  clear hlr
                  go_wp2_with fail
                  go_region
                  go_wp2_with fail
                  go_meet
                  exact swap_rel rfl hlm hrm hgr HB HG1.out e1.out.symm hgb hown hbel hsz
              case rest => 
                clear c1 c2 hcap HX hzb H1 hl HZ hgr hown hbel hsz
                obtain ⟨B, O, C, HB, hgr, rfl, hown, hbel, hsz⟩ := hcut
                have hd2 : 0 ≤ d' ∧ d' < p := by
                  rw [HD'.out]; split
                  · exact ⟨hd0, hd1⟩
                  · exact md.mod_bd _ p (by omega)
                have hres1 : Res p m n G1 := by rw [HG1.out]; exact HRS.out.sw hlm hrm
                obtain ⟨y, hy⟩ : ∃ y, y = G1 r j := ⟨_, rfl⟩
                obtain ⟨y0, y1⟩ := hres1 r j hrm hjn
                obtain ⟨c1, _⟩ := hgr.cells r hrm
                obtain ⟨c2, _⟩ := (hgr.rows r hrm).get hjn hy.symm
                have hcap := hgr.caps r hrm
                rw [← hy] at y0 y1
                obtain ⟨q1, q2⟩ := md.prod_bd d' y p hd2.1 hd2.2 y0 y1 h2
                have HY := Lib.hid hy
                have HRS1 := Lib.hid hres1
                have HB' := Lib.hid hgr
                clear hy hres1
                go_wp2_with fail
                refine wp_region_still_tail 15 (by kernel_rfl) (by kernel_rfl) ?_
                simp only [List.take_succ_cons, List.take_zero, List.drop_succ_cons, List.drop_zero]
                repeat still_step
                still_call ((inverse_any p y h1 h2 y0 y1 _).mono fun _ _ h => ⟨h.1, h.2.symm⟩)
                repeat still_step
                refine wpStill_nil ?_
                change wpList _ _ _ _ _ wc.drew
                have hgr := hgr.drew
                have hown := hown.drew
                have hbel := hbel.drew
                have hsz : w.heap.size ≤ wc.drew.heap.size := hsz
                generalize wc.drew = w2 at hgr hown hbel hsz ⊢
                obtain ⟨v0, v1⟩ := md.mod_bd (y ^ (p - 2).toNat) p (by omega)
                go_wp2_with (go_at_call 72; refine (scale_any p (invm p y) (by omega) h2 v0 v1 (B r) (O r) n (C r) j (G1 r) (by omega) (by omega) (fun i hi => HRS1.out r i hrm hi) _ (hgr.rows r hrm)).mono ?_; rintro e w3 ⟨rfl, hf3, hg3⟩)
                obtain ⟨hgr, hown, hbel, hsz⟩ := row_rel hrm hgr HB hown hbel hsz hf3 hg3
                obtain ⟨G2, hG2⟩ : ∃ G2, G2 = scF p j r G1 := ⟨_, rfl⟩
                have hgr : GridAt .u64 w3 base gb go m n B O C G2 := by
                  rw [hG2]; unfold scF; rw [← HY.out]; exact hgr
                have hres2 : Hid (Res p m n G2) := by rw [hG2]; exact HRS1.out.sc (by omega)
                have HG2 := Lib.hid hG2
                clear hG2 hf3 hg3 c1 c2 hcap HB' v0 v1 q1 q2 y0 y1
                go_loopw [100] (fun kv wr => ∃ k : Nat, k ≤ m ∧ kv = .int .i64 k ∧ GridAt .u64 wr base gb go m n B O C (elimF p j n r G2 k) ∧
                    wr.ownsRow w.heap.size 3 1 (.slice a r pc) r (ints s.P) ∧ Below base w wr ∧ w.heap.size ≤ wr.heap.size)
                  (fun kv _ => m - (intOf kv).toNat)
                case atStart => exact ⟨0, by omega, rfl, by rw [elim_zero]; exact hgr, hown, hbel, hsz⟩
                case round =>
                  clear hgr hown hbel hsz
                  obtain ⟨k, k1, rfl, hgr, hown, hbel, hsz⟩ := hrel
                  by_cases hkm : k < m
                  · by_cases hkr : k = r
                    · subst hkr
                      go_wp2_with fail
                      go_roundw
                      case rel => exact ⟨k + 1, by omega, by go_num, by rw [elim_skip]; exact hgr, hown, hbel, hsz⟩
                      case measure => simp [intOf]; omega
                    · have hkb : ((k : Int) != r) = true := by rw [bne_iff_ne]; omega
                      have hap : Hid (B k ≠ B r) := fun e => hkr (hgr.apart k r hkm hrm e)
                      have HKR := Lib.hid hkr
                      clear hkr
                      have hr1 := (hgr.rows k hkm).congr (g := G2 k) fun i _ => by rw [elim_at]
                      have hr2 := (hgr.rows r hrm).congr (g := G2 r) fun i _ => by rw [elim_r]
                      obtain ⟨z, hz⟩ : ∃ z, z = G2 k j := ⟨_, rfl⟩
                      obtain ⟨z0, z1⟩ := hres2.out k j hkm hjn
                      obtain ⟨c1, _⟩ := hgr.cells r hrm
                      obtain ⟨c2, _⟩ := hgr.cells k hkm
                      obtain ⟨c3, _⟩ := hr1.get hjn hz.symm
                      have hcap := hgr.caps r hrm
                      have hcap' := hgr.caps k hkm
                      rw [← hz] at z0 z1
                      have HZ := Lib.hid hz
                      have hr1 := Lib.hid hr1
                      have hr2 := Lib.hid hr2
                      clear hz
                      go_wp2_with fail
                      refine wp_region_still_tail 17 (by kernel_rfl) (by kernel_rfl) ?_
                      simp only [List.take_succ_cons, List.take_zero, List.drop_succ_cons, List.drop_zero]
                      repeat still_step
                      refine wpStill_nil ?_
                      change wpList _ _ _ _ _ wr.drew
                      have hgr := hgr.drew
                      have hr1 : Hid (RowAt .u64 wr.drew (B k) (O k) n (G2 k)) := hr1.out.block rfl
                      have hr2 : Hid (RowAt .u64 wr.drew (B r) (O r) n (G2 r)) := hr2.out.block rfl
                      have hown := hown.drew
                      have hbel := hbel.drew
                      have hsz : w.heap.size ≤ wr.drew.heap.size := hsz
                      generalize wr.drew = w4 at hgr hown hbel hsz hr1 hr2 ⊢
                      go_wp2_with (go_at_call 56; refine (take_any p z (by omega) h2 z0 z1 (B k) (O k) (C k) (B r) (O r) (C r) n n j (G2 k) (G2 r) (by omega) (by omega) (by omega) (by omega) hap.out (fun i hi => hres2.out k i hkm hi) (fun i hi => hres2.out r i hrm hi) _ hr1.out hr2.out).mono ?_; rintro e w5 ⟨rfl, hf5, hg5⟩)
                      obtain ⟨hgr, hown, hbel, hsz⟩ := row_rel hkm hgr HB hown hbel hsz hf5 hg5
                      go_roundw
                      case rel =>
                        refine ⟨k + 1, by omega, by go_num, hgr.congr fun l c _ _ => ?_, hown, hbel, hsz⟩
                        rw [HZ.out]
                        exact elim_next p j n r G2 k HKR.out l c
                      case measure => simp [intOf]; omega
                  · obtain rfl : k = m := by omega
                    go_wp2_with (at_builtin; refine wpList_append_own _ rfl _ _ 45 rfl w.heap.size 3 i0 (.int .i64 0) 1 8 Try.underlying45 HI.out HZ0.out HZ1.out HZ2.out rfl (by decide) _ _ _ rfl (hown.alloc _) ⟨wr.heap.size, 0, none⟩ 1 1 [.int .i64 (j : Int)] rfl rfl ?c1 ?c2 ?c3 ?c4 ?c5 ?_)
                    case c1 =>
                      intro i u hi
                      match i, hi with
                      | 0, hi => simp at hi; subst hi; simp [Addr.add]
                    case c2 => intro u hu; simp at hu; subst hu; rfl
                    case c3 => unfold maxLen; omega
                    case c4 => omega
                    case c5 => simp; omega
                    · intro v' w1 hown' hgrow _
                      obtain ⟨hgr', hbel', hsz'⟩ := app_rel hbase (hgb (by omega)) hgr HB hown hbel hsz hgrow
                      clear hgr hown hbel hsz hgrow
                      go_wp2_with fail
                      go_roundg (cols - j)
                      case measure => omega
                      case rel =>
                        have e : S (j + 1) = { G := elimF p j n r G2 k, P := s.P ++ [j], d := d' * y % p } := by
                          rw [HN.out]; unfold RS.step; simp only; rw [← Hr.out, ← H0.out, if_neg (by omega), HG2.out, HG1.out, HD'.out, HD.out, HY.out, HG1.out]
                        refine ⟨j + 1, B, O, C, HB, by omega, by omega, by go_num, by rw [e], by rw [e]; exact hgr', ?_, hbel', hsz'⟩
                        rw [e, ints_snoc, List.length_append, ← Hr.out]
                        exact hown'
          · obtain rfl : l = m := by omega
            have e : i = l := by
              rw [← hl.out, Nat.sub_self]; rfl
            subst e
            go_wp2_with fail
            go_roundg (cols - j)
            case measure => omega
            case rel =>
              have e : S (j + 1) = s := by
                rw [HN.out]; unfold RS.step; simp only; rw [← Hr.out, ← H0.out, if_pos rfl]
              refine ⟨j + 1, B, O, C, HB, by omega, by omega, by go_num, by rw [e, ← HD.out], by rw [e]; exact hgr, by rw [e, ← Hr.out]; exact hown, hbel, hsz⟩
      · have e : Hid (S cols = s) := HL.out (by omega)
        go_wp2_with fail
        go_ret2
        refine ⟨B, O, C, .slice a r pc, ?_, ?_, ?_, hbel⟩
        · rw [e.out, ← HD.out]; rfl
        · rw [e.out]; exact hgr
        · rw [e.out, ← Hr.out]; exact hown
    · obtain rfl : j = cols := by omega
      go_wp2_with fail
      go_ret2
      refine ⟨B, O, C, .slice a r pc, ?_, ?_, ?_, hbel⟩
      · rw [← Hs.out, ← HD.out]; rfl
      · rw [← Hs.out]; exact hgr
      · rw [← Hs.out, ← Hr.out]; exact hown
end Go.Proofs.Ytdlpemmoobbgnaa

namespace Go.Proofs.Ytdlpemmoobbgnaa

def isPB (n : Nat) : Bool := decide (2 ≤ n) && (List.range n).all fun d => decide (d < 2 ∨ n < d * d ∨ n % d ≠ 0)

theorem isPB_iff (n : Nat) : isPB n = true ↔ 2 ≤ n ∧ ∀ d, 2 ≤ d → d * d ≤ n → n % d ≠ 0 := by
  unfold isPB
  simp only [Bool.and_eq_true, decide_eq_true_eq, List.all_eq_true, List.mem_range]
  constructor
  · rintro ⟨h, g⟩
    refine ⟨h, fun d h2 hd => ?_⟩
    have : d * 2 ≤ d * d := Nat.mul_le_mul_left d h2
    have := g d (by omega)
    omega
  · rintro ⟨h, g⟩
    refine ⟨h, fun d _ => ?_⟩
    by_cases h2 : d < 2
    · exact Or.inl h2
    · by_cases hd : n < d * d
      · exact Or.inr (Or.inl hd)
      · exact Or.inr (Or.inr (g d (by omega) (by omega)))

theorem isPB_small (n : Int) (h : n < 2) : isPB n.toNat = false := by
  rw [Bool.eq_false_iff]; intro e; rw [isPB_iff] at e; omega

theorem isPB_no (n k : Int) (h2 : 2 ≤ k) (hk : k * k ≤ n) (h : n % k = 0) : isPB n.toNat = false := by
  rw [Bool.eq_false_iff]; intro e; rw [isPB_iff] at e
  obtain ⟨a, rfl⟩ := Int.eq_ofNat_of_zero_le (show 0 ≤ k by omega)
  have h0 : (0 : Int) ≤ (a : Int) * a := Int.mul_nonneg (by omega) (by omega)
  obtain ⟨m, rfl⟩ := Int.eq_ofNat_of_zero_le (show 0 ≤ n by omega)
  have hk' : a * a ≤ m := by exact_mod_cast hk
  refine e.2 a (by omega) (by simpa using hk') ?_
  simp only [Int.toNat_natCast]
  exact_mod_cast h

theorem isPB_yes (n k : Int) (h2 : 2 ≤ n) (h : ∀ e : Int, 2 ≤ e → e < k → n % e ≠ 0) (hk : n < k * k) (hk0 : 0 ≤ k) : isPB n.toNat = true := by
  rw [isPB_iff]
  obtain ⟨m, rfl⟩ := Int.eq_ofNat_of_zero_le (show 0 ≤ n by omega)
  obtain ⟨a, rfl⟩ := Int.eq_ofNat_of_zero_le hk0
  simp only [Int.toNat_natCast]
  refine ⟨by omega, fun d hd hdd e => ?_⟩
  have hk' : m < a * a := by exact_mod_cast hk
  have hlt : d < a := by
    refine Nat.lt_of_not_le fun hle => ?_
    have := Nat.mul_le_mul hle hle
    omega
  exact h d (by omega) (by omega) (by exact_mod_cast e)

/-- a divisor's own divisor -/
theorem mod_mul_ne (n e c : Int) (hc : e % c = 0) (h : n % c ≠ 0) : n % e ≠ 0 := by
  intro he
  apply h
  exact Int.emod_eq_zero_of_dvd (Int.dvd_trans (Int.dvd_of_emod_eq_zero hc) (Int.dvd_of_emod_eq_zero he))

/-- the wheel of six -/
theorem wheel (n k : Int) (hk : k % 6 = 5) (h2 : n % 2 ≠ 0) (h3 : n % 3 ≠ 0) (h : ∀ e : Int, 2 ≤ e → e < k → n % e ≠ 0) (a : n % k ≠ 0) (b : n % (k + 2) ≠ 0) :
    ∀ e : Int, 2 ≤ e → e < k + 6 → n % e ≠ 0 := by
  intro e he hlt
  by_cases h1 : e < k
  · exact h e he h1
  rcases (by omega : e = k ∨ e = k + 2 ∨ e % 2 = 0 ∨ e % 3 = 0) with r | r | r | r
  · rw [r]; exact a
  · rw [r]; exact b
  · exact mod_mul_ne n e 2 r h2
  · exact mod_mul_ne n e 3 r h3

theorem wheel0 (n : Int) (h2 : n % 2 ≠ 0) (h3 : n % 3 ≠ 0) : ∀ e : Int, 2 ≤ e → e < 5 → n % e ≠ 0 := by
  intro e he hlt
  rcases (by omega : e % 2 = 0 ∨ e % 3 = 0) with r | r
  · exact mod_mul_ne n e 2 r h2
  · exact mod_mul_ne n e 3 r h3

/-- the root of a number below 2^31 -/
theorem sq_lt (n k : Int) (h0 : 0 ≤ k) (hk : k * k ≤ n) (hn : n < 2147483648) : k < 46341 := by
  refine Int.lt_of_not_ge fun hge => ?_
  have := Int.mul_le_mul hge hge (by omega) h0
  omega

theorem sq_bd (k : Int) (h0 : 0 ≤ k) (hk : k ≤ 46400) : 0 ≤ k * k ∧ k * k ≤ 2152960000 :=
  ⟨Int.mul_nonneg h0 h0, by have := Int.mul_le_mul hk hk h0 (by omega); omega⟩

/-- the second divisor of the wheel's step divides: it is no more than the number, and not the number itself unless that is small -/
theorem isPB_two (n k : Int) (h5 : 5 ≤ k) (hk : k * k ≤ n) (hb : k < 46341) (h : n % (k + 2) = 0) (h4 : 4 ≤ n) : isPB n.toNat = false := by
  obtain ⟨q, hq⟩ := Int.dvd_of_emod_eq_zero h
  have hlt : k + 2 < n := by have := Int.mul_le_mul_of_nonneg_right h5 (show 0 ≤ k by omega); omega
  have q1 : 2 ≤ q := by
    refine Int.not_lt.1 fun hlt' => ?_
    have := Int.mul_le_mul_of_nonneg_left (show q ≤ 1 by omega) (show 0 ≤ k + 2 by omega)
    omega
  by_cases hc : (k + 2) * (k + 2) ≤ n
  · exact isPB_no n (k + 2) (by omega) hc h
  · refine isPB_no n q q1 ?_ (by rw [hq]; exact Int.mul_emod_left _ _)
    have : q ≤ k + 2 := by
      refine Int.not_lt.1 fun hlt' => hc ?_
      rw [hq]
      exact Int.mul_le_mul_of_nonneg_left (by omega) (by omega)
    rw [hq]
    exact Int.mul_le_mul_of_nonneg_right this (by omega)

/-- the greatest prime below n, or 0 -/
def belowP : Nat → Nat
  | 0 => 0
  | k + 1 => if isPB k then k else belowP k

theorem belowP_succ (m : Int) (h : 1 ≤ m) : belowP m.toNat = if isPB (m - 1).toNat then (m - 1).toNat else belowP (m - 1).toNat := by
  have e : m.toNat = (m - 1).toNat + 1 := by omega
  rw [e]; rfl

theorem belowP_small (m : Int) (h : m ≤ 2) : belowP m.toNat = 0 := by
  rcases (by omega : m.toNat = 0 ∨ m.toNat = 1 ∨ m.toNat = 2) with r | r | r <;> rw [r] <;> decide

theorem isPB_ge (n : Nat) (h : isPB n = true) : 2 ≤ n := ((isPB_iff n).1 h).1

end Go.Proofs.Ytdlpemmoobbgnaa

namespace Go.Proofs.Ytdlpemmoobbgnaa
open Go.RowKit

theorem ret_bool {a b : Bool} (h : a = b) : Ending.returned (.bool a) = .returned (.bool b) := by rw [h]

/-- what the law's trial division answers -/
def primeB (n : Int) : Bool := decide (n < 2147483648) && isPB n.toNat

theorem ret_be {a b : Bool} {x y : Int} (h : a = b) (g : x = y) : Ending.returned (.tuple #[.bool a, .int .i64 x]) = .returned (.tuple #[.bool b, .int .i64 y]) := by rw [h, g]
theorem ret_ue {a b : Int} {x y : Int} (h : a = b) (g : x = y) : Ending.returned (.tuple #[.int .u64 a, .int .i64 x]) = .returned (.tuple #[.int .u64 b, .int .i64 y]) := by rw [h, g]

/-- what modp.Prime answers beside the flag -/
def primeE (n : Int) : Int := if n < 2147483648 then 0 else 5
theorem primeE_lt {n : Int} (h : n < 2147483648) : primeE n = 0 := if_pos h
theorem primeE_ge {n : Int} (h : 2147483648 ≤ n) : primeE n = 5 := if_neg (by omega)

set_option maxHeartbeats 400000 in
theorem Prime_any (n : Int) (h0 : 0 ≤ n) (w : World) :
    Calls Try.prog 12 #[.int .u64 n] w fun e w' => e = .returned (.tuple #[.bool (primeB n), .int .i64 (primeE n)]) ∧ w = w' := by
  by_cases hb : 2147483648 ≤ n
  · go_enter Try.func12, Try.ntmps12
    go_wp2
    go_ret2
    exact ⟨ret_be (by unfold primeB; rw [decide_eq_false (by omega), Bool.false_and]) (primeE_ge hb).symm, rfl⟩
  have hlt : n < 2147483648 := by omega
  have HE := Lib.hid (primeE_lt hlt)
  clear hb
  by_cases h2 : n < 4
  · by_cases h3 : 2 ≤ n
    · have HP : Hid (isPB n.toNat = true) := by
        rcases (by omega : n = 2 ∨ n = 3) with r | r <;> subst r
        · exact (by decide : isPB 2 = true)
        · exact (by decide : isPB 3 = true)
      go_enter Try.func12, Try.ntmps12
      go_wp2
      go_ret2
      exact ⟨ret_be (by unfold primeB; rw [HP.out, decide_eq_true hlt]; simp [h3]) HE.out.symm, rfl⟩
    · go_enter Try.func12, Try.ntmps12
      go_wp2
      go_ret2
      exact ⟨ret_be (by unfold primeB; rw [isPB_small n (by omega), Bool.and_false]) HE.out.symm, rfl⟩
  have hge : 4 ≤ n := by omega
  clear h2
  by_cases m2 : n % 2 = 0
  · have B2 : (n % 2 == 0) = true := beq_iff_eq.2 m2
    have M2 := Lib.hid m2
    clear m2
    go_enter Try.func12, Try.ntmps12
    go_wp2
    go_ret2
    exact ⟨ret_be (by unfold primeB; rw [isPB_no n 2 (by omega) (by omega) M2.out, Bool.and_false]) HE.out.symm, rfl⟩
  have B2 : (n % 2 == 0) = false := beq_eq_false_iff_ne.2 m2
  have M2 := Lib.hid m2
  clear m2
  by_cases m3 : n % 3 = 0
  · have B3 : (n % 3 == 0) = true := beq_iff_eq.2 m3
    have M3 := Lib.hid m3
    clear m3
    go_enter Try.func12, Try.ntmps12
    go_wp2
    go_ret2
    by_cases h9 : n < 9
    · rcases (by have := M3.out; have := M2.out; omega : n = 6 ∨ n = 9) with r | r
      · exact absurd r (by have := M2.out; omega)
      · omega
    · exact ⟨ret_be (by unfold primeB; rw [isPB_no n 3 (by omega) (by omega) M3.out, Bool.and_false]) HE.out.symm, rfl⟩
  have B3 : (n % 3 == 0) = false := beq_eq_false_iff_ne.2 m3
  have M3 := Lib.hid m3
  clear m3
  have W0 := Lib.hid (wheel0 n M2.out M3.out)
  clear h0
  go_enter Try.func12, Try.ntmps12
  go_wp2
  go_loop [4] (fun d => ∃ k : Int, 5 ≤ k ∧ k ≤ 46347 ∧ Hid (k % 6 = 5) ∧ Hid (∀ e : Int, 2 ≤ e → e < k → n % e ≠ 0) ∧ d = .int .u64 k) (fun d => (46348 - intOf d).toNat)
  case atStart => exact ⟨5, by omega, by omega, (by decide : (5 : Int) % 6 = 5), W0.out, rfl⟩
  case round =>
    obtain ⟨k, k2, k3, k6, hd, rfl⟩ := hrel
    obtain ⟨q1, q2⟩ := sq_bd k (by omega) (by omega)
    by_cases ht : k * k ≤ n
    · by_cases hz : n % k = 0
      · have hzb : (n % k == 0) = true := beq_iff_eq.2 hz
        have HZ := Lib.hid hz
        clear hz
        go_wp2
        go_ret2
        exact ⟨ret_be (by unfold primeB; rw [isPB_no n k (by omega) ht HZ.out, Bool.and_false]) HE.out.symm, rfl⟩
      · have hzb : (n % k == 0) = false := beq_eq_false_iff_ne.2 hz
        have HZ := Lib.hid hz
        have hk := Lib.hid (sq_lt n k (by omega) ht hlt)
        clear hz
        by_cases hy : n % (k + 2) = 0
        · have hyb : (n % (k + 2) == 0) = true := beq_iff_eq.2 hy
          have HY := Lib.hid hy
          have HP : Hid (isPB n.toNat = false) := isPB_two n k k2 ht (sq_lt n k (by omega) ht hlt) hy hge
          clear hy
          go_wp2
          go_ret2
          exact ⟨ret_be (by unfold primeB; rw [HP.out, Bool.and_false]) HE.out.symm, rfl⟩
        · have hyb : (n % (k + 2) == 0) = false := beq_eq_false_iff_ne.2 hy
          have HY := Lib.hid hy
          clear hy
          go_wp2
          go_round
          case rel => exact ⟨k + 6, by omega, by have := hk.out; omega, (by have := k6.out; show (k + 6) % 6 = 5; omega), wheel n k k6.out M2.out M3.out hd.out HZ.out HY.out, rfl⟩
          case measure => simp [intOf]; omega
    · go_wp2
      go_ret2
      exact ⟨ret_be (by unfold primeB; rw [isPB_yes n k (by omega) hd.out (by omega) (by omega), decide_eq_true hlt]; rfl) HE.out.symm, rfl⟩

/-- what modp.Below answers -/
def belowU (n : Int) : Int := if 2147483648 < n then 0 else (belowP n.toNat : Int)
def belowE (n : Int) : Int := if 2147483648 < n then 5 else if belowP n.toNat = 0 then 6 else 0

set_option maxHeartbeats 400000 in
theorem Below_any (n : Int) (h0 : 0 ≤ n) (w : World) :
    Calls Try.prog 13 #[.int .u64 n] w fun e w' => e = .returned (.tuple #[.int .u64 (belowU n), .int .i64 (belowE n)]) ∧ w = w' := by
  by_cases hb : 2147483648 < n
  · go_enter Try.func13, Try.ntmps13
    go_wp2
    go_ret2
    exact ⟨ret_ue (if_pos hb).symm (if_pos hb).symm, rfl⟩
  have hlt : n ≤ 2147483648 := by omega
  clear hb
  go_enter Try.func13, Try.ntmps13
  go_wp2
  go_loop [0] (fun d => ∃ k : Int, 0 ≤ k ∧ k ≤ n ∧ Hid (belowP k.toNat = belowP n.toNat) ∧ d = .int .u64 k) (fun d => (intOf d).toNat)
  case atStart => exact ⟨n, by omega, by omega, rfl, rfl⟩
  case round =>
    obtain ⟨k, k0, k1, hk, rfl⟩ := hrel
    by_cases h2 : 2 < k
    · by_cases hp : isPB (k - 1).toNat = true
      · have HP : Hid (belowP n.toNat = (k - 1).toNat) := by rw [← hk.out, belowP_succ k (by omega), if_pos hp]; rfl
        have HQ : primeB (k - 1) = true := by unfold primeB; rw [hp, decide_eq_true (by omega)]; rfl
        clear hp
        go_wp2_with (go_at_call 12; refine (Prime_any _ (by omega) _).mono ?_; rintro e w' ⟨rfl, rfl⟩)
        go_ret2
        exact ⟨ret_ue (by unfold belowU; rw [if_neg (by omega), HP.out]; omega) (by unfold belowE; rw [if_neg (by omega), if_neg (by rw [HP.out]; omega)]), rfl⟩
      · have HP : Hid (belowP (k - 1).toNat = belowP n.toNat) := by rw [← hk.out, belowP_succ k (by omega), if_neg hp]; rfl
        have HQ : primeB (k - 1) = false := by unfold primeB; rw [Bool.eq_false_iff.2 hp, Bool.and_false]
        clear hp
        go_wp2_with (go_at_call 12; refine (Prime_any _ (by omega) _).mono ?_; rintro e w' ⟨rfl, rfl⟩)
        go_round
        case rel => exact ⟨k - 1, by omega, by omega, HP, rfl⟩
        case measure => simp [intOf]; omega
    · have HP : Hid (belowP n.toNat = 0) := by rw [← hk.out]; exact belowP_small k (by omega)
      go_wp2
      go_ret2
      exact ⟨ret_ue (by unfold belowU; rw [if_neg (by omega), HP.out]; rfl) (by unfold belowE; rw [if_neg (by omega), if_pos HP.out]), rfl⟩

end Go.Proofs.Ytdlpemmoobbgnaa

namespace Go.Proofs.Ytdlpemmoobbgnaa
open Go.RowKit

def sideB (n : Int) : Bool := decide (0 ≤ n ∧ n ≤ 64)
/-- is a matrix of this shape, with n entries, sound? -/
def soundB (r c : Int) (n : Nat) : Bool := sideB r && sideB c && decide ((n : Int) = r * c)
def checkE (r c : Int) (n : Nat) : Int := if soundB r c n = true then 0 else 1

theorem sideB_yes {n : Int} (h : sideB n = true) : 0 ≤ n ∧ n ≤ 64 := by simpa [sideB] using h
theorem soundB_yes {r c : Int} {n : Nat} (h : soundB r c n = true) : (0 ≤ r ∧ r ≤ 64) ∧ (0 ≤ c ∧ c ≤ 64) ∧ (n : Int) = r * c := by
  unfold soundB at h
  simp only [Bool.and_eq_true, decide_eq_true_eq] at h
  exact ⟨sideB_yes h.1.1, sideB_yes h.1.2, h.2⟩

set_option maxHeartbeats 400000 in
theorem side_any (n : Int) (w : World) :
    Calls Try.prog 98 #[.int .i64 n] w fun e w' => e = .returned (.bool (sideB n)) ∧ w = w' := by
  by_cases h0 : 0 ≤ n
  · by_cases h1 : n ≤ 64
    · go_enter Try.func98, Try.ntmps98
      go_wp2
      go_ret
      exact ⟨ret_bool (by unfold sideB; symm; simp; omega), rfl⟩
    · go_enter Try.func98, Try.ntmps98
      go_wp2
      go_ret
      exact ⟨ret_bool (by unfold sideB; symm; simp; omega), rfl⟩
  · go_enter Try.func98, Try.ntmps98
    go_wp2
    go_ret
    exact ⟨ret_bool (by unfold sideB; symm; simp; omega), rfl⟩

theorem ret_i64 {a b : Int} (h : a = b) : Ending.returned (.int .i64 a) = .returned (.int .i64 b) := by rw [h]

theorem prod64 {r c : Int} (h : 0 ≤ r ∧ r ≤ 64) (g : 0 ≤ c ∧ c ≤ 64) : 0 ≤ r * c ∧ r * c ≤ 4096 :=
  ⟨Int.mul_nonneg h.1 g.1, by have := Int.mul_le_mul h.2 g.2 g.1 (by omega); omega⟩

set_option maxHeartbeats 400000 in
theorem Check_any (r c : Int) (a : Option Addr) (n cap : Nat) (hn : n ≤ 17592186044416) (w : World) :
    Calls Try.prog 71 #[.agg #[.int .i64 r, .int .i64 c, .slice a n cap]] w fun e w' => e = .returned (.int .i64 (checkE r c n)) ∧ Below w.heap.size w w' := by
  by_cases hr : sideB r = true
  · by_cases hc : sideB c = true
    · obtain ⟨m0, m1⟩ := prod64 (sideB_yes hr) (sideB_yes hc)
      by_cases he : (n : Int) = r * c
      · have hs : Hid (checkE r c n = 0) := by show _ = _; unfold checkE soundB; simp [hr, hc, he]
        have hne : ((n : Int) != r * c) = false := by rw [bne_eq_false_iff_eq]; exact he
        clear he
        go_enter Try.func71, Try.ntmps71
        go_wp2_with (first | (go_at_call_of 98 (Value.int .i64 r); refine (side_any r _).mono ?_; rintro e w' ⟨rfl, rfl⟩) | (go_at_call_of 98 (Value.int .i64 c); refine (side_any c _).mono ?_; rintro e w' ⟨rfl, rfl⟩))
        go_ret
        exact ⟨ret_i64 hs.out.symm, (Below.refl _ _).alloc (Nat.le_refl _) _⟩
      · have hs : Hid (checkE r c n = 1) := by show _ = _; unfold checkE soundB; simp [hr, hc, he]
        have hne : ((n : Int) != r * c) = true := by rw [bne_iff_ne]; exact he
        clear he
        go_enter Try.func71, Try.ntmps71
        go_wp2_with (first | (go_at_call_of 98 (Value.int .i64 r); refine (side_any r _).mono ?_; rintro e w' ⟨rfl, rfl⟩) | (go_at_call_of 98 (Value.int .i64 c); refine (side_any c _).mono ?_; rintro e w' ⟨rfl, rfl⟩))
        go_ret
        exact ⟨ret_i64 hs.out.symm, (Below.refl _ _).alloc (Nat.le_refl _) _⟩
    · have hc : sideB c = false := by simpa using hc
      have hs : Hid (checkE r c n = 1) := by show _ = _; unfold checkE soundB; simp [hr, hc]
      go_enter Try.func71, Try.ntmps71
      go_wp2_with (first | (go_at_call_of 98 (Value.int .i64 r); refine (side_any r _).mono ?_; rintro e w' ⟨rfl, rfl⟩) | (go_at_call_of 98 (Value.int .i64 c); refine (side_any c _).mono ?_; rintro e w' ⟨rfl, rfl⟩))
      go_ret
      exact ⟨ret_i64 hs.out.symm, (Below.refl _ _).alloc (Nat.le_refl _) _⟩
  · have hr : sideB r = false := by simpa using hr
    have hs : Hid (checkE r c n = 1) := by show _ = _; unfold checkE soundB; simp [hr]
    go_enter Try.func71, Try.ntmps71
    go_wp2_with (first | (go_at_call_of 98 (Value.int .i64 r); refine (side_any r _).mono ?_; rintro e w' ⟨rfl, rfl⟩) | (go_at_call_of 98 (Value.int .i64 c); refine (side_any c _).mono ?_; rintro e w' ⟨rfl, rfl⟩))
    go_ret
    exact ⟨ret_i64 hs.out.symm, (Below.refl _ _).alloc (Nat.le_refl _) _⟩

/-- the error of the calls with a prime -/
def openE (r c : Int) (n : Nat) (p : Int) (fit : Bool) : Int :=
  if soundB r c n = true then if fit = true then if primeB p = true then 0 else 9 else 2 else 1

set_option maxHeartbeats 400000 in
theorem open_any (r c : Int) (a : Option Addr) (n cap : Nat) (hn : n ≤ 17592186044416) (p : Int) (hp : 0 ≤ p) (fit : Bool) (w : World) :
    Calls Try.prog 43 #[.agg #[.int .i64 r, .int .i64 c, .slice a n cap], .int .u64 p, .bool fit] w fun e w' => e = .returned (.int .i64 (openE r c n p fit)) ∧ Below w.heap.size w w' := by
  by_cases hs : soundB r c n = true
  · have h1 : checkE r c n = 0 := if_pos hs
    cases fit with
    | true =>
      by_cases hq : primeB p = true
      · have he : Hid (openE r c n p true = 0) := by show _ = _; unfold openE; rw [if_pos hs, if_pos rfl, if_pos hq]
        go_enter Try.func43, Try.ntmps43
        go_wp2_with (first | (go_at_call 71; refine (Check_any r c a n cap hn _).mono ?_; rintro e w1 ⟨rfl, hb1⟩) | (go_at_call 12; refine (Prime_any p hp _).mono ?_; rintro e w2 ⟨rfl, rfl⟩))
        go_ret
        exact ⟨ret_i64 he.out.symm, ((Below.refl _ _).alloc (Nat.le_refl _) _).trans (hb1.mono (by simp))⟩
      · have hq : primeB p = false := by simpa using hq
        have he : Hid (openE r c n p true = 9) := by show _ = _; unfold openE; rw [if_pos hs, if_pos rfl, if_neg (by simp [hq])]
        go_enter Try.func43, Try.ntmps43
        go_wp2_with (first | (go_at_call 71; refine (Check_any r c a n cap hn _).mono ?_; rintro e w1 ⟨rfl, hb1⟩) | (go_at_call 12; refine (Prime_any p hp _).mono ?_; rintro e w2 ⟨rfl, rfl⟩))
        go_ret
        exact ⟨ret_i64 he.out.symm, ((Below.refl _ _).alloc (Nat.le_refl _) _).trans (hb1.mono (by simp))⟩
    | false =>
      have he : Hid (openE r c n p false = 2) := by show _ = _; unfold openE; rw [if_pos hs, if_neg (by simp)]
      go_enter Try.func43, Try.ntmps43
      go_wp2_with (first | (go_at_call 71; refine (Check_any r c a n cap hn _).mono ?_; rintro e w1 ⟨rfl, hb1⟩) | (go_at_call 12; refine (Prime_any p hp _).mono ?_; rintro e w2 ⟨rfl, rfl⟩))
      go_ret
      exact ⟨ret_i64 he.out.symm, ((Below.refl _ _).alloc (Nat.le_refl _) _).trans (hb1.mono (by simp))⟩
  · have h1 : checkE r c n = 1 := if_neg hs
    have he : Hid (openE r c n p fit = 1) := by show _ = _; unfold openE; rw [if_neg hs]
    go_enter Try.func43, Try.ntmps43
    go_wp2_with (first | (go_at_call 71; refine (Check_any r c a n cap hn _).mono ?_; rintro e w1 ⟨rfl, hb1⟩) | (go_at_call 12; refine (Prime_any p hp _).mono ?_; rintro e w2 ⟨rfl, rfl⟩))
    go_ret
    exact ⟨ret_i64 he.out.symm, ((Below.refl _ _).alloc (Nat.le_refl _) _).trans (hb1.mono (by simp))⟩

end Go.Proofs.Ytdlpemmoobbgnaa

namespace Go.Proofs.Ytdlpemmoobbgnaa
open Go.RowKit

/-- the grid of a's residues -/
def resG (p : Int) (K : Nat) (x : Nat → Raw) : Nat → Nat → Int := fun i j => resid (x (i * K + j)) p
def redS (p : Int) (m n : Nat) (G : Nat → Nat → Int) (cols : Nat) : RS := RS.run p m n ⟨G, [], 1 % p⟩ cols

/-- what Det answers of a square matrix of R rows -/
def detM (p : Int) (R : Nat) (x : Nat → Raw) : Int :=
  if (redS p R R (resG p R x) R).P.length < R then 0 else (redS p R R (resG p R x) R).d

theorem resid_bd (r : Raw) (p : Int) (hp : 1 ≤ p) : 0 ≤ resid r p ∧ resid r p < p := by
  unfold resid
  have := md.mod_bd r.mag p hp
  split <;> omega

theorem resG_res (p : Int) (hp : 1 ≤ p) (m n K : Nat) (x : Nat → Raw) : Res p m n (resG p K x) := fun _ _ _ _ => resid_bd _ p hp

theorem primeB_bd {p : Int} (h : primeB p = true) : 2 ≤ p ∧ p < 2147483648 := by
  unfold primeB at h
  simp only [Bool.and_eq_true, decide_eq_true_eq] at h
  have := isPB_ge _ h.2
  omega

def detE (r c : Int) (n : Nat) (p : Int) : Int := openE r c n p (r == c)
def detV (r c : Int) (n : Nat) (x : Nat → Raw) (p : Int) : Int := if detE r c n p = 0 then detM p r.toNat x else 0

theorem RdL.slice {w : World} {v : Value} {n : Nat} {x : Nat → Raw} (h : RdL w v n x) : ∃ a cap, v = .slice a n cap ∧ n ≤ 17592186044416 := by
  obtain ⟨a, cap, e, h1, h2, _⟩ := h
  exact ⟨a, cap, e, by omega⟩

set_option maxHeartbeats 2000000 in
set_option maxRecDepth 100000 in
theorem Det_any (r c : Int) (p : Int) (hp : 0 ≤ p) (s : Value) (n : Nat) (x : Nat → Raw) (w : World) (hr : RdL w s n x) :
    Calls Try.prog 18 #[.agg #[.int .i64 r, .int .i64 c, s], .int .u64 p] w fun e w' =>
      e = .returned (.tuple #[.int .u64 (detV r c n x p), .int .i64 (detE r c n p)]) ∧ Below w.heap.size w w' := by
  obtain ⟨a, cap, rfl, hn⟩ := hr.slice
  have HR := Lib.hid hr
  clear hr
  by_cases he : detE r c n p = 0
  · have hs : soundB r c n = true := by
      unfold detE openE at he; by_cases h : soundB r c n = true
      · exact h
      · rw [if_neg h] at he; omega
    have hrc : (r == c) = true := by
      unfold detE openE at he; rw [if_pos hs] at he
      by_cases h : (r == c) = true
      · exact h
      · rw [if_neg h] at he; omega
    have hpr : primeB p = true := by
      unfold detE openE at he; rw [if_pos hs, if_pos hrc] at he
      by_cases h : primeB p = true
      · exact h
      · rw [if_neg h] at he; omega
    obtain ⟨⟨s0, s1⟩, -, s2⟩ := soundB_yes hs
    obtain rfl : r = c := by simpa using hrc
    obtain ⟨p0, p1⟩ := primeB_bd hpr
    obtain ⟨R, rfl⟩ := Int.eq_ofNat_of_zero_le s0
    have hN : n = R * R := by exact_mod_cast s2
    have HV : Hid (detV R R n x p = detM p R x) := by show _ = _; unfold detV; rw [if_pos he, Int.toNat_natCast]
    have HE : Hid (openE R R n p true = 0) := by have := he; unfold detE at this; rw [hrc] at this; exact this
    have HE' := Lib.hid he
    have HN := Lib.hid hN
    clear he hs hpr s2 hN
    go_enter Try.func18, Try.ntmps18
    go_wp2_with (go_at_call 43; refine (open_any R R a n cap hn p hp true _).mono ?_; rw [HE.out]; rintro e w1 ⟨rfl, hb1⟩)
    have hx := fun o u (h : (w.alloc (.cells #[.int .i64 R, .int .i64 R, .slice a n cap] 34)).cell? ⟨w.heap.size, o, none⟩ = some u) => cell_stays hb1 h
    have x0 := hx 0 (.int .i64 R) (by go_simp)
    have x1 := hx 1 (.int .i64 R) (by go_simp)
    have x2 := hx 2 (.slice a n cap) (by go_simp)
    have hB1 : Below w.heap.size w w1 := ((Below.refl _ _).alloc (Nat.le_refl _) _).trans (hb1.mono (by simp))
    have hsz : w.heap.size < w1.heap.size := by have := hb1.size; simp at this; omega
    have hr1 := Lib.hid (HR.out.below hB1)
    clear hx hb1
    obtain ⟨S, hS⟩ : ∃ S, S = RS.run p R R ⟨resG p R x, [], 1 % p⟩ R := ⟨_, rfl⟩
    have HM : Hid (detM p R x = if S.P.length < R then 0 else S.d) := by rw [hS]; rfl
    have HS := Lib.hid hS
    clear hS
    have hszd : w.heap.size < w1.drew.heap.size := hsz
    by_cases hlt : S.P.length < R
    · have HM : Hid (detM p R x = 0) := HM.out.trans (if_pos hlt)
      go_region_with ((first
        | (go_at_call 45; refine (residues_any p (by omega) p1 R R n (by omega) (by omega) HN.out _ x _ (hr1.out.below (Below.refl _ _).drew)).mono ?_; rintro e w2 ⟨gb, B, rfl, hp2, hb2⟩; have y0 := cell_stays (w := w1.drew) hb2 x0; have y1 := cell_stays (w := w1.drew) hb2 x1; have y2 := cell_stays (w := w1.drew) hb2 x2)
        | (go_at_call 44; refine (reduce_any p p0 p1 R R R R _ gb 0 B _ _ (resG p R x) (by omega) (by omega) (Nat.le_refl _) (resG_res p (by omega) R R R x) _ (hp2.grid (by omega)) hb2.size).mono ?_; rw [← HS.out]; rintro e w3 ⟨B', O', C', pv, rfl, hg3, ho3, hb3⟩; obtain ⟨pa, pc, rfl⟩ := own_slice ho3)))
      all_goals
        have z0 := (hb3.cell (p := ⟨w.heap.size, 0, none⟩) hszd).trans y0
        have hB3 : Below w.heap.size w w3 := ((hB1.drew).trans (hb2.mono (by omega))).trans (hb3.mono (by omega))
        clear hg3 ho3 hp2
        go_wp2_with fail
        go_ret2
        exact ⟨ret_ue (by rw [HV.out, HM.out]) HE'.out.symm, hB3⟩
    · have HM : Hid (detM p R x = S.d) := HM.out.trans (if_neg hlt)
      go_region_with ((first
        | (go_at_call 45; refine (residues_any p (by omega) p1 R R n (by omega) (by omega) HN.out _ x _ (hr1.out.below (Below.refl _ _).drew)).mono ?_; rintro e w2 ⟨gb, B, rfl, hp2, hb2⟩; have y0 := cell_stays (w := w1.drew) hb2 x0; have y1 := cell_stays (w := w1.drew) hb2 x1; have y2 := cell_stays (w := w1.drew) hb2 x2)
        | (go_at_call 44; refine (reduce_any p p0 p1 R R R R _ gb 0 B _ _ (resG p R x) (by omega) (by omega) (Nat.le_refl _) (resG_res p (by omega) R R R x) _ (hp2.grid (by omega)) hb2.size).mono ?_; rw [← HS.out]; rintro e w3 ⟨B', O', C', pv, rfl, hg3, ho3, hb3⟩; obtain ⟨pa, pc, rfl⟩ := own_slice ho3)))
      all_goals
        have z0 := (hb3.cell (p := ⟨w.heap.size, 0, none⟩) hszd).trans y0
        have hB3 : Below w.heap.size w w3 := ((hB1.drew).trans (hb2.mono (by omega))).trans (hb3.mono (by omega))
        clear hg3 ho3 hp2
        go_wp2_with fail
        go_ret2
        exact ⟨ret_ue (by rw [HV.out, HM.out]) HE'.out.symm, hB3⟩
  · have HE : Hid (openE r c n p (r == c) = detE r c n p) := rfl
    have HV : Hid (detV r c n x p = 0) := if_neg he
    have hne : (detE r c n p != 0) = true := by rw [bne_iff_ne]; exact he
    obtain ⟨E, hE⟩ : ∃ E, E = detE r c n p := ⟨_, rfl⟩
    rw [← hE] at hne ⊢
    have hE' : openE r c n p (r == c) = E := hE.symm
    have HE' := Lib.hid hE'
    clear he hE hE'
    go_enter Try.func18, Try.ntmps18
    go_wp2_with (go_at_call 43; refine (open_any r c a n cap hn p hp (r == c) _).mono ?_; rw [HE'.out]; rintro e w1 ⟨rfl, hb1⟩)
    go_ret2
    exact ⟨ret_ue HV.out.symm rfl, ((Below.refl _ _).alloc (Nat.le_refl _) _).trans (hb1.mono (by simp))⟩

end Go.Proofs.Ytdlpemmoobbgnaa

namespace Go.Proofs.Ytdlpemmoobbgnaa
open Go.RowKit

def Value.apart (u v : Value) : Prop := ∀ b, u.ownBlock = some b → v.ownBlock ≠ some b

/-- block lb is a list with room for cap integers (element type T; words of element type E), of which q stand -/
structure LS (T E : TypeId) (w : World) (base bm lb cap q : Nat) (x : Nat → Raw) (M : Nat → Value) : Prop where
  blk : Blk w lb (2 * cap) T
  own : base ≤ lb
  le : q ≤ cap
  cells : ∀ i, i < q → w.cell? ⟨lb, i * 2, none⟩ = some (.bool (x i).neg) ∧ w.cell? ⟨lb, i * 2 + 1, none⟩ = some (M i)
  mags : ∀ i, i < q → FrA .u64 E w bm (M i) (x i).n (x i).f
  apart : ∀ i j, i < q → j < q → i ≠ j → Value.apart (M i) (M j)
  off : ∀ i, i < q → (M i).ownBlock ≠ some lb

section
variable {T E : TypeId} {w w' : World} {base bm lb cap q : Nat} {x : Nat → Raw} {M : Nat → Value}

theorem Blk.cell {b n : Nat} {e : TypeId} (h : Blk w b n e) {i : Nat} (hi : i < n) : (w.cell? ⟨b, i, none⟩).isSome = true ∧ w.frozen? ⟨b, i, none⟩ = false := by
  obtain ⟨cur, h, hs⟩ := h
  refine ⟨?_, ?_⟩
  · rw [cell_of_row _ _ _ _ _ _ h]; simp [hs, hi]
  · unfold World.frozen?; simp only; rw [h]; simp

theorem FrA.lt {k : IntKind} {e : TypeId} {v : Value} {n : Nat} {f : Nat → Int} (h : FrA k e w base v n f) {b : Nat} (hb : v.ownBlock = some b) : base ≤ b ∧ b < w.heap.size := by
  rcases h with ⟨rfl, _⟩ | ⟨b', cap, rfl, _, _, h3, h4, _⟩
  · simp [Value.ownBlock] at hb
  · simp [Value.ownBlock] at hb; subst hb; exact ⟨h3, h4.lt⟩

theorem LS.grown (h : LS T E w base bm lb cap q x M) {r : Option Nat} (hg : w.grownBy w' r) (h1 : some lb ≠ r) (h2 : ∀ i, i < q → (M i).ownBlock = none ∨ (M i).ownBlock ≠ r) : LS T E w' base bm lb cap q x M :=
  { h with
    blk := h.blk.grown hg h1
    cells := fun i hi => ⟨hg.cell (h.cells i hi).1 h1, hg.cell (h.cells i hi).2 h1⟩
    mags := fun i hi => (h.mags i hi).grown hg (h2 i hi) }
theorem LS.below (h : LS T E w base bm lb cap q x M) (hb : Below w.heap.size w w') : LS T E w' base bm lb cap q x M :=
  h.grown (gb_below hb none) (by simp) (fun i _ => by cases (M i).ownBlock <;> simp)
/-- a store beside all of it -/
theorem LS.set (h : LS T E w base bm lb cap q x M) {a : Addr} (ha : a.block < bm) (hl : a.block ≠ lb) (v : Value) : LS T E (w.setCell a v) base bm lb cap q x M := by
  refine h.grown (gb_set w a v) (fun e => ?_) (fun i hi => ?_)
  · injection e with e; exact hl e.symm
  · cases hb : (M i).ownBlock with
    | none => exact Or.inl rfl
    | some b => right; have := ((h.mags i hi).lt hb).1; intro e; injection e with e; omega

theorem LS.start (w : World) (cur : Array Value) (hc : cur.size = 2 * cap) (hb : base ≤ w.heap.size) (x : Nat → Raw) (M : Nat → Value) : LS T E (w.alloc (.cells cur T)) base bm w.heap.size cap 0 x M :=
  ⟨⟨cur, heap_alloc_new w _, hc⟩, hb, by omega, fun i hi => absurd hi (by omega), fun i hi => absurd hi (by omega), fun i _ hi => absurd hi (by omega), fun i hi => absurd hi (by omega)⟩

/-- one more -/
theorem LS.push (h : LS T E w base bm lb cap q x M) (hq : q < cap) {s : Bool} {mv : Value} {n : Nat} {f : Nat → Int} (hm : FrA .u64 E w bm mv n f) (hx : x q = ⟨s, n, f⟩)
    (ha : ∀ i, i < q → Value.apart (M i) mv ∧ Value.apart mv (M i)) (ho : mv.ownBlock ≠ some lb) :
    LS T E ((w.setCell ⟨lb, q * 2, none⟩ (.bool s)).setCell ⟨lb, q * 2 + 1, none⟩ mv) base bm lb cap (q + 1) x (fun i => if i = q then mv else M i) := by
  have hg : w.grownBy ((w.setCell ⟨lb, q * 2, none⟩ (.bool s)).setCell ⟨lb, q * 2 + 1, none⟩ mv) (some lb) := gb_trans (gb_set _ _ _) (gb_set _ _ _)
  obtain ⟨a1, _⟩ := h.blk.cell (i := q * 2) (by omega)
  obtain ⟨a2, _⟩ := h.blk.cell (i := q * 2 + 1) (by omega)
  obtain ⟨u1, e1⟩ := Option.isSome_iff_exists.1 a1
  obtain ⟨u2, e2⟩ := Option.isSome_iff_exists.1 a2
  have hM : ∀ i, i < q → (if i = q then mv else M i) = M i := fun i hi => if_neg (by omega)
  refine ⟨(h.blk.set _ _).set _ _, h.own, by omega, fun i hi => ?_, fun i hi => ?_, fun i j hi hj hne => ?_, fun i hi => ?_⟩
  · by_cases e : i = q
    · subst e
      rw [if_pos rfl, hx]
      refine ⟨?_, ?_⟩
      · rw [World.cell?_setCell_other _ _ _ _ (by intro e'; injection e' with _ e3 _; omega)]
        exact World.cell?_setCell_same _ _ _ e1
      · refine World.cell?_setCell_same _ _ _ (u := u2) ?_
        rw [World.cell?_setCell_other _ _ _ _ (by intro e'; injection e' with _ e3 _; omega)]
        exact e2
    · rw [hM i (by omega)]
      obtain ⟨c1, c2⟩ := h.cells i (by omega)
      refine ⟨?_, ?_⟩
      · rw [World.cell?_setCell_other _ _ _ _ (by intro e'; injection e' with _ e3 _; omega), World.cell?_setCell_other _ _ _ _ (by intro e'; injection e' with _ e3 _; omega)]
        exact c1
      · rw [World.cell?_setCell_other _ _ _ _ (by intro e'; injection e' with _ e3 _; omega), World.cell?_setCell_other _ _ _ _ (by intro e'; injection e' with _ e3 _; omega)]
        exact c2
  · by_cases e : i = q
    · subst e
      rw [if_pos rfl, hx]
      exact hm.grown hg (Or.inr ho)
    · rw [hM i (by omega)]
      exact (h.mags i (by omega)).grown hg (Or.inr (h.off i (by omega)))
  · show Value.apart (if i = q then mv else M i) (if j = q then mv else M j)
    by_cases e : i = q
    · have : j < q := by omega
      rw [if_pos e, hM j this]; exact (ha j this).2
    · rw [hM i (by omega)]
      by_cases e' : j = q
      · rw [if_pos e']; exact (ha i (by omega)).1
      · rw [hM j (by omega)]; exact h.apart i j (by omega) (by omega) hne
  · show (if i = q then mv else M i).ownBlock ≠ _
    by_cases e : i = q
    · rw [if_pos e]; exact ho
    · rw [hM i (by omega)]; exact h.off i (by omega)

theorem LS.mono (h : LS T E w base bm lb cap q x M) {base' bm' : Nat} (h1 : base' ≤ base) (h2 : bm' ≤ bm) : LS T E w base' bm' lb cap q x M :=
  { h with own := Nat.le_trans h1 h.own, mags := fun i hi => (h.mags i hi).mono h2 }

theorem LS.congr (h : LS T E w base bm lb cap q x M) {y : Nat → Raw} (e : ∀ i, i < q → x i = y i) : LS T E w base bm lb cap q y M :=
  { h with cells := fun i hi => by rw [← e i hi]; exact h.cells i hi, mags := fun i hi => by rw [← e i hi]; exact h.mags i hi }

theorem LS.read (h : LS T E w base bm lb cap q x M) (hc : q ≤ 4398046511104) (hw : ∀ i, i < q → Words (x i).n (x i).f) : RdL w (.slice (some ⟨lb, 0, none⟩) q cap) q x := by
  refine ⟨_, cap, rfl, h.le, hc, fun _ => ⟨lb, 0, rfl, fun i hi => ⟨M i, ?_, ?_, (h.mags i hi).read, hw i hi⟩⟩⟩
  · rw [Nat.zero_add]; exact (h.cells i hi).1
  · rw [Nat.zero_add]; exact (h.cells i hi).2
end

end Go.Proofs.Ytdlpemmoobbgnaa

namespace Go.Proofs.Ytdlpemmoobbgnaa
open Go.RowKit

theorem infoI : (Try.prog.info? 56).map (fun i => (i.zero, i.size, i.bytes)) = some (some (.agg #[.bool false, .slice none 0 0]), 2, 32) := by kernel_rfl

theorem mk_ints (n : Nat) (hn : n ≤ 1048576) (u : World) : (Instr.makeSlice 32 (.int .i64 0) (.int .i64 n)).run Try.prog u =
    .ok (.slice (some ⟨u.heap.size, 0, none⟩) 0 n) (u.alloc (.cells (madeCells #[.bool false, .slice none 0 0] (n * 2)) 56)) := by
  obtain ⟨i0, hi, hz0, hz1, hz2⟩ := info_parts infoI
  have h := run_make (P := Try.prog) u 32 56 i0 (.agg #[.bool false, .slice none 0 0]) Try.underlying32 hi hz0 .i64 .i64 0 (n : Int) (by omega) (by omega) (by rw [hz2]; omega) (by omega)
  simpa [hz1, Value.cells] using h

/-- the state of whole: q entries stand in the list; the matrix lies in a box, the result's box is still empty -/
structure WRel (w wr : World) (m n K q : Nat) (x : Nat → Raw) (M : Nat → Value) : Prop where
  ls : LS 56 22 wr w.heap.size (w.heap.size + 3) (w.heap.size + 1) K q x M
  below : Below w.heap.size w wr
  size : w.heap.size + 3 ≤ wr.heap.size
  m0 : wr.cell? ⟨w.heap.size + 1 + 1, 0, none⟩ = some (.int .i64 m)
  m1 : wr.cell? ⟨w.heap.size + 1 + 1, 1, none⟩ = some (.int .i64 n)
  m2 : wr.cell? ⟨w.heap.size + 1 + 1, 2, none⟩ = some (.slice (some ⟨w.heap.size + 1, 0, none⟩) q K)
  mf : wr.frozen? ⟨w.heap.size + 1 + 1, 2, none⟩ = false
  r0 : wr.cell? ⟨w.heap.size, 0, none⟩ = some (.int .i64 0) ∧ wr.frozen? ⟨w.heap.size, 0, none⟩ = false
  r1 : wr.cell? ⟨w.heap.size, 1, none⟩ = some (.int .i64 0) ∧ wr.frozen? ⟨w.heap.size, 1, none⟩ = false
  r2 : wr.cell? ⟨w.heap.size, 2, none⟩ = some (.slice none 0 0) ∧ wr.frozen? ⟨w.heap.size, 2, none⟩ = false

theorem three_cells (w : World) (u v x : Value) (t : TypeId) : ∀ i y, [u, v, x][i]? = some y → (w.alloc (.cells #[u, v, x] t)).cell? ⟨w.heap.size, i, none⟩ = some y ∧ (w.alloc (.cells #[u, v, x] t)).frozen? ⟨w.heap.size, i, none⟩ = false := by
  intro i y hy
  have h := heap_alloc_new w (.cells #[u, v, x] t)
  refine ⟨by rw [cell_of_row _ _ _ _ _ _ h]; simpa using hy, ?_⟩
  unfold World.frozen?; simp only; rw [h]; simp

theorem WRel.start (w : World) (m n K : Nat) (x : Nat → Raw) (M : Nat → Value) :
    WRel w (((w.alloc (.cells #[.int .i64 0, .int .i64 0, .slice none 0 0] 34)).alloc (.cells (madeCells #[.bool false, .slice none 0 0] (K * 2)) 56)).alloc
      (.cells #[.int .i64 m, .int .i64 n, .slice (some ⟨w.heap.size + 1, 0, none⟩) 0 K] 34)) m n K 0 x M := by
  obtain ⟨w1, h1⟩ : ∃ w1, w1 = w.alloc (.cells #[.int .i64 0, .int .i64 0, .slice none 0 0] 34) := ⟨_, rfl⟩
  obtain ⟨w2, h2⟩ : ∃ w2, w2 = w1.alloc (.cells (madeCells #[.bool false, .slice none 0 0] (K * 2)) 56) := ⟨_, rfl⟩
  have s1 : w1.heap.size = w.heap.size + 1 := by rw [h1]; simp
  have s2 : w2.heap.size = w.heap.size + 1 + 1 := by rw [h2]; simp [s1]
  have b1 : Below w.heap.size w w1 := by rw [h1]; exact (Below.refl _ _).alloc (Nat.le_refl _) _
  have b2 : Below w1.heap.size w1 w2 := by rw [h2]; exact (Below.refl _ _).alloc (Nat.le_refl _) _
  have c1 := three_cells w (.int .i64 0) (.int .i64 0) (.slice none 0 0) 34
  rw [← h1] at c1
  have c3 := three_cells w2 (.int .i64 m) (.int .i64 n) (.slice (some ⟨w.heap.size + 1, 0, none⟩) 0 K) 34
  have ls := LS.start (T := 56) (E := 22) (base := w.heap.size) (bm := w.heap.size + 3) (cap := K) w1 (madeCells #[.bool false, .slice none 0 0] (K * 2)) (by simp [madeCells]; omega) (by omega) x M
  rw [← h2, s1] at ls
  rw [← h1, ← h2]
  have b3 : Below w2.heap.size w2 (w2.alloc (.cells #[.int .i64 m, .int .i64 n, .slice (some ⟨w.heap.size + 1, 0, none⟩) 0 K] 34)) := (Below.refl _ _).alloc (Nat.le_refl _) _
  have s3 : (w2.alloc (.cells #[.int .i64 m, .int .i64 n, .slice (some ⟨w.heap.size + 1, 0, none⟩) 0 K] 34)).heap.size = w.heap.size + 3 := by simp [s2]
  rw [s2] at c3
  generalize w2.alloc (.cells #[.int .i64 m, .int .i64 n, .slice (some ⟨w.heap.size + 1, 0, none⟩) 0 K] 34) = w3 at *
  have b13 : Below w1.heap.size w1 w3 := b2.trans (b3.mono (by omega))
  have r (i : Nat) (y : Value) (hy : [Value.int .i64 0, .int .i64 0, .slice none 0 0][i]? = some y) : w3.cell? ⟨w.heap.size, i, none⟩ = some y ∧ w3.frozen? ⟨w.heap.size, i, none⟩ = false :=
    ⟨cell_stays b13 (c1 i y hy).1, froz_stays b13 (c1 i y hy).1 (c1 i y hy).2⟩
  exact ⟨ls.below b3, b1.trans (b13.mono (by omega)), by omega, (c3 0 _ rfl).1, (c3 1 _ rfl).1, (c3 2 _ rfl).1, (c3 2 (.slice (some ⟨w.heap.size + 1, 0, none⟩) 0 K) rfl).2, r 0 _ rfl, r 1 _ rfl, r 2 _ rfl⟩

/-- one entry more: w6: behind the call that made the integer -/
theorem WRel.push {w wr w6 : World} {m n K q : Nat} {x : Nat → Raw} {M : Nat → Value} (h : WRel w wr m n K q x M) (hq : q < K) (hb : Below wr.heap.size wr w6) {b : Nat} {y : Int}
    (o1 : wr.heap.size ≤ b) (o2 : Blk w6 b (w1 y) 22) (o3 : RowAt .u64 w6 b 0 (w1 y) fun _ => y) (hx : x q = small y) :
    WRel w ((((w6.alloc (.cells #[.bool false, .slice (some ⟨b, 0, none⟩) (w1 y) (w1 y)] 56)).setCell ⟨w.heap.size + 1, q * 2, none⟩ (.bool false)).setCell ⟨w.heap.size + 1, q * 2 + 1, none⟩ (.slice (some ⟨b, 0, none⟩) (w1 y) (w1 y))).setCell
      ⟨w.heap.size + 1 + 1, 2, none⟩ (.slice (some ⟨w.heap.size + 1, 0, none⟩) (q + 1) K)) m n K (q + 1) x (fun i => if i = q then .slice (some ⟨b, 0, none⟩) (w1 y) (w1 y) else M i) := by
  have hz := h.size
  have hw1 : w1 y ≤ 1 := by unfold w1; split <;> omega
  have hfr : FrA .u64 22 w6 (w.heap.size + 3) (.slice (some ⟨b, 0, none⟩) (w1 y) (w1 y)) (w1 y) (fun _ => y) := Or.inr ⟨b, w1 y, rfl, Nat.le_refl _, by omega, by omega, o2, o3⟩
  obtain ⟨w7, h7⟩ : ∃ w7, w7 = w6.alloc (.cells #[.bool false, .slice (some ⟨b, 0, none⟩) (w1 y) (w1 y)] 56) := ⟨_, rfl⟩
  have b67 : Below w6.heap.size w6 w7 := by rw [h7]; exact (Below.refl _ _).alloc (Nat.le_refl _) _
  have b7 : Below wr.heap.size wr w7 := hb.trans (b67.mono hb.size)
  rw [← h7]
  have ls7 := h.ls.below b7
  have ls8 := ls7.push hq (s := false) (hfr.below b67) hx (fun i hi => by
    have hlt := fun k hk => ((h.ls.mags i hi).lt (b := k) hk).2
    refine ⟨fun k hk e => ?_, fun k hk e => ?_⟩
    · have := hlt k hk; simp [Value.ownBlock] at e; omega
    · simp [Value.ownBlock] at hk; have := hlt k e; omega) (by simp [Value.ownBlock]; omega)
  have g8 : w7.grownBy ((w7.setCell ⟨w.heap.size + 1, q * 2, none⟩ (.bool false)).setCell ⟨w.heap.size + 1, q * 2 + 1, none⟩ (.slice (some ⟨b, 0, none⟩) (w1 y) (w1 y))) (some (w.heap.size + 1)) := gb_trans (gb_set _ _ _) (gb_set _ _ _)
  generalize (w7.setCell ⟨w.heap.size + 1, q * 2, none⟩ (.bool false)).setCell ⟨w.heap.size + 1, q * 2 + 1, none⟩ (.slice (some ⟨b, 0, none⟩) (w1 y) (w1 y)) = w8 at *
  have s7 := b7.size
  have s8 := g8.size
  have g17 : wr.grownBy w8 (some (w.heap.size + 1)) := gb_trans (gb_below b7 _) g8
  have fz (a : Addr) (u : Value) (hu : wr.cell? a = some u) (hf : wr.frozen? a = false) (ha : a.block ≠ w.heap.size + 1) : w8.frozen? a = false := by
    have hl := World.block_lt_of_cell? wr a hu
    exact (World.frozen?_of_block (g17.block a.block hl (fun e => ha (Option.some.inj e)))).trans hf
  have g89 := gb_set w8 ⟨w.heap.size + 1 + 1, 2, none⟩ (.slice (some ⟨w.heap.size + 1, 0, none⟩) (q + 1) K)
  have c (i : Nat) (u : Value) (hu : wr.cell? ⟨w.heap.size, i, none⟩ = some u ∧ wr.frozen? ⟨w.heap.size, i, none⟩ = false) :
      (w8.setCell ⟨w.heap.size + 1 + 1, 2, none⟩ (.slice (some ⟨w.heap.size + 1, 0, none⟩) (q + 1) K)).cell? ⟨w.heap.size, i, none⟩ = some u ∧
      (w8.setCell ⟨w.heap.size + 1 + 1, 2, none⟩ (.slice (some ⟨w.heap.size + 1, 0, none⟩) (q + 1) K)).frozen? ⟨w.heap.size, i, none⟩ = false :=
    ⟨g89.cell (g17.cell hu.1 (by simp)) (by simp; omega), by rw [World.frozen?_setCell]; exact fz _ u hu.1 hu.2 (by simp)⟩
  have hm (i : Nat) (u : Value) (hi : i ≠ 2) (hu : wr.cell? ⟨w.heap.size + 1 + 1, i, none⟩ = some u) :
      (w8.setCell ⟨w.heap.size + 1 + 1, 2, none⟩ (.slice (some ⟨w.heap.size + 1, 0, none⟩) (q + 1) K)).cell? ⟨w.heap.size + 1 + 1, i, none⟩ = some u := by
    rw [World.cell?_setCell_other _ _ _ _ (by intro e'; injection e' with _ e3 _; omega)]
    exact g17.cell hu (by simp)
  refine ⟨ls8.set (by show w.heap.size + 1 + 1 < _; omega) (by show w.heap.size + 1 + 1 ≠ _; omega) _, ?_, by have := g89.size; omega, hm 0 _ (by omega) h.m0, hm 1 _ (by omega) h.m1,
    World.cell?_setCell_same _ _ _ (g17.cell h.m2 (by simp)), by rw [World.frozen?_setCell]; exact fz _ _ h.m2 h.mf (by simp), c 0 _ h.r0, c 1 _ h.r1, c 2 _ h.r2⟩
  exact (h.below.grown g17 h.below.size (fun k hk => by injection hk with hk; omega)).grown g89 (by have := h.below.size; omega) (fun k hk => by injection hk with hk; simp at hk; omega)

theorem below_drew {w w' : World} (h : Below w.drew.heap.size w.drew w') : Below w.heap.size w w' := ⟨h.os, h.tape, h.output, h.size, h.block⟩

/-- the row just built, and the room for it -/
theorem WRel.app {w wr w6 : World} {m n K q : Nat} {x : Nat → Raw} {M : Nat → Value} (h : WRel w wr m n K q x M) (hq : q < K) (hb : Below wr.heap.size wr w6) (u0 u1 : Value) :
    (∀ j u, [u0, u1][j]? = some u → (w6.alloc (.cells #[u0, u1] 56)).cell? (Addr.add ⟨w6.heap.size, 0, none⟩ j) = some u) ∧
    (∀ j, j < [u0, u1].length → ((w6.alloc (.cells #[u0, u1] 56)).cell? ⟨w.heap.size + 1, 0 + q * 2 + j, none⟩).isSome = true ∧ (w6.alloc (.cells #[u0, u1] 56)).frozen? ⟨w.heap.size + 1, 0 + q * 2 + j, none⟩ = false) ∧
    ((w6.alloc (.cells #[u0, u1] 56)).setCells (w.heap.size + 1) (q * 2) [u0, u1]).cell? ⟨w.heap.size + 1 + 1, 2, none⟩ = some (.slice (some ⟨w.heap.size + 1, 0, none⟩) q K) ∧
    ((w6.alloc (.cells #[u0, u1] 56)).setCells (w.heap.size + 1) (q * 2) [u0, u1]).frozen? ⟨w.heap.size + 1 + 1, 2, none⟩ = false ∧
    (w6.alloc (.cells #[u0, u1] 56)).cell? ⟨w.heap.size + 1 + 1, 2, none⟩ = some (.slice (some ⟨w.heap.size + 1, 0, none⟩) q K) := by
  have hg : wr.grownBy (w6.alloc (.cells #[u0, u1] 56)) none := gb_trans (gb_below hb none) (World.grownBy_alloc _ _ _)
  have hg2 : wr.grownBy ((w6.alloc (.cells #[u0, u1] 56)).setCells (w.heap.size + 1) (q * 2) [u0, u1]) (some (w.heap.size + 1)) :=
    gb_trans (gb_trans (gb_below hb _) (World.grownBy_alloc _ _ _)) (gb_trans (gb_set _ _ _) (gb_set _ _ _))
  refine ⟨fun j u hj => ?_, fun j hj => ?_, hg2.cell h.m2 (by simp), ?_, hg.cell h.m2 (by simp)⟩
  · rw [Addr.add_lit, cell_of_row _ _ _ _ _ _ (heap_alloc_new w6 _)]
    simpa using hj
  · exact (h.ls.blk.grown hg (by simp)).cell (by simp at hj; omega)
  · have hl := World.block_lt_of_cell? wr _ h.m2
    exact (World.frozen?_of_block (hg2.block (w.heap.size + 1 + 1) hl (by simp))).trans h.mf

set_option maxHeartbeats 2000000 in
set_option maxRecDepth 100000 in
theorem whole_any (m n gcap base gb go : Nat) (B O C : Nat → Nat) (G : Nat → Nat → Int) (hm : m ≤ 64) (hn : n ≤ 64) (hG : ∀ i j, i < m → j < n → 0 ≤ G i j ∧ G i j < 2147483648)
    (w : World) (hg : GridAt .u64 w base gb go m n B O C G) :
    Calls Try.prog 48 #[.slice (some ⟨gb, go, none⟩) m gcap, .int .i64 n] w fun e w' => ∃ lb M, e = .returned (.agg #[.int .i64 m, .int .i64 n, .slice (some ⟨lb, 0, none⟩) (m * n) (m * n)]) ∧
      LS 56 22 w' w.heap.size w.heap.size lb (m * n) (m * n) (fun q => small (G (q / n) (q % n))) M ∧ Below w.heap.size w w' := by
  obtain ⟨K, hK⟩ : ∃ K, K = m * n := ⟨_, rfl⟩
  rw [← hK]
  have hK4 : K ≤ 4096 := by rw [hK]; exact Nat.mul_le_mul hm hn
  have mk := mk_ints K (by omega)
  have e1 : 0 ≤ (m : Int) * n ∧ (m : Int) * n ≤ 4096 := ⟨Int.mul_nonneg (by omega) (by omega), by have := Int.mul_le_mul (show (m : Int) ≤ 64 by omega) (show (n : Int) ≤ 64 by omega) (by omega) (by omega); omega⟩
  obtain ⟨e2, e3⟩ := e1
  have e4 : (m : Int) * n = (K : Int) := by rw [hK]; simp
  have HK := Lib.hid hK
  have HGB := Lib.hid hG
  have HG := Lib.hid hg
  clear hK hG hg
  go_enter Try.func48, Try.ntmps48
  go_wp2_with fail
  have ws := WRel.start w m n K (fun q => small (G (q / n) (q % n))) (fun _ => .int .i64 0)
  have WS := Lib.hid ws
  clear ws
  obtain ⟨i0, hi, hz0, hz1, hz2⟩ := info_parts infoI
  have HI := Lib.hid (And.intro hi hz1)
  clear hi hz0 hz1 hz2 mk
  generalize ((w.alloc (.cells #[.int .i64 0, .int .i64 0, .slice none 0 0] 34)).alloc (.cells (madeCells #[.bool false, .slice none 0 0] (K * 2)) 56)).alloc
      (.cells #[.int .i64 m, .int .i64 n, .slice (some ⟨w.heap.size + 1, 0, none⟩) 0 K] 34) = W0 at WS ⊢
  go_loopw [21] (fun iv wr => ∃ (i : Nat) (M : Nat → Value), i ≤ m ∧ iv = .int .i64 i ∧ WRel w wr m n K (i * n) (fun q => small (G (q / n) (q % n))) M) (fun iv _ => m - (intOf iv).toNat)
  case atStart => exact ⟨0, _, by omega, rfl, by rw [Nat.zero_mul]; exact WS.out⟩
  case round =>
    obtain ⟨i, M, i1, rfl, hrel⟩ := hrel
    by_cases hi : i < m
    · obtain ⟨c1, c2⟩ := (HG.out.cells i hi)
      have hgl := HG.out.ltG (by omega)
      have c1 := cell_stays hrel.below c1
      have c2 := hrel.below
      have HR := Lib.hid hrel
      have HC2 := Lib.hid c2
      clear hrel c2
      go_wp2_with fail
      go_loopw [27] (fun jv wr => ∃ (j : Nat) (M : Nat → Value), j ≤ n ∧ jv = .int .i64 j ∧ WRel w wr m n K (i * n + j) (fun q => small (G (q / n) (q % n))) M) (fun jv _ => n - (intOf jv).toNat)
      case atStart => exact ⟨0, M, by omega, rfl, HR.out⟩
      case round =>
        clear HR HC2 c1 M
        obtain ⟨j, M, j1, rfl, hrel⟩ := hrel
        by_cases hj : j < n
        · obtain ⟨d1, d2⟩ := (HG.out.rows i hi j hj)
          have d1 := cell_stays hrel.below d1
          obtain ⟨q, hq⟩ : ∃ q, q = i * n + j := ⟨_, rfl⟩
          have hqK : q < K := by
            rw [hq, HK.out]
            have := Nat.mul_le_mul_right n (show i + 1 ≤ m by omega)
            rw [Nat.add_mul, Nat.one_mul] at this; omega
          have hx : small (G (q / n) (q % n)) = small (G i j) := by
            rw [hq, Nat.mul_comm i n, Nat.mul_add_div (by omega), Nat.mul_add_mod, Nat.div_eq_of_lt hj, Nat.mod_eq_of_lt hj, Nat.add_zero]
          rw [← hq] at hrel
          obtain ⟨y, hy⟩ : ∃ y, y = G i j := ⟨_, rfl⟩
          obtain ⟨y0, y1⟩ := HGB.out i j hi hj
          rw [← hy] at d1 hx y0 y1
          have m2 := hrel.m2
          have mf := hrel.mf
          have HR := Lib.hid hrel
          have HX := Lib.hid hx
          have HQ := Lib.hid hq
          clear hrel hq hx hy
          have g0 : IntKind.i64.wrap y = y := IntWalk.i64_in _ (by omega)
          go_wp2_with fail
          go_region_law (first
            | (go_simp; go_at_call 75; refine (Of_any y y0 (by omega) _).mono ?_; rintro e w6 ⟨b, rfl, o1, o2, o3, o4⟩; have k0 := cell_stays (w := wr.drew) o4 m2; have k1 := froz_stays (w := wr.drew) o4 m2 mf; have AP := Lib.hid (HR.out.app hqK (below_drew o4) (.bool false) (.slice (some ⟨b, 0, none⟩) (w1 y) (w1 y))); have k4 := AP.out.2.2.2.2)
            | (refine step_append_room rfl (.tmp 32) (.tmp 36) 32 rfl 56 i0 2 Try.underlying32 HI.out.1 HI.out.2 (w.heap.size + 1) 0 q K (by simp [Act.eval, Act.put]) ⟨w6.heap.size, 0, none⟩ 1 1 [.bool false, .slice (some ⟨b, 0, none⟩) (w1 y) (w1 y)] (by simp [Act.eval, Act.put]) rfl AP.out.1 (by intro u hu; simp at hu; rcases hu with rfl | rfl <;> rfl) (by omega) AP.out.2.1 ?_; have k2 := AP.out.2.2.1; have k3 := AP.out.2.2.2.1))
          all_goals
            have hN := HR.out.push hqK (below_drew o4) o1 o2 o3 HX.out
            have HNX := Lib.hid hN
            clear hN AP k0 k1 k2 k3 k4 o1 o2 o3 o4
            try clear Q
            go_wp2_with fail
            go_roundw
            case rel => exact ⟨j + 1, _, by omega, by go_num, by rw [← Nat.add_assoc, ← HQ.out]; exact HNX.out⟩
            case measure => simp [intOf]; omega
        · obtain rfl : j = n := by omega
          go_wp2_with fail
          go_roundw
          case rel => exact ⟨i + 1, M, by omega, by go_num, by rw [Nat.add_mul, Nat.one_mul]; exact hrel⟩
          case measure => simp [intOf]; omega
    · obtain rfl : i = m := by omega
      rw [← HK.out] at hrel
      have m0 := hrel.m0
      have m1 := hrel.m1
      have m2 := hrel.m2
      obtain ⟨r0, s0⟩ := hrel.r0
      obtain ⟨r1, s1⟩ := hrel.r1
      obtain ⟨r2, s2⟩ := hrel.r2
      have HR := Lib.hid hrel
      clear hrel
      go_wp2_with fail
      have hg : wr.grownBy (((wr.setCell ⟨w.heap.size, 0, none⟩ (.int .i64 i)).setCell ⟨w.heap.size, 1, none⟩ (.int .i64 n)).setCell ⟨w.heap.size, 2, none⟩ (.slice (some ⟨w.heap.size + 1, 0, none⟩) K K)) (some w.heap.size) :=
        gb_trans (gb_trans (gb_set _ _ _) (gb_set _ _ _)) (gb_set _ _ _)
      refine bodyPost_ret (v := .agg #[.int .i64 i, .int .i64 n, .slice (some ⟨w.heap.size + 1, 0, none⟩) K K]) ?_ rfl ⟨w.heap.size + 1, M, rfl, ?_, ?_⟩
      · simp [results, Try.results48, go_sem, r0, r1, r2]
      · exact (HR.out.ls.grown hg (by simp) (fun i hi => by
          cases hb : (M i).ownBlock with
          | none => exact Or.inl rfl
          | some b => right; have := ((HR.out.ls.mags i hi).lt hb).1; intro e; injection e with e; omega)).mono (Nat.le_refl _) (by omega)
      · exact HR.out.below.grown hg HR.out.below.size (fun k hk => by injection hk with hk; omega)
end Go.Proofs.Ytdlpemmoobbgnaa

namespace Go.Proofs.Ytdlpemmoobbgnaa
open Go.RowKit

theorem openE_ok {r c : Int} {n : Nat} {p : Int} {fit : Bool} (h : openE r c n p fit = 0) :
    ∃ R C : Nat, r = R ∧ c = C ∧ R ≤ 64 ∧ C ≤ 64 ∧ n = R * C ∧ 2 ≤ p ∧ p < 2147483648 ∧ fit = true ∧ primeB p = true := by
  have hs : soundB r c n = true := by
    unfold openE at h; by_cases g : soundB r c n = true
    · exact g
    · rw [if_neg g] at h; omega
  unfold openE at h; rw [if_pos hs] at h
  have hf : fit = true := by
    by_cases g : fit = true
    · exact g
    · rw [if_neg g] at h; omega
  rw [if_pos hf] at h
  have hp : primeB p = true := by
    by_cases g : primeB p = true
    · exact g
    · rw [if_neg g] at h; omega
  obtain ⟨⟨s0, s1⟩, ⟨t0, t1⟩, s2⟩ := soundB_yes hs
  obtain ⟨p0, p1⟩ := primeB_bd hp
  obtain ⟨R, rfl⟩ := Int.eq_ofNat_of_zero_le s0
  obtain ⟨C, rfl⟩ := Int.eq_ofNat_of_zero_le t0
  exact ⟨R, C, rfl, rfl, by omega, by omega, by exact_mod_cast s2, p0, p1, hf, hp⟩

/-- no matrix -/
def mat0 : Value := .agg #[.int .i64 0, .int .i64 0, .slice none 0 0]
/-- a matrix of m rows and n columns of residues, in memory that lay nowhere before block base -/
def OutM (w' : World) (base : Nat) (v : Value) (m n : Nat) (G : Nat → Nat → Int) : Prop :=
  ∃ lb M, v = .agg #[.int .i64 m, .int .i64 n, .slice (some ⟨lb, 0, none⟩) (m * n) (m * n)] ∧
    LS 56 22 w' base base lb (m * n) (m * n) (fun q => small (G (q / n) (q % n))) M
/-- a matrix, or an error and none -/
def AnsM (w' : World) (base : Nat) (v : Value) (E : Int) (m n : Nat) (G : Nat → Nat → Int) : Prop :=
  (E = 0 → OutM w' base v m n G) ∧ (E ≠ 0 → v = mat0)

theorem retT {u v u' v' : Value} (h : u = u') (g : v = v') : Ending.returned (.tuple #[u, v]) = .returned (.tuple #[u', v']) := by rw [h, g]

theorem redS_res {p : Int} (hp : 2 ≤ p) {m n : Nat} {G : Nat → Nat → Int} (h : Res p m n G) (cols : Nat) : Res p m n (redS p m n G cols).G :=
  RS.run_res (s := ⟨G, [], 1 % p⟩) (by omega) (Nat.zero_le _) h cols

def rankV (r c : Int) (n : Nat) (x : Nat → Raw) (p : Int) : Int :=
  if openE r c n p true = 0 then ((redS p r.toNat c.toNat (resG p c.toNat x) c.toNat).P.length : Int) else 0

set_option maxHeartbeats 2000000 in
set_option maxRecDepth 100000 in
theorem Rank_any (r c : Int) (p : Int) (hp : 0 ≤ p) (s : Value) (n : Nat) (x : Nat → Raw) (w : World) (hr : RdL w s n x) :
    Calls Try.prog 31 #[.agg #[.int .i64 r, .int .i64 c, s], .int .u64 p] w fun e w' =>
      e = .returned (.tuple #[.int .i64 (rankV r c n x p), .int .i64 (openE r c n p true)]) ∧ Below w.heap.size w w' := by
  obtain ⟨a, cap, rfl, hn⟩ := hr.slice
  have HR := Lib.hid hr
  clear hr
  by_cases he : openE r c n p true = 0
  · obtain ⟨R, C, rfl, rfl, hR, hC, hN, p0, p1, -, -⟩ := openE_ok he
    obtain ⟨S, hS⟩ : ∃ S, S = RS.run p R C ⟨resG p C x, [], 1 % p⟩ C := ⟨_, rfl⟩
    have HV : Hid (rankV R C n x p = S.P.length) := by show _ = _; unfold rankV; rw [if_pos he, Int.toNat_natCast, Int.toNat_natCast, hS]; rfl
    have HE := Lib.hid he
    have HN := Lib.hid hN
    have HS := Lib.hid hS
    clear he hN hS
    go_enter Try.func31, Try.ntmps31
    go_wp2_with (go_at_call 43; refine (open_any R C a n cap hn p hp true _).mono ?_; rw [HE.out]; rintro e w1 ⟨rfl, hb1⟩)
    have hx := fun o u (h : (w.alloc (.cells #[.int .i64 R, .int .i64 C, .slice a n cap] 34)).cell? ⟨w.heap.size, o, none⟩ = some u) => cell_stays hb1 h
    have x0 := hx 0 (.int .i64 R) (by go_simp)
    have x1 := hx 1 (.int .i64 C) (by go_simp)
    have x2 := hx 2 (.slice a n cap) (by go_simp)
    have hB1 : Below w.heap.size w w1 := ((Below.refl _ _).alloc (Nat.le_refl _) _).trans (hb1.mono (by simp))
    have hsz : w.heap.size < w1.heap.size := by have := hb1.size; simp at this; omega
    have hr1 := Lib.hid (HR.out.below hB1)
    clear hx hb1
    have hszd : w.heap.size < w1.drew.heap.size := hsz
    go_region_with ((first
      | (go_at_call 45; refine (residues_any p (by omega) p1 R C n (by omega) (by omega) HN.out _ x _ (hr1.out.below (Below.refl _ _).drew)).mono ?_; rintro e w2 ⟨gb, B, rfl, hp2, hb2⟩; have y0 := cell_stays (w := w1.drew) hb2 x0; have y1 := cell_stays (w := w1.drew) hb2 x1; have y2 := cell_stays (w := w1.drew) hb2 x2)
      | (go_at_call 44; refine (reduce_any p p0 p1 R C C R _ gb 0 B _ _ (resG p C x) (by omega) (by omega) (Nat.le_refl _) (resG_res p (by omega) R C C x) _ (hp2.grid (by omega)) hb2.size).mono ?_; rw [← HS.out]; rintro e w3 ⟨B', O', C', pv, rfl, hg3, ho3, hb3⟩; obtain ⟨pa, pc, rfl⟩ := own_slice ho3)))
    all_goals
      have hB3 : Below w.heap.size w w3 := ((hB1.drew).trans (hb2.mono (by omega))).trans (hb3.mono (by omega))
      clear hg3 ho3 hp2
      go_wp2_with fail
      go_ret2
      exact ⟨retT (by rw [HV.out]; rfl) (by rw [HE.out]; rfl), hB3⟩
  · have hV : rankV r c n x p = 0 := if_neg he
    have hne : (openE r c n p true != 0) = true := by rw [bne_iff_ne]; exact he
    obtain ⟨E, hE⟩ : ∃ E, E = openE r c n p true := ⟨_, rfl⟩
    rw [← hE] at hne ⊢
    have HE := Lib.hid hE.symm
    have HV := Lib.hid hV
    clear he hE hV
    go_enter Try.func31, Try.ntmps31
    go_wp2_with (go_at_call 43; refine (open_any r c a n cap hn p hp true _).mono ?_; rw [HE.out]; rintro e w1 ⟨rfl, hb1⟩)
    go_ret2
    exact ⟨retT (by rw [HV.out]; rfl) rfl, ((Below.refl _ _).alloc (Nat.le_refl _) _).trans (hb1.mono (by simp))⟩

/-- the parameter's box and the result's box, both just made -/
structure Opened (w w1 : World) (r c : Int) (sl : Value) : Prop where
  x0 : w1.cell? ⟨w.heap.size, 0, none⟩ = some (.int .i64 r)
  x1 : w1.cell? ⟨w.heap.size, 1, none⟩ = some (.int .i64 c)
  x2 : w1.cell? ⟨w.heap.size, 2, none⟩ = some sl
  z0 : w1.cell? ⟨w.heap.size + 1, 0, none⟩ = some (.int .i64 0) ∧ w1.frozen? ⟨w.heap.size + 1, 0, none⟩ = false
  z1 : w1.cell? ⟨w.heap.size + 1, 1, none⟩ = some (.int .i64 0) ∧ w1.frozen? ⟨w.heap.size + 1, 1, none⟩ = false
  z2 : w1.cell? ⟨w.heap.size + 1, 2, none⟩ = some (.slice none 0 0) ∧ w1.frozen? ⟨w.heap.size + 1, 2, none⟩ = false
  below : Below w.heap.size w w1
  size : w.heap.size + 2 ≤ w1.heap.size

theorem Opened.step {w w1 w2 : World} {r c : Int} {sl : Value} (h : Opened w w1 r c sl) {B : Nat} (hB : w.heap.size + 2 ≤ B) (hb : Below B w1 w2) : Opened w w2 r c sl := by
  have c1 (b o : Nat) (u : Value) (hbB : b < B) (hu : w1.cell? ⟨b, o, none⟩ = some u) : w2.cell? ⟨b, o, none⟩ = some u :=
    (World.cell?_of_block (w := w1) (a := ⟨b, o, none⟩) (hb.block b hbB)).trans hu
  have c2 (b o : Nat) (u : Value) (hbB : b < B) (hu : w1.cell? ⟨b, o, none⟩ = some u ∧ w1.frozen? ⟨b, o, none⟩ = false) : w2.cell? ⟨b, o, none⟩ = some u ∧ w2.frozen? ⟨b, o, none⟩ = false :=
    ⟨c1 b o u hbB hu.1, (World.frozen?_of_block (w := w1) (a := ⟨b, o, none⟩) (hb.block b hbB)).trans hu.2⟩
  exact ⟨c1 _ _ _ (by omega) h.x0, c1 _ _ _ (by omega) h.x1, c1 _ _ _ (by omega) h.x2, c2 _ _ _ (by omega) h.z0, c2 _ _ _ (by omega) h.z1, c2 _ _ _ (by omega) h.z2,
    h.below.trans (hb.mono (by omega)), Nat.le_trans h.size hb.size⟩

theorem Opened.drew {w w1 : World} {r c : Int} {sl : Value} (h : Opened w w1 r c sl) : Opened w w1.drew r c sl :=
  h.step h.size ⟨rfl, rfl, rfl, Nat.le_refl _, fun _ _ => rfl⟩

theorem Opened.start (w : World) (r c : Int) (sl : Value) :
    Opened w ((w.alloc (.cells #[.int .i64 r, .int .i64 c, sl] 34)).alloc (.cells #[.int .i64 0, .int .i64 0, .slice none 0 0] 34)) r c sl := by
  obtain ⟨w1, h1⟩ : ∃ w1, w1 = w.alloc (.cells #[.int .i64 r, .int .i64 c, sl] 34) := ⟨_, rfl⟩
  have s1 : w1.heap.size = w.heap.size + 1 := by rw [h1]; simp
  have c1 := three_cells w (.int .i64 r) (.int .i64 c) sl 34
  have b1 : Below w.heap.size w w1 := by rw [h1]; exact (Below.refl _ _).alloc (Nat.le_refl _) _
  rw [← h1] at c1 ⊢
  have c2 := three_cells w1 (.int .i64 0) (.int .i64 0) (.slice none 0 0) 34
  have b2 : Below w1.heap.size w1 (w1.alloc (.cells #[.int .i64 0, .int .i64 0, .slice none 0 0] 34)) := (Below.refl _ _).alloc (Nat.le_refl _) _
  rw [s1] at c2
  exact ⟨cell_stays b2 (c1 0 _ rfl).1, cell_stays b2 (c1 1 _ rfl).1, cell_stays b2 (c1 2 _ rfl).1, c2 0 _ rfl, c2 1 _ rfl, c2 2 _ rfl, b1.trans (b2.mono (by omega)), by simp [s1]⟩

/-- the answer is stored in the result's box -/
def stored (w3 : World) (b : Nat) (u v x : Value) : World := ((w3.setCell ⟨b, 0, none⟩ u).setCell ⟨b, 1, none⟩ v).setCell ⟨b, 2, none⟩ x

theorem stored_gb (w3 : World) (b : Nat) (u v x : Value) : w3.grownBy (stored w3 b u v x) (some b) := gb_trans (gb_trans (gb_set _ _ _) (gb_set _ _ _)) (gb_set _ _ _)

theorem Opened.out {w w3 : World} {r c : Int} {sl : Value} (h : Opened w w3 r c sl) (u v x : Value) {base lb K q : Nat} {y : Nat → Raw} {M : Nat → Value} (hb : w.heap.size + 2 ≤ base)
    (hl : LS 56 22 w3 base base lb K q y M) :
    LS 56 22 (stored w3 (w.heap.size + 1) u v x) w.heap.size w.heap.size lb K q y M ∧ Below w.heap.size w (stored w3 (w.heap.size + 1) u v x) := by
  have hg := stored_gb w3 (w.heap.size + 1) u v x
  have := hl.own
  refine ⟨(hl.grown hg (by simp; omega) (fun i hi => by
    cases hb' : (M i).ownBlock with
    | none => exact Or.inl rfl
    | some b => right; have := ((hl.mags i hi).lt hb').1; intro e; injection e with e; omega)).mono (by omega) (by omega), ?_⟩
  exact h.below.grown hg h.below.size (fun k hk => by injection hk with hk; omega)

theorem Opened.none {w w3 : World} {r c : Int} {sl : Value} (h : Opened w w3 r c sl) (u v x : Value) : Below w.heap.size w (stored w3 (w.heap.size + 1) u v x) :=
  h.below.grown (stored_gb w3 (w.heap.size + 1) u v x) h.below.size (fun k hk => by injection hk with hk; omega)

set_option maxHeartbeats 2000000 in
set_option maxRecDepth 100000 in
theorem Reduce_any (r c : Int) (p : Int) (hp : 0 ≤ p) (s : Value) (n : Nat) (x : Nat → Raw) (w : World) (hr : RdL w s n x) :
    Calls Try.prog 35 #[.agg #[.int .i64 r, .int .i64 c, s], .int .u64 p] w fun e w' => ∃ v,
      e = .returned (.tuple #[v, .int .i64 (openE r c n p true)]) ∧ AnsM w' w.heap.size v (openE r c n p true) r.toNat c.toNat (resG p c.toNat x) ∧ Below w.heap.size w w' := by
  obtain ⟨a, cap, rfl, hn⟩ := hr.slice
  have HR := Lib.hid hr
  have HO := Lib.hid (Opened.start w r c (.slice a n cap))
  clear hr
  by_cases he : openE r c n p true = 0
  · obtain ⟨R, C, rfl, rfl, hR, hC, hN, p0, p1, -, -⟩ := openE_ok he
    rw [he, Int.toNat_natCast, Int.toNat_natCast]
    have HE := Lib.hid he
    have HN := Lib.hid hN
    have HGB : Hid (∀ i j, i < R → j < C → 0 ≤ resG p C x i j ∧ resG p C x i j < 2147483648) := fun i j hi hj => by
      have := resG_res p (by omega) R C C x i j hi hj; omega
    clear he hN
    go_enter Try.func35, Try.ntmps35
    go_wp2_with (go_at_call 43; refine (open_any R C a n cap hn p hp true _).mono ?_; rw [HE.out]; rintro e w1 ⟨rfl, hb1⟩)
    have HO := Lib.hid (HO.out.step HO.out.size hb1)
    obtain ⟨x0, x1, x2, ⟨z0, y0⟩, ⟨z1, y1⟩, ⟨z2, y2⟩, hB1, hsz⟩ := HO.out
    have hr1 := Lib.hid (HR.out.below hB1)
    clear hb1
    go_region_with ((first
      | (go_at_call 45; refine (residues_any p (by omega) p1 R C n (by omega) (by omega) HN.out _ x _ (hr1.out.below (Below.refl _ _).drew)).mono ?_; rintro e w2 ⟨gb, B, rfl, hp2, hb2⟩; have HO2 := Lib.hid (HO.out.drew.step hsz hb2); have y0 := HO2.out.x0; have y1 := HO2.out.x1; have y2 := HO2.out.x2)
      | (go_at_call 48; refine (whole_any R C R _ gb 0 B _ _ _ hR hC HGB.out _ (hp2.grid (by omega))).mono ?_; rintro e w3 ⟨lb, M, rfl, hl3, hb3⟩; have hs2 := hb2.size; have HO3 := Lib.hid (HO2.out.step (Nat.le_trans hsz hs2) hb3); obtain ⟨y0, y1, y2, ⟨z0, s0⟩, ⟨z1, s1⟩, ⟨z2, s2⟩, hB3, hsz3⟩ := HO3.out)))
    all_goals
      clear hp2
      go_wp2_with fail
      obtain ⟨o1, o2⟩ := HO3.out.out (.int .i64 R) (.int .i64 C) (.slice (some ⟨lb, 0, none⟩) (R * C) (R * C)) (Nat.le_trans hsz hs2) hl3
      refine bodyPost_ret (v := .tuple #[.agg #[.int .i64 R, .int .i64 C, .slice (some ⟨lb, 0, none⟩) (R * C) (R * C)], .int .i64 0]) ?_ rfl ⟨_, rfl, ⟨fun _ => ⟨lb, M, rfl, o1⟩, fun h => absurd rfl h⟩, o2⟩
      simp [results, Try.results35, go_sem, z0, z1, z2]
  · have hne : (openE r c n p true != 0) = true := by rw [bne_iff_ne]; exact he
    obtain ⟨E, hE⟩ : ∃ E, E = openE r c n p true := ⟨_, rfl⟩
    rw [← hE] at hne ⊢
    have HE := Lib.hid hE.symm
    have HNE : Hid (E ≠ 0) := by rw [hE]; exact he
    clear he hE
    go_enter Try.func35, Try.ntmps35
    go_wp2_with (go_at_call 43; refine (open_any r c a n cap hn p hp true _).mono ?_; rw [HE.out]; rintro e w1 ⟨rfl, hb1⟩; have HO1 := Lib.hid (HO.out.step HO.out.size hb1); obtain ⟨y0, y1, y2, ⟨z0, s0⟩, ⟨z1, s1⟩, ⟨z2, s2⟩, hB3, hsz3⟩ := HO1.out)
    refine bodyPost_ret (v := .tuple #[mat0, .int .i64 E]) ?_ rfl ⟨_, rfl, ⟨fun h => absurd h HNE.out, fun _ => rfl⟩, HO1.out.none (.int .i64 0) (.int .i64 0) (.slice none 0 0)⟩
    simp [results, Try.results35, go_sem, z0, z1, z2, mat0]

end Go.Proofs.Ytdlpemmoobbgnaa

namespace Go.Proofs.Ytdlpemmoobbgnaa
open Go.RowKit

set_option maxHeartbeats 2000000 in
set_option maxRecDepth 100000 in
theorem Echelon_any (r c : Int) (p : Int) (hp : 0 ≤ p) (s : Value) (n : Nat) (x : Nat → Raw) (w : World) (hr : RdL w s n x) :
    Calls Try.prog 25 #[.agg #[.int .i64 r, .int .i64 c, s], .int .u64 p] w fun e w' => ∃ v,
      e = .returned (.tuple #[v, .int .i64 (openE r c n p true)]) ∧ AnsM w' w.heap.size v (openE r c n p true) r.toNat c.toNat (redS p r.toNat c.toNat (resG p c.toNat x) c.toNat).G ∧ Below w.heap.size w w' := by
  obtain ⟨a, cap, rfl, hn⟩ := hr.slice
  have HR := Lib.hid hr
  have HO := Lib.hid (Opened.start w r c (.slice a n cap))
  clear hr
  by_cases he : openE r c n p true = 0
  · obtain ⟨R, C, rfl, rfl, hR, hC, hN, p0, p1, -, -⟩ := openE_ok he
    rw [he, Int.toNat_natCast, Int.toNat_natCast]
    obtain ⟨S, hS⟩ : ∃ S, S = RS.run p R C ⟨resG p C x, [], 1 % p⟩ C := ⟨_, rfl⟩
    rw [show redS p R C (resG p C x) C = S from hS.symm]
    have HE := Lib.hid he
    have HN := Lib.hid hN
    have HS := Lib.hid hS
    have HGB : Hid (∀ i j, i < R → j < C → 0 ≤ S.G i j ∧ S.G i j < 2147483648) := fun i j hi hj => by
      have := redS_res p0 (resG_res p (by omega) R C C x) C i j hi hj
      rw [show redS p R C (resG p C x) C = S from hS.symm] at this; omega
    clear he hN hS
    go_enter Try.func25, Try.ntmps25
    go_wp2_with (first
      | (go_at_call 43; refine (open_any R C a n cap hn p hp true _).mono ?_; rw [HE.out]; rintro e w1 ⟨rfl, hb1⟩; have HO := Lib.hid (HO.out.step HO.out.size hb1); obtain ⟨x0, x1, x2, ⟨z0, y0⟩, ⟨z1, y1⟩, ⟨z2, y2⟩, hB1, hsz⟩ := HO.out; have hr1 := Lib.hid (HR.out.below hB1); clear hb1)
      | (go_at_call 45; refine (residues_any p (by omega) p1 R C n (by omega) (by omega) HN.out _ x _ hr1.out).mono ?_; rintro e w2 ⟨gb, B, rfl, hp2, hb2⟩; have HO2 := Lib.hid (HO.out.step hsz hb2); have y0 := HO2.out.x0; have y1 := HO2.out.x1; have y2 := HO2.out.x2)
      | (go_at_call 44; refine (reduce_any p p0 p1 R C C R _ gb 0 B _ _ (resG p C x) (by omega) (by omega) (Nat.le_refl _) (resG_res p (by omega) R C C x) _ (hp2.grid (by omega)) hb2.size).mono ?_; rw [← HS.out]; rintro e w3 ⟨B', O', C', pv, rfl, hg3, ho3, hb3⟩; obtain ⟨pa, pc, rfl⟩ := own_slice ho3; have HO3 := Lib.hid (HO2.out.step hsz hb3); have y0 := HO3.out.x0; have y1 := HO3.out.x1; have y2 := HO3.out.x2)
      | (go_at_call 48; refine (whole_any R C R _ gb 0 B' _ _ _ hR hC HGB.out _ hg3).mono ?_; rintro e w4 ⟨lb, M, rfl, hl4, hb4⟩; have hs3 := HO3.out.size; have HO4 := Lib.hid (HO3.out.step hs3 hb4); obtain ⟨y0, y1, y2, ⟨z0, s0⟩, ⟨z1, s1⟩, ⟨z2, s2⟩, hB4, hsz4⟩ := HO4.out))
    obtain ⟨o1, o2⟩ := HO4.out.out (.int .i64 R) (.int .i64 C) (.slice (some ⟨lb, 0, none⟩) (R * C) (R * C)) hs3 hl4
    refine bodyPost_ret (v := .tuple #[.agg #[.int .i64 R, .int .i64 C, .slice (some ⟨lb, 0, none⟩) (R * C) (R * C)], .int .i64 0]) ?_ rfl ⟨_, rfl, ⟨fun _ => ⟨lb, M, rfl, o1⟩, fun h => absurd rfl h⟩, o2⟩
    simp [results, Try.results25, go_sem, z0, z1, z2]
  · have hne : (openE r c n p true != 0) = true := by rw [bne_iff_ne]; exact he
    obtain ⟨E, hE⟩ : ∃ E, E = openE r c n p true := ⟨_, rfl⟩
    rw [← hE] at hne ⊢
    have HE := Lib.hid hE.symm
    have HNE : Hid (E ≠ 0) := by rw [hE]; exact he
    clear he hE
    go_enter Try.func25, Try.ntmps25
    go_wp2_with (go_at_call 43; refine (open_any r c a n cap hn p hp true _).mono ?_; rw [HE.out]; rintro e w1 ⟨rfl, hb1⟩; have HO1 := Lib.hid (HO.out.step HO.out.size hb1); obtain ⟨y0, y1, y2, ⟨z0, s0⟩, ⟨z1, s1⟩, ⟨z2, s2⟩, hB3, hsz3⟩ := HO1.out)
    refine bodyPost_ret (v := .tuple #[mat0, .int .i64 E]) ?_ rfl ⟨_, rfl, ⟨fun h => absurd h HNE.out, fun _ => rfl⟩, HO1.out.none (.int .i64 0) (.int .i64 0) (.slice none 0 0)⟩
    simp [results, Try.results25, go_sem, z0, z1, z2, mat0]

end Go.Proofs.Ytdlpemmoobbgnaa
