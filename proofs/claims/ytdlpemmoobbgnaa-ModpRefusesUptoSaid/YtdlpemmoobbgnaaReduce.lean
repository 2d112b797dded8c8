/- The walk of modp's elimination: reduce. -/
import Derived.Test.YtdlpemmoobbgnaaModp2
import Derived.Test.YtdlpemmoobbgnaaRed
import Derived.StillTailTactics
import Derived.Deep.LoopGhost
import Derived.Deep.DeepCutAuto
set_option linter.unusedVariables false
set_option linter.unusedSimpArgs false
namespace Go.Proofs.Ytdlpemmoobbgnaa
open Go.RowKit

theorem infoInt : (Try.prog.info? 3).map (fun i => (i.zero, i.size, i.bytes)) = some (some (.int .i64 0), 1, 8) := by kernel_rfl

def ints (l : List Nat) : List Value := l.map fun c : Nat => Value.int .i64 (c : Int)

theorem swap_rel {m n gb go base B0 e size r l : Nat} {w wr : World} {B O C : Nat → Nat} {G G1 : Nat → Nat → Int} {v : Value} {nn : Nat} {xs : List Value} {d d' : Int} (hB0 : B0 = w.heap.size)
    (hl : l < m) (hr : r < m) (hgr : GridAt .u64 wr base gb go m n B O C G) (HB : Hid (∀ i, i < m → B i < B0)) (hG1 : G1 = swF l r G) (hd : d = d') (hgb : gb < B0)
    (hown : wr.ownsRow B0 e size v nn xs) (hbel : Below base w wr) (hsz : B0 ≤ wr.heap.size) :
    ∃ B' O' C', Hid (∀ i, i < m → B' i < B0) ∧ GridAt .u64 ((wr.setCell ⟨gb, go + l, none⟩ (.slice (some ⟨B r, O r, none⟩) n (C r))).setCell ⟨gb, go + r, none⟩ (.slice (some ⟨B l, O l, none⟩) n (C l))).drew base gb go m n B' O' C' G1 ∧
      Value.int .u64 d = Value.int .u64 d' ∧
      ((wr.setCell ⟨gb, go + l, none⟩ (.slice (some ⟨B r, O r, none⟩) n (C r))).setCell ⟨gb, go + r, none⟩ (.slice (some ⟨B l, O l, none⟩) n (C l))).drew.ownsRow B0 e size v nn xs ∧
      Below base w ((wr.setCell ⟨gb, go + l, none⟩ (.slice (some ⟨B r, O r, none⟩) n (C r))).setCell ⟨gb, go + r, none⟩ (.slice (some ⟨B l, O l, none⟩) n (C l))).drew ∧
      B0 ≤ ((wr.setCell ⟨gb, go + l, none⟩ (.slice (some ⟨B r, O r, none⟩) n (C r))).setCell ⟨gb, go + r, none⟩ (.slice (some ⟨B l, O l, none⟩) n (C l))).drew.heap.size := by
  have hs := hgr.swap hl hr rfl
  have hg : wr.grownBy ((wr.setCell ⟨gb, go + l, none⟩ (.slice (some ⟨B r, O r, none⟩) n (C r))).setCell ⟨gb, go + r, none⟩ (.slice (some ⟨B l, O l, none⟩) n (C l))) (some gb) := gb_trans (gb_set _ _ _) (gb_set _ _ _)
  have ho := hown.kept hg (own_block hown hgb)
  have hb := (hbel.setCell (p := ⟨gb, go + l, none⟩) hgr.ownG (.slice (some ⟨B r, O r, none⟩) n (C r))).setCell (p := ⟨gb, go + r, none⟩) hgr.ownG (.slice (some ⟨B l, O l, none⟩) n (C l))
  have hz := hg.size
  generalize ((wr.setCell ⟨gb, go + l, none⟩ (.slice (some ⟨B r, O r, none⟩) n (C r))).setCell ⟨gb, go + r, none⟩ (.slice (some ⟨B l, O l, none⟩) n (C l))) = W at *
  subst hG1
  exact ⟨_, _, _, fun i hi => HB.out _ (sw_lt hl hr hi), hs.drew, by rw [hd], ho.drew, hb.drew, Nat.le_trans hsz hz⟩

theorem row_rel {m n gb go base B0 e size i : Nat} {w w2 w3 : World} {B O C : Nat → Nat} {G : Nat → Nat → Int} {v : Value} {nn : Nat} {xs : List Value} {f : Nat → Int}
    (hi : i < m) (hgr : GridAt .u64 w2 base gb go m n B O C G) (HB : Hid (∀ i, i < m → B i < B0)) (hown : w2.ownsRow B0 e size v nn xs) (hbel : Below base w w2) (hsz : B0 ≤ w2.heap.size)
    (hf : RowAt .u64 w3 (B i) (O i) n f) (hg : w2.grownBy w3 (some (B i))) :
    GridAt .u64 w3 base gb go m n B O C (fun l c => if l = i then f c else G l c) ∧ w3.ownsRow B0 e size v nn xs ∧ Below base w w3 ∧ B0 ≤ w3.heap.size := by
  have hlt := hgr.lt i hi
  have ho := hgr.own i hi
  exact ⟨hgr.upd hi hf hg, hown.kept hg (own_block hown (HB.out i hi)), hbel.grown hg (by omega) (fun k hk => by injection hk with hk; omega), Nat.le_trans hsz hg.size⟩

theorem elim_zero (p : Int) (j n r : Nat) (G : Nat → Nat → Int) : elimF p j n r G 0 = G := by
  funext i; unfold elimF; rw [if_neg (by omega)]
theorem elim_at (p : Int) (j n r : Nat) (G : Nat → Nat → Int) (k : Nat) : elimF p j n r G k k = G k := by unfold elimF; rw [if_neg (by omega)]
theorem elim_r (p : Int) (j n r : Nat) (G : Nat → Nat → Int) (k : Nat) : elimF p j n r G k r = G r := by unfold elimF; rw [if_neg (by omega)]
theorem elim_skip (p : Int) (j n r : Nat) (G : Nat → Nat → Int) : elimF p j n r G (r + 1) = elimF p j n r G r := by
  funext i; unfold elimF
  by_cases h : i < r ∧ i ≠ r
  · rw [if_pos h, if_pos (by omega)]
  · rw [if_neg h, if_neg (by omega)]
theorem elim_next (p : Int) (j n r : Nat) (G : Nat → Nat → Int) (k : Nat) (hk : k ≠ r) (l c : Nat) :
    (if l = k then takeF p (G k j) j n (G k) (G r) c else elimF p j n r G k l c) = elimF p j n r G (k + 1) l c := by
  unfold elimF
  by_cases h : l = k
  · subst h; rw [if_pos rfl, if_pos (by omega)]
  · rw [if_neg h]
    by_cases h2 : l < k ∧ l ≠ r
    · rw [if_pos h2, if_pos (by omega)]
    · rw [if_neg h2, if_neg (by omega)]

theorem app_rel {m n gb go base B0 e size : Nat} {w wr w1 : World} {B O C : Nat → Nat} {G : Nat → Nat → Int} {v : Value} {nn : Nat} {xs : List Value} {X : Obj} (hB0 : base ≤ B0) (hgb : gb < B0)
    (hgr : GridAt .u64 wr base gb go m n B O C G) (HB : Hid (∀ i, i < m → B i < B0)) (hown : wr.ownsRow B0 e size v nn xs) (hbel : Below base w wr) (hsz : B0 ≤ wr.heap.size)
    (hg : (wr.alloc X).grownBy w1 v.ownBlock) : GridAt .u64 w1 base gb go m n B O C G ∧ Below base w w1 ∧ B0 ≤ w1.heap.size := by
  have hb2 := hbel.alloc (by omega) X
  have hgr2 := hgr.grown (World.grownBy_alloc wr X none) (by simp) (fun _ _ => by simp)
  have hlt := fun k hk => (hown.lt k hk).1
  have hz := hg.size
  have hz2 : (wr.alloc X).heap.size = wr.heap.size + 1 := by simp
  refine ⟨hgr2.grown hg ?_ (fun i hi => ?_), hb2.grown hg (by omega) (fun k hk => Nat.le_trans hB0 (hlt k hk)), by omega⟩
  · intro e; have := hlt gb e.symm; omega
  · intro e; have := hlt (B i) e.symm; have := HB.out i hi; omega

theorem ints_snoc (l : List Nat) (j : Nat) : ints (l ++ [j]) = ints l ++ [.int .i64 (j : Int)] := by unfold ints; rw [List.map_append]; rfl

set_option maxHeartbeats 4000000 in
set_option maxRecDepth 100000 in
theorem reduce_any (p : Int) (h1 : 2 ≤ p) (h2 : p < 2147483648) (m n cols cap base gb go : Nat) (B O C : Nat → Nat) (G : Nat → Nat → Int) (hm : m ≤ 1048576) (hn : n ≤ 1048576) (hc : cols ≤ n)
    (hres : Res p m n G) (w : World) (hg : GridAt .u64 w base gb go m n B O C G) (hbase : base ≤ w.heap.size) :
    Calls Try.prog 44 #[.int .u64 p, .slice (some ⟨gb, go, none⟩) m cap, .int .i64 cols] w fun e w' =>
      ∃ B' O' C' pv, e = .returned (.tuple #[pv, .int .u64 (RS.run p m n ⟨G, [], 1 % p⟩ cols).d]) ∧ GridAt .u64 w' base gb go m n B' O' C' (RS.run p m n ⟨G, [], 1 % p⟩ cols).G ∧
        w'.ownsRow w.heap.size 3 1 pv (RS.run p m n ⟨G, [], 1 % p⟩ cols).P.length (ints (RS.run p m n ⟨G, [], 1 % p⟩ cols).P) ∧ Below base w w' := by
  obtain ⟨i0, hi, hz0, hz1, hz2⟩ := info_parts infoInt
  have HI := Lib.hid hi
  have HZ0 := Lib.hid hz0
  have HZ1 := Lib.hid hz1
  have HZ2 := Lib.hid hz2
  have HR := Lib.hid hres
  have hgb : 0 < m → gb < w.heap.size := fun h0 => hg.ltG h0
  have HG := Lib.hid hg
  obtain ⟨S, hS⟩ : ∃ S : Nat → RS, S = RS.run p m n ⟨G, [], 1 % p⟩ := ⟨_, rfl⟩
  rw [← hS]
  have HS := Lib.hid hS
  clear hi hz0 hz1 hz2 hres hg hS
  go_enter Try.func44, Try.ntmps44
  go_wp2_with fail
  go_loopg [6, 7, 8] (cols + 1) (fun gk pv dv jv wr => ∃ (j : Nat) (B O C : Nat → Nat), Hid (∀ i, i < m → B i < w.heap.size) ∧ j ≤ cols ∧ cols + 1 ≤ j + gk ∧ jv = .int .i64 j ∧ dv = .int .u64 (S j).d ∧ GridAt .u64 wr base gb go m n B O C (S j).G ∧
      wr.ownsRow w.heap.size 3 1 pv (S j).P.length (ints (S j).P) ∧ Below base w wr ∧ w.heap.size ≤ wr.heap.size)
  case atStart => 
    refine ⟨0, B, O, C, HG.out.lt, by omega, by omega, rfl, ?_, ?_, ?_, Below.refl _ _, Nat.le_refl _⟩
    · rw [HS.out]; rfl
    · rw [HS.out]; exact HG.out
    · rw [HS.out]; exact World.ownsRow_nil w w.heap.size 3 1
  case round =>
    obtain ⟨j, B, O, C, HB, j1, jg, rfl, rfl, hgr, hown, hbel, hsz⟩ := hrel
    have hl : (S j).P.length ≤ m := by rw [HS.out]; exact RS.run_len (Nat.zero_le _) j
    have hdd : 0 ≤ (S j).d ∧ (S j).d < p := by rw [HS.out]; exact RS.run_d (by omega) (md.mod_bd 1 p (by omega)) j
    have hrs : Res p m n (S j).G := by rw [HS.out]; exact RS.run_res (by omega) (Nat.zero_le _) HR.out j
    have hnext : S (j + 1) = (S j).step p m n j := by rw [HS.out]; rfl
    have hlast : (S j).P.length = m → S cols = S j := by
      intro e
      rw [HS.out] at e ⊢
      have := RS.run_full e (cols - j)
      rwa [show j + (cols - j) = cols by omega] at this
    obtain ⟨a, pc, rfl⟩ := own_slice hown
    obtain ⟨s, hs⟩ : ∃ s, s = S j := ⟨_, rfl⟩
    rw [← hs] at hl hdd hrs hnext hlast hgr hown ⊢
    obtain ⟨r, hr⟩ : ∃ r, r = s.P.length := ⟨_, rfl⟩
    rw [← hr] at hl hlast hown ⊢
    obtain ⟨d, hd⟩ : ∃ d, d = s.d := ⟨_, rfl⟩
    rw [← hd] at hdd ⊢
    obtain ⟨hd0, hd1⟩ := hdd
    have HD := Lib.hid hd
    have Hr := Lib.hid hr
    have Hs := Lib.hid hs
    have HN := Lib.hid hnext
    have HL := Lib.hid hlast
    have HRS := Lib.hid hrs
    clear hd hr hs hnext hlast hrs
    by_cases hjc : j < cols
    · by_cases hrm : r < m
      · have hjn : j < n := by omega
        have hgb := hgb (by omega)
        obtain ⟨i, hi⟩ : ∃ i, i = fnd s.G j (m - r) r := ⟨_, rfl⟩
        have hi0 := fnd_bd s.G j (m - r) r
        have hi1 := fnd_ne s.G j (m - r) r
        rw [← hi] at hi0 hi1
        obtain ⟨i1, i2⟩ := hi0
        have H1 := Lib.hid hi1
        have H0 := Lib.hid hi
        clear hi hi1
        go_wp2_with fail
        go_loop [10] (fun v => ∃ l : Nat, r ≤ l ∧ l ≤ m ∧ Hid (fnd s.G j (m - l) l = i) ∧ v = .int .i64 l) (fun v => m - (intOf v).toNat)
        case atStart => exact ⟨r, Nat.le_refl _, by omega, H0.out.symm, rfl⟩
        case round =>
          obtain ⟨l, l1, l2, hl, rfl⟩ := hrel
          by_cases hlm : l < m
          · obtain ⟨c1, _⟩ := hgr.cells l hlm
            obtain ⟨x, hx⟩ : ∃ x, x = s.G l j := ⟨_, rfl⟩
            obtain ⟨c2, _⟩ := (hgr.rows l hlm).get hjn hx.symm
            have hcap := hgr.caps l hlm
            have HX := Lib.hid hx
            clear hx
            by_cases hz : x = 0
            · have hzb : (x == 0) = true := beq_iff_eq.2 hz
              have HZ := Lib.hid hz
              clear hz
              go_wp2_with fail
              go_round
              case rel =>
                refine ⟨l + 1, by omega, by omega, ?_, by go_num⟩
                show _ = _
                rw [← hl.out, show m - l = (m - (l + 1)) + 1 by omega]
                show _ = if s.G l j = 0 then _ else _
                rw [if_pos (by rw [← HX.out]; exact HZ.out)]
              case measure => simp [intOf]; omega
            · have hzb : (x == 0) = false := beq_eq_false_iff_ne.2 hz
              have e : l = i := by
                rw [← hl.out, show m - l = (m - (l + 1)) + 1 by omega]
                show _ = if s.G l j = 0 then _ else _
                rw [if_neg (by rw [← HX.out]; exact hz)]
              subst e
              have HZ := Lib.hid hz
              clear hz
              obtain ⟨d', hd'⟩ : ∃ d', d' = if l = r then d else (p - d) % p := ⟨_, rfl⟩
              obtain ⟨G1, hG1⟩ : ∃ G1, G1 = swF l r s.G := ⟨_, rfl⟩
              have HD' := Lib.hid hd'
              have HG1 := Lib.hid hG1
              clear hd' hG1
              go_upto_if 51 with fail
              go_cut [7] (fun dv wx => ∃ B' O' C', Hid (∀ i, i < m → B' i < w.heap.size) ∧ GridAt .u64 wx base gb go m n B' O' C' G1 ∧ dv = .int .u64 d' ∧
                wx.ownsRow w.heap.size 3 1 (.slice a r pc) r (ints s.P) ∧ Below base w wx ∧ w.heap.size ≤ wx.heap.size)
              case first =>
                by_cases hlr : l = r
                · have e1 : Hid (d' = d) := HD'.out.trans (if_pos hlr)
                  have e2 : Hid (G1 = s.G) := by rw [HG1.out, hlr]; exact swF_self r s.G
                  have hlr' : ((l : Int) != r) = false := by rw [bne_eq_false_iff_eq]; omega
                  clear hlr
                  go_wp2_with fail
                  go_meet
                  exact ⟨B, O, C, HB, by rw [e2.out]; exact hgr, by rw [e1.out], hown, hbel, hsz⟩
                · have hlr' : ((l : Int) != r) = true := by rw [bne_iff_ne]; omega
                  have e1 : Hid (d' = (p - d) % p) := HD'.out.trans (if_neg hlr)
                  obtain ⟨c3, c4⟩ := hgr.cells r hrm
                  obtain ⟨c5, c6⟩ := hgr.cells l hlm
                  have c7 : (wr.setCell ⟨gb, go + l, none⟩ (.slice (some ⟨B r, O r, none⟩) n (C r))).cell? ⟨gb, go + r, none⟩ = some (.slice (some ⟨B r, O r, none⟩) n (C r)) := by
                    rw [World.cell?_setCell_other _ _ _ _ (by intro e'; injection e' with _ e3 _; omega)]; exact c3
                  have c8 : (wr.setCell ⟨gb, go + r, none⟩ (.slice (some ⟨B l, O l, none⟩) n (C l))).cell? ⟨gb, go + l, none⟩ = some (.slice (some ⟨B l, O l, none⟩) n (C l)) := by
                    rw [World.cell?_setCell_other _ _ _ _ (by intro e'; injection e' with _ e3 _; omega)]; exact c5
                  clear hlr
                  go_wp2_with fail
                  go_region
                  go_wp2_with fail
                  go_meet
                  exact swap_rel rfl hlm hrm hgr HB HG1.out e1.out.symm hgb hown hbel hsz
              case rest => 
                clear c1 c2 hcap HX hzb H1 hl HZ hgr hown hbel hsz
                obtain ⟨B, O, C, HB, hgr, rfl, hown, hbel, hsz⟩ := hcut
                have hd2 : 0 ≤ d' ∧ d' < p := by
                  rw [HD'.out]; split
                  · exact ⟨hd0, hd1⟩
                  · exact md.mod_bd _ p (by omega)
                have hres1 : Res p m n G1 := by rw [HG1.out]; exact HRS.out.sw hlm hrm
                obtain ⟨y, hy⟩ : ∃ y, y = G1 r j := ⟨_, rfl⟩
                obtain ⟨y0, y1⟩ := hres1 r j hrm hjn
                obtain ⟨c1, _⟩ := hgr.cells r hrm
                obtain ⟨c2, _⟩ := (hgr.rows r hrm).get hjn hy.symm
                have hcap := hgr.caps r hrm
                rw [← hy] at y0 y1
                obtain ⟨q1, q2⟩ := md.prod_bd d' y p hd2.1 hd2.2 y0 y1 h2
                have HY := Lib.hid hy
                have HRS1 := Lib.hid hres1
                have HB' := Lib.hid hgr
                clear hy hres1
                go_wp2_with fail
                refine wp_region_still_tail 15 (by kernel_rfl) (by kernel_rfl) ?_
                simp only [List.take_succ_cons, List.take_zero, List.drop_succ_cons, List.drop_zero]
                repeat still_step
                still_call ((inverse_any p y h1 h2 y0 y1 _).mono fun _ _ h => ⟨h.1, h.2.symm⟩)
                repeat still_step
                refine wpStill_nil ?_
                change wpList _ _ _ _ _ wc.drew
                have hgr := hgr.drew
                have hown := hown.drew
                have hbel := hbel.drew
                have hsz : w.heap.size ≤ wc.drew.heap.size := hsz
                generalize wc.drew = w2 at hgr hown hbel hsz ⊢
                obtain ⟨v0, v1⟩ := md.mod_bd (y ^ (p - 2).toNat) p (by omega)
                go_wp2_with (go_at_call 72; refine (scale_any p (invm p y) (by omega) h2 v0 v1 (B r) (O r) n (C r) j (G1 r) (by omega) (by omega) (fun i hi => HRS1.out r i hrm hi) _ (hgr.rows r hrm)).mono ?_; rintro e w3 ⟨rfl, hf3, hg3⟩)
                obtain ⟨hgr, hown, hbel, hsz⟩ := row_rel hrm hgr HB hown hbel hsz hf3 hg3
                obtain ⟨G2, hG2⟩ : ∃ G2, G2 = scF p j r G1 := ⟨_, rfl⟩
                have hgr : GridAt .u64 w3 base gb go m n B O C G2 := by
                  rw [hG2]; unfold scF; rw [← HY.out]; exact hgr
                have hres2 : Hid (Res p m n G2) := by rw [hG2]; exact HRS1.out.sc (by omega)
                have HG2 := Lib.hid hG2
                clear hG2 hf3 hg3 c1 c2 hcap HB' v0 v1 q1 q2 y0 y1
                go_loopw [100] (fun kv wr => ∃ k : Nat, k ≤ m ∧ kv = .int .i64 k ∧ GridAt .u64 wr base gb go m n B O C (elimF p j n r G2 k) ∧
                    wr.ownsRow w.heap.size 3 1 (.slice a r pc) r (ints s.P) ∧ Below base w wr ∧ w.heap.size ≤ wr.heap.size)
                  (fun kv _ => m - (intOf kv).toNat)
                case atStart => exact ⟨0, by omega, rfl, by rw [elim_zero]; exact hgr, hown, hbel, hsz⟩
                case round =>
                  clear hgr hown hbel hsz
                  obtain ⟨k, k1, rfl, hgr, hown, hbel, hsz⟩ := hrel
                  by_cases hkm : k < m
                  · by_cases hkr : k = r
                    · subst hkr
                      go_wp2_with fail
                      go_roundw
                      case rel => exact ⟨k + 1, by omega, by go_num, by rw [elim_skip]; exact hgr, hown, hbel, hsz⟩
                      case measure => simp [intOf]; omega
                    · have hkb : ((k : Int) != r) = true := by rw [bne_iff_ne]; omega
                      have hap : Hid (B k ≠ B r) := fun e => hkr (hgr.apart k r hkm hrm e)
                      have HKR := Lib.hid hkr
                      clear hkr
                      have hr1 := (hgr.rows k hkm).congr (g := G2 k) fun i _ => by rw [elim_at]
                      have hr2 := (hgr.rows r hrm).congr (g := G2 r) fun i _ => by rw [elim_r]
                      obtain ⟨z, hz⟩ : ∃ z, z = G2 k j := ⟨_, rfl⟩
                      obtain ⟨z0, z1⟩ := hres2.out k j hkm hjn
                      obtain ⟨c1, _⟩ := hgr.cells r hrm
                      obtain ⟨c2, _⟩ := hgr.cells k hkm
                      obtain ⟨c3, _⟩ := hr1.get hjn hz.symm
                      have hcap := hgr.caps r hrm
                      have hcap' := hgr.caps k hkm
                      rw [← hz] at z0 z1
                      have HZ := Lib.hid hz
                      have hr1 := Lib.hid hr1
                      have hr2 := Lib.hid hr2
                      clear hz
                      go_wp2_with fail
                      refine wp_region_still_tail 17 (by kernel_rfl) (by kernel_rfl) ?_
                      simp only [List.take_succ_cons, List.take_zero, List.drop_succ_cons, List.drop_zero]
                      repeat still_step
                      refine wpStill_nil ?_
                      change wpList _ _ _ _ _ wr.drew
                      have hgr := hgr.drew
                      have hr1 : Hid (RowAt .u64 wr.drew (B k) (O k) n (G2 k)) := hr1.out.block rfl
                      have hr2 : Hid (RowAt .u64 wr.drew (B r) (O r) n (G2 r)) := hr2.out.block rfl
                      have hown := hown.drew
                      have hbel := hbel.drew
                      have hsz : w.heap.size ≤ wr.drew.heap.size := hsz
                      generalize wr.drew = w4 at hgr hown hbel hsz hr1 hr2 ⊢
                      go_wp2_with (go_at_call 56; refine (take_any p z (by omega) h2 z0 z1 (B k) (O k) (C k) (B r) (O r) (C r) n n j (G2 k) (G2 r) (by omega) (by omega) (by omega) (by omega) hap.out (fun i hi => hres2.out k i hkm hi) (fun i hi => hres2.out r i hrm hi) _ hr1.out hr2.out).mono ?_; rintro e w5 ⟨rfl, hf5, hg5⟩)
                      obtain ⟨hgr, hown, hbel, hsz⟩ := row_rel hkm hgr HB hown hbel hsz hf5 hg5
                      go_roundw
                      case rel =>
                        refine ⟨k + 1, by omega, by go_num, hgr.congr fun l c _ _ => ?_, hown, hbel, hsz⟩
                        rw [HZ.out]
                        exact elim_next p j n r G2 k HKR.out l c
                      case measure => simp [intOf]; omega
                  · obtain rfl : k = m := by omega
                    go_wp2_with (at_builtin; refine wpList_append_own _ rfl _ _ 45 rfl w.heap.size 3 i0 (.int .i64 0) 1 8 Try.underlying45 HI.out HZ0.out HZ1.out HZ2.out rfl (by decide) _ _ _ rfl (hown.alloc _) ⟨wr.heap.size, 0, none⟩ 1 1 [.int .i64 (j : Int)] rfl rfl ?c1 ?c2 ?c3 ?c4 ?c5 ?_)
                    case c1 =>
                      intro i u hi
                      match i, hi with
                      | 0, hi => simp at hi; subst hi; simp [Addr.add]
                    case c2 => intro u hu; simp at hu; subst hu; rfl
                    case c3 => unfold maxLen; omega
                    case c4 => omega
                    case c5 => simp; omega
                    · intro v' w1 hown' hgrow _
                      obtain ⟨hgr', hbel', hsz'⟩ := app_rel hbase (hgb (by omega)) hgr HB hown hbel hsz hgrow
                      clear hgr hown hbel hsz hgrow
                      go_wp2_with fail
                      go_roundg (cols - j)
                      case measure => omega
                      case rel =>
                        have e : S (j + 1) = { G := elimF p j n r G2 k, P := s.P ++ [j], d := d' * y % p } := by
                          rw [HN.out]; unfold RS.step; simp only; rw [← Hr.out, ← H0.out, if_neg (by omega), HG2.out, HG1.out, HD'.out, HD.out, HY.out, HG1.out]
                        refine ⟨j + 1, B, O, C, HB, by omega, by omega, by go_num, by rw [e], by rw [e]; exact hgr', ?_, hbel', hsz'⟩
                        rw [e, ints_snoc, List.length_append, ← Hr.out]
                        exact hown'
          · obtain rfl : l = m := by omega
            have e : i = l := by
              rw [← hl.out, Nat.sub_self]; rfl
            subst e
            go_wp2_with fail
            go_roundg (cols - j)
            case measure => omega
            case rel =>
              have e : S (j + 1) = s := by
                rw [HN.out]; unfold RS.step; simp only; rw [← Hr.out, ← H0.out, if_pos rfl]
              refine ⟨j + 1, B, O, C, HB, by omega, by omega, by go_num, by rw [e, ← HD.out], by rw [e]; exact hgr, by rw [e, ← Hr.out]; exact hown, hbel, hsz⟩
      · have e : Hid (S cols = s) := HL.out (by omega)
        go_wp2_with fail
        go_ret2
        refine ⟨B, O, C, .slice a r pc, ?_, ?_, ?_, hbel⟩
        · rw [e.out, ← HD.out]; rfl
        · rw [e.out]; exact hgr
        · rw [e.out, ← Hr.out]; exact hown
    · obtain rfl : j = cols := by omega
      go_wp2_with fail
      go_ret2
      refine ⟨B, O, C, .slice a r pc, ?_, ?_, ?_, hbel⟩
      · rw [← Hs.out, ← HD.out]; rfl
      · rw [← Hs.out]; exact hgr
      · rw [← Hs.out, ← Hr.out]; exact hown
end Go.Proofs.Ytdlpemmoobbgnaa
