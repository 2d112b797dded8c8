/- The elimination of modp, as a function on matrices of residues. -/
import Derived.Test.YtdlpemmoobbgnaaModA
import Derived.Test.YtdlpemmoobbgnaaGrid
import Derived.Test.YtdlpemmoobbgnaaModp1
set_option linter.unusedVariables false
set_option linter.unusedSimpArgs false
namespace Go.Proofs.Ytdlpemmoobbgnaa

structure RS where
  G : Nat → Nat → Int
  P : List Nat
  d : Int

/-- the first row from i on (of those that are left) whose place in column j is not 0 -/
def fnd (G : Nat → Nat → Int) (j : Nat) : Nat → Nat → Nat
  | 0, i => i
  | f + 1, i => if G i j = 0 then fnd G j f (i + 1) else i

theorem fnd_bd (G : Nat → Nat → Int) (j : Nat) : ∀ f i, i ≤ fnd G j f i ∧ fnd G j f i ≤ i + f
  | 0, i => by simp [fnd]
  | f + 1, i => by
    unfold fnd
    split
    · have := fnd_bd G j f (i + 1); omega
    · omega

theorem fnd_ne (G : Nat → Nat → Int) (j : Nat) : ∀ f i, fnd G j f i < i + f → G (fnd G j f i) j ≠ 0
  | 0, i => by simp [fnd]
  | f + 1, i => by
    unfold fnd
    split
    · intro h; exact fnd_ne G j f (i + 1) (by omega)
    · intro _; assumption

theorem fnd_zero (G : Nat → Nat → Int) (j : Nat) : ∀ f i l, i ≤ l → l < fnd G j f i → G l j = 0
  | 0, i, l => by simp [fnd]; omega
  | f + 1, i, l => by
    unfold fnd
    split
    · intro h1 h2
      by_cases e : l = i
      · subst e; assumption
      · exact fnd_zero G j f (i + 1) l (by omega) h2
    · intro h1 h2; omega

/-- scaled from the column j on -/
def scaleF (p x : Int) (j : Nat) (f : Nat → Int) : Nat → Int := fun c => if j ≤ c then f c * x % p else f c
/-- less a multiple of another row, in the columns j to n - 1 -/
def takeF (p x : Int) (j n : Nat) (f g : Nat → Int) : Nat → Int := fun c => if j ≤ c ∧ c < n then (f c + g c * (p - x)) % p else f c

/-- the rows before k are done -/
def elimF (p : Int) (j n r : Nat) (G : Nat → Nat → Int) (k : Nat) : Nat → Nat → Int :=
  fun i => if i < k ∧ i ≠ r then takeF p (G i j) j n (G i) (G r) else G i

def swF (i r : Nat) (G : Nat → Nat → Int) : Nat → Nat → Int := fun l => G (sw i r l)
def scF (p : Int) (j r : Nat) (G : Nat → Nat → Int) : Nat → Nat → Int := fun l c => if l = r then scaleF p (invm p (G r j)) j (G r) c else G l c

theorem swF_self (i : Nat) (G : Nat → Nat → Int) : swF i i G = G := by funext l; unfold swF; rw [sw_self]

/-- one column -/
def RS.step (p : Int) (m n j : Nat) (s : RS) : RS :=
  let r := s.P.length
  let i := fnd s.G j (m - r) r
  if i = m then s else
    { G := elimF p j n r (scF p j r (swF i r s.G)) m
      P := s.P ++ [j]
      d := (if i = r then s.d else (p - s.d) % p) * swF i r s.G r j % p }

def RS.run (p : Int) (m n : Nat) (s : RS) : Nat → RS
  | 0 => s
  | j + 1 => (RS.run p m n s j).step p m n j

def Res (p : Int) (m n : Nat) (G : Nat → Nat → Int) : Prop := ∀ i j, i < m → j < n → 0 ≤ G i j ∧ G i j < p

theorem scaleF_bd {p x : Int} (hp : 1 ≤ p) {j c : Nat} {f : Nat → Int} (h : 0 ≤ f c ∧ f c < p) : 0 ≤ scaleF p x j f c ∧ scaleF p x j f c < p := by
  unfold scaleF; split
  · exact md.mod_bd _ p hp
  · exact h
theorem takeF_bd {p x : Int} (hp : 1 ≤ p) {j n c : Nat} {f g : Nat → Int} (h : 0 ≤ f c ∧ f c < p) : 0 ≤ takeF p x j n f g c ∧ takeF p x j n f g c < p := by
  unfold takeF; split
  · exact md.mod_bd _ p hp
  · exact h
theorem Res.sw {p : Int} {m n i r : Nat} {G : Nat → Nat → Int} (h : Res p m n G) (hi : i < m) (hr : r < m) : Res p m n (swF i r G) := fun l c hl hc => h _ c (sw_lt hi hr hl) hc
theorem Res.sc {p : Int} {m n j r : Nat} {G : Nat → Nat → Int} (hp : 1 ≤ p) (h : Res p m n G) : Res p m n (scF p j r G) := by
  intro l c hl hc
  unfold scF; split
  · rename_i e; subst e; exact scaleF_bd hp (h _ c hl hc)
  · exact h l c hl hc
theorem Res.elim {p : Int} {m n j r k : Nat} {G : Nat → Nat → Int} (hp : 1 ≤ p) (h : Res p m n G) : Res p m n (elimF p j n r G k) := by
  intro l c hl hc
  unfold elimF; split
  · exact takeF_bd hp (h _ c hl hc)
  · exact h l c hl hc

theorem RS.step_len {p : Int} {m n j : Nat} {s : RS} (h : s.P.length ≤ m) : (s.step p m n j).P.length ≤ m := by
  unfold RS.step
  have := (fnd_bd s.G j (m - s.P.length) s.P.length)
  simp only
  split
  · exact h
  · simp; omega

theorem RS.run_len {p : Int} {m n : Nat} {s : RS} (h : s.P.length ≤ m) : ∀ j, (s.run p m n j).P.length ≤ m
  | 0 => h
  | j + 1 => RS.step_len (RS.run_len h j)

theorem RS.step_res {p : Int} {m n j : Nat} {s : RS} (hp : 1 ≤ p) (hl : s.P.length ≤ m) (h : Res p m n s.G) : Res p m n (s.step p m n j).G := by
  unfold RS.step
  have hb := fnd_bd s.G j (m - s.P.length) s.P.length
  simp only
  split
  · exact h
  · exact ((h.sw (by omega) (by omega)).sc hp).elim hp

theorem RS.run_res {p : Int} {m n : Nat} {s : RS} (hp : 1 ≤ p) (hl : s.P.length ≤ m) (h : Res p m n s.G) : ∀ j, Res p m n (s.run p m n j).G
  | 0 => h
  | j + 1 => RS.step_res hp (RS.run_len hl j) (RS.run_res hp hl h j)

theorem RS.step_d {p : Int} {m n j : Nat} {s : RS} (hp : 1 ≤ p) (h : 0 ≤ s.d ∧ s.d < p) : 0 ≤ (s.step p m n j).d ∧ (s.step p m n j).d < p := by
  unfold RS.step
  simp only
  split
  · exact h
  · exact md.mod_bd _ p hp

theorem RS.run_d {p : Int} {m n : Nat} {s : RS} (hp : 1 ≤ p) (h : 0 ≤ s.d ∧ s.d < p) : ∀ j, 0 ≤ (s.run p m n j).d ∧ (s.run p m n j).d < p
  | 0 => h
  | j + 1 => RS.step_d hp (RS.run_d hp h j)

/-- behind the last row nothing turns any more -/
theorem RS.step_full {p : Int} {m n j : Nat} {s : RS} (h : s.P.length = m) : s.step p m n j = s := by
  unfold RS.step
  have : fnd s.G j (m - s.P.length) s.P.length = m := by have := fnd_bd s.G j (m - s.P.length) s.P.length; omega
  simp only
  rw [if_pos this]

theorem RS.run_full {p : Int} {m n : Nat} {s : RS} {j : Nat} (h : (s.run p m n j).P.length = m) : ∀ i, s.run p m n (j + i) = s.run p m n j
  | 0 => rfl
  | i + 1 => by
    show (s.run p m n (j + i)).step p m n (j + i) = _
    rw [RS.run_full h i, RS.step_full h]

end Go.Proofs.Ytdlpemmoobbgnaa
