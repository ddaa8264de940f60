/-
  Plain: fractions in order, the nearest edge of those that are taken.
-/
import Derived.Test.YtadohkidfkbncaaGeo
namespace Go.Proofs.Ytadohkidfkbncaa
open Go.RowKit
set_option linter.unusedSimpArgs false

/-- Fractions of a denominator above 0. -/
def Fr (f : Int × Int) : Prop := 0 ≤ f.1 ∧ f.1 ≤ 9223372036854775807 ∧ 1 ≤ f.2 ∧ f.2 ≤ 9223372036854775807
def fle (f g : Int × Int) : Prop := f.1 * g.2 ≤ g.1 * f.2

instance (f g : Int × Int) : Decidable (fle f g) := inferInstanceAs (Decidable (f.1 * g.2 ≤ g.1 * f.2))

theorem fle_refl (f : Int × Int) : fle f f := Int.le_refl _
theorem fle_trans {a b c : Int × Int} (hb : 1 ≤ b.2) (ha : 1 ≤ a.2) (hc : 1 ≤ c.2) (h : fle a b) (k : fle b c) : fle a c := by
  unfold fle at *
  have h1 : a.1 * b.2 * c.2 ≤ b.1 * a.2 * c.2 := Int.mul_le_mul_of_nonneg_right h (by omega)
  have h2 : b.1 * c.2 * a.2 ≤ c.1 * b.2 * a.2 := Int.mul_le_mul_of_nonneg_right k (by omega)
  have e1 : b.1 * a.2 * c.2 = b.1 * c.2 * a.2 := by rw [Int.mul_right_comm]
  have h3 : a.1 * c.2 * b.2 ≤ c.1 * a.2 * b.2 := by
    rw [Int.mul_right_comm a.1, Int.mul_right_comm c.1]; omega
  exact Int.le_of_mul_le_mul_right h3 (by omega)
theorem fle_total (a b : Int × Int) : fle a b ∨ fle b a := Int.le_total _ _
theorem not_fle {a b : Int × Int} (h : ¬ fle a b) : fle b a := (fle_total a b).resolve_left h

theorem lagrange (e : Edg) (x y : Int) : e.long * e.toA x y = e.along x y * e.along x y + e.cross x y * e.cross x y := by
  unfold Edg.long Edg.toA Edg.along Edg.cross
  generalize e.wx = p
  generalize e.wy = q
  generalize x - e.ax = r
  generalize y - e.ay = s
  simp only [Int.add_mul, Int.mul_add, Int.sub_mul, Int.mul_sub]
  have e1 : p * p * (r * r) = p * r * (p * r) := by simp only [Int.mul_assoc, Int.mul_left_comm]
  have e2 : p * p * (s * s) = p * s * (p * s) := by simp only [Int.mul_assoc, Int.mul_left_comm]
  have e3 : q * q * (r * r) = q * r * (q * r) := by simp only [Int.mul_assoc, Int.mul_left_comm]
  have e4 : q * q * (s * s) = q * s * (q * s) := by simp only [Int.mul_assoc, Int.mul_left_comm]
  have e5 : p * r * (q * s) = p * s * (q * r) := by simp only [Int.mul_assoc, Int.mul_left_comm, Int.mul_comm]
  have e6 : q * s * (p * r) = q * r * (p * s) := by simp only [Int.mul_assoc, Int.mul_left_comm, Int.mul_comm]
  omega

theorem least_spec {n d : Int} (n0 : 0 ≤ n) (d0 : 1 ≤ d) : 0 ≤ (least n d).1 ∧ (least n d).1 ≤ n ∧ 1 ≤ (least n d).2 ∧ (least n d).2 ≤ d ∧ ∃ g : Int, 1 ≤ g ∧ n = (least n d).1 * g ∧ d = (least n d).2 * g := by
  have hg : 0 < (Int.gcd n d : Int) := by
    have := Int.gcd_pos_of_ne_zero_right n (show d ≠ 0 by omega)
    omega
  have e1 : n = n / Int.gcd n d * Int.gcd n d := (Int.ediv_mul_cancel (Int.gcd_dvd_left n d)).symm
  have e2 : d = d / Int.gcd n d * Int.gcd n d := (Int.ediv_mul_cancel (Int.gcd_dvd_right n d)).symm
  unfold least
  refine ⟨Int.ediv_nonneg n0 (by omega), Int.ediv_le_self _ n0, ?_, Int.ediv_le_self _ (by omega), _, by omega, e1, e2⟩
  show 1 ≤ d / Int.gcd n d
  rcases Int.lt_or_le 0 (d / (Int.gcd n d : Int)) with h | h
  · exact h
  · have := Int.mul_le_mul_of_nonneg_right h (show 0 ≤ (Int.gcd n d : Int) by omega)
    omega

theorem toA_bd {e : Edg} {x y : Int} (h : e.ok) (hx : Bd 32768 x) (hy : Bd 32768 y) : 0 ≤ e.toA x y ∧ e.toA x y ≤ 3355443200 := by
  obtain ⟨t1, t2, _, _⟩ := Edg.to_bd h hx hy
  obtain ⟨a1, a2⟩ := t1.mul t1
  obtain ⟨b1, b2⟩ := t2.mul t2
  have := sq_nonneg' (x - e.ax)
  have := sq_nonneg' (y - e.ay)
  unfold Edg.toA
  exact ⟨by omega, by omega⟩
theorem toB_bd {e : Edg} {x y : Int} (h : e.ok) (hx : Bd 32768 x) (hy : Bd 32768 y) : 0 ≤ e.toB x y ∧ e.toB x y ≤ 3355443200 := by
  obtain ⟨_, _, t1, t2⟩ := Edg.to_bd h hx hy
  obtain ⟨a1, a2⟩ := t1.mul t1
  obtain ⟨b1, b2⟩ := t2.mul t2
  have := sq_nonneg' (x - e.bx)
  have := sq_nonneg' (y - e.bz)
  unfold Edg.toB
  exact ⟨by omega, by omega⟩

/-- A fraction that is no more than about 2 ^ 32. -/
def Fine (f : Int × Int) : Prop := 0 ≤ f.1 ∧ f.1 ≤ 1801439850948198400 ∧ 1 ≤ f.2 ∧ f.2 ≤ 536870912 ∧ f.1 ≤ 3355443200 * f.2

theorem Fine.one {n : Int} (h : 0 ≤ n ∧ n ≤ 3355443200) : Fine (n, 1) := ⟨h.1, by show n ≤ _; omega, by show (1 : Int) ≤ 1; omega, by show (1 : Int) ≤ _; omega, by show n ≤ 3355443200 * 1; omega⟩

theorem fine_least {e : Edg} {x y : Int} (h : e.ok) (hx : Bd 32768 x) (hy : Bd 32768 y) (hl : 1 ≤ e.long) : Fine (least (e.cross x y * e.cross x y) e.long) := by
  obtain ⟨q0, q1⟩ := Edg.cross_bd h.1 h.2.1 h.2.2.1 h.2.2.2 hx hy
  obtain ⟨l0, l1⟩ := Edg.long_bd h
  obtain ⟨a0, a1⟩ := toA_bd h hx hy
  obtain ⟨s1, s2, s3, s4, g, g0, s5, s6⟩ := least_spec q0 hl
  refine ⟨s1, by omega, s3, by omega, ?_⟩
  have hL := lagrange e x y
  have hs := sq_nonneg' (e.along x y)
  have h1 : e.long * e.toA x y ≤ e.long * 3355443200 := Int.mul_le_mul_of_nonneg_left a1 (by omega)
  generalize (least (e.cross x y * e.cross x y) e.long).1 = n at *
  generalize (least (e.cross x y * e.cross x y) e.long).2 = d at *
  have h2 : n * g ≤ 3355443200 * d * g := by
    have : 3355443200 * d * g = d * g * 3355443200 := by rw [Int.mul_assoc, Int.mul_comm]
    rw [this, ← s6, ← s5]
    omega
  exact Int.le_of_mul_le_mul_right h2 (by omega)

theorem Edg.sq_fine {e : Edg} {x y : Int} (h : e.ok) (hx : Bd 32768 x) (hy : Bd 32768 y) : Fine (e.sq x y) := by
  unfold Edg.sq
  split
  · exact Fine.one (toA_bd h hx hy)
  · split
    · exact Fine.one (toB_bd h hx hy)
    · exact fine_least h hx hy (by omega)

theorem Edg.line_fine {e : Edg} {x y : Int} (h : e.ok) (hx : Bd 32768 x) (hy : Bd 32768 y) : Fine (e.line x y) := by
  have := (Edg.long_bd h).1
  unfold Edg.line
  split
  · exact Fine.one (toA_bd h hx hy)
  · exact fine_least h hx hy (by omega)

theorem Fine.scaled {f : Int × Int} (h : Fine f) : f.1 * 64 / f.2 ≤ 4611686018427387904 := by
  obtain ⟨h1, h2, h3, h4, h5⟩ := h
  have h6 : f.1 * 64 / f.2 ≤ 214748364800 := Int.ediv_le_of_le_mul (by omega) (by omega)
  omega

/-- The square at place k of edges. -/
def sqAt (es : List Edg) (x y : Int) (k : Int) : Int × Int := ((es[k.toNat]?).map fun e => e.sq x y).getD (0, 0)

/-- The place of the nearest of the first i edges that are taken; below 0: there is none. -/
def bestIx (P : Nat → Bool) (es : List Edg) (x y : Int) : Nat → Int
  | 0 => -1
  | i + 1 => if P i = true ∧ (bestIx P es x y i < 0 ∨ ¬ fle (sqAt es x y (bestIx P es x y i)) (sqAt es x y i)) then (i : Int) else bestIx P es x y i

theorem bestIx_bd (P : Nat → Bool) (es : List Edg) (x y : Int) : ∀ i, -1 ≤ bestIx P es x y i ∧ bestIx P es x y i < i
  | 0 => by simp [bestIx]
  | i + 1 => by
    have := bestIx_bd P es x y i
    simp only [bestIx]
    split <;> omega

theorem Fine.num {f : Int × Int} (h : Fine f) : f.1 ≤ 9223372036854775807 := by have := h.2.1; omega
theorem Fine.den {f : Int × Int} (h : Fine f) : f.2 ≤ 9223372036854775807 := by have := h.2.2.2.1; omega

end Go.Proofs.Ytadohkidfkbncaa
