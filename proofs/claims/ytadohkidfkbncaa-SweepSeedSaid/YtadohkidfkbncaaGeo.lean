/-
  Plain geometry: edges, squares of distances.
-/
import Derived.Test.YtadohkidfkbncaaMa
namespace Go.Proofs.Ytadohkidfkbncaa
open Go.RowKit
set_option linter.unusedSimpArgs false

/-- A straight piece. -/
structure Edg where
  ax : Int
  ay : Int
  bx : Int
  bz : Int

/-- Its ends lie near enough. -/
def Edg.ok (e : Edg) : Prop := Bd 8192 e.ax ∧ Bd 8192 e.ay ∧ Bd 8192 e.bx ∧ Bd 8192 e.bz

def Edg.wx (e : Edg) : Int := e.bx - e.ax
def Edg.wy (e : Edg) : Int := e.bz - e.ay
def Edg.long (e : Edg) : Int := e.wx * e.wx + e.wy * e.wy
def Edg.along (e : Edg) (x y : Int) : Int := e.wx * (x - e.ax) + e.wy * (y - e.ay)
def Edg.cross (e : Edg) (x y : Int) : Int := e.wx * (y - e.ay) - e.wy * (x - e.ax)
def Edg.toA (e : Edg) (x y : Int) : Int := (x - e.ax) * (x - e.ax) + (y - e.ay) * (y - e.ay)
def Edg.toB (e : Edg) (x y : Int) : Int := (x - e.bx) * (x - e.bx) + (y - e.bz) * (y - e.bz)

/-- A fraction in its least form. -/
def least (n d : Int) : Int × Int := (n / Int.gcd n d, d / Int.gcd n d)

/-- The square of a point's distance. -/
def Edg.sq (e : Edg) (x y : Int) : Int × Int :=
  if e.along x y ≤ 0 then (e.toA x y, 1) else if e.long ≤ e.along x y then (e.toB x y, 1) else least (e.cross x y * e.cross x y) e.long

/-- The square of a point's distance from the line. -/
def Edg.line (e : Edg) (x y : Int) : Int × Int :=
  if e.long = 0 then (e.toA x y, 1) else least (e.cross x y * e.cross x y) e.long

/-- On which side a point is. -/
def Edg.side (e : Edg) (x y : Int) : Int := if 0 < e.cross x y then 1 else if e.cross x y < 0 then -1 else 0

theorem Edg.way_bd {e : Edg} (h : e.ok) : Bd 16384 e.wx ∧ Bd 16384 e.wy := by
  obtain ⟨h1, h2, h3, h4⟩ := h
  unfold Edg.wx Edg.wy Bd at *
  omega

theorem Edg.to_bd {e : Edg} {x y : Int} (h : e.ok) (hx : Bd 32768 x) (hy : Bd 32768 y) : Bd 40960 (x - e.ax) ∧ Bd 40960 (y - e.ay) ∧ Bd 40960 (x - e.bx) ∧ Bd 40960 (y - e.bz) := by
  obtain ⟨h1, h2, h3, h4⟩ := h
  unfold Bd at *
  omega

theorem Edg.cross_abs {e : Edg} {x y : Int} (h : e.ok) (hx : Bd 32768 x) (hy : Bd 32768 y) : Bd 1342177280 (e.cross x y) := by
  obtain ⟨w1, w2⟩ := Edg.way_bd h
  obtain ⟨t1, t2, _, _⟩ := Edg.to_bd h hx hy
  obtain ⟨a1, a2⟩ := w1.mul t2
  obtain ⟨b1, b2⟩ := w2.mul t1
  unfold Edg.cross
  exact ⟨by omega, by omega⟩

theorem Edg.cross_bd {e : Edg} {x y : Int} (h1 : Bd 8192 e.ax) (h2 : Bd 8192 e.ay) (h3 : Bd 8192 e.bx) (h4 : Bd 8192 e.bz) (hx : Bd 32768 x) (hy : Bd 32768 y) :
    0 ≤ e.cross x y * e.cross x y ∧ e.cross x y * e.cross x y ≤ 1801439850948198400 := by
  have h := Edg.cross_abs (e := e) ⟨h1, h2, h3, h4⟩ hx hy
  have h2 := h.mul h
  refine ⟨?_, by have := h2.2; omega⟩
  rcases Int.le_total 0 (e.cross x y) with k | k
  · exact Int.mul_nonneg k k
  · exact Int.mul_nonneg_of_nonpos_of_nonpos k k

theorem sq_nonneg' (x : Int) : 0 ≤ x * x := by
  rcases Int.le_total 0 x with k | k
  · exact Int.mul_nonneg k k
  · exact Int.mul_nonneg_of_nonpos_of_nonpos k k

theorem Edg.long_bd {e : Edg} (h : e.ok) : 0 ≤ e.long ∧ e.long ≤ 536870912 := by
  obtain ⟨w1, w2⟩ := Edg.way_bd h
  obtain ⟨a1, a2⟩ := w1.mul w1
  obtain ⟨b1, b2⟩ := w2.mul w2
  have := sq_nonneg' e.wx
  have := sq_nonneg' e.wy
  unfold Edg.long
  exact ⟨by omega, by omega⟩

/-- Where texels are. -/
structure Grd where
  x : Int
  y : Int
  p : Int
  w : Int
  h : Int
  s : Int

def Grd.ok (g : Grd) : Prop := Bd 255 g.x ∧ Bd 255 g.y ∧ (1 ≤ g.p ∧ g.p ≤ 16) ∧ (1 ≤ g.w ∧ g.w ≤ 24) ∧ (1 ≤ g.h ∧ g.h ≤ 24) ∧ 1 ≤ g.s ∧ g.s ≤ 64

/-- The middle of a texel, one of its two numbers. -/
def cen (x p i : Int) : Int := x * 32 + i * p * 32 + p * 32 / 2

theorem cen_bd {x p i : Int} (hx : Bd 255 x) (hp : 1 ≤ p ∧ p ≤ 16) (hi : 0 ≤ i ∧ i ≤ 24) : Bd 32768 (cen x p i) := by
  have := mul_bd hi.1 hi.2 (show 0 ≤ p by omega) hp.2
  unfold cen Bd at *
  omega

def codeN (s e : Int) : Int := if e < 256 * s then e * 127 / (256 * s) else 127
def code (s sg e : Int) : Int := 128 + sg * codeN s e

theorem codeN_bd {s e : Int} (hs : 1 ≤ s) (he : 0 ≤ e) : 0 ≤ codeN s e ∧ codeN s e ≤ 127 := by
  unfold codeN
  split
  · rename_i h
    refine ⟨Int.ediv_nonneg (by omega) (by omega), ?_⟩
    refine Int.le_of_lt_add_one (Int.ediv_lt_of_lt_mul (by omega) ?_)
    have : 127 * e ≤ 127 * (256 * s) := by omega
    omega
  · omega

end Go.Proofs.Ytadohkidfkbncaa
