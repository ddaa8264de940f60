/-
  Plain: contours as lines and curves, as the program makes them.
-/
import Derived.Test.YtadohkidfkbncaaGeo
namespace Go.Proofs.Ytadohkidfkbncaa
open Go.RowKit
set_option linter.unusedSimpArgs false

/-- A point of an outline. -/
structure Vtx where
  x : Int
  y : Int
  on : Bool

def Vtx.ok (v : Vtx) : Prop := Bd 255 v.x ∧ Bd 255 v.y
def Vtx.dflt : Vtx := ⟨0, 0, false⟩

/-- A piece of a contour. -/
structure Sg where
  ax : Int
  ay : Int
  bx : Int
  bz : Int
  cx : Int
  cy : Int
  curve : Bool

def Sg.ok (s : Sg) : Prop := Bd 510 s.ax ∧ Bd 510 s.ay ∧ Bd 510 s.bx ∧ Bd 510 s.bz ∧ Bd 510 s.cx ∧ Bd 510 s.cy

/-- What is held while pieces are made. -/
structure St where
  segs : List Sg
  hx : Int
  hy : Int
  pull : Option Vtx

def St.ok (s : St) : Prop := (∀ g ∈ s.segs, g.ok) ∧ Bd 510 s.hx ∧ Bd 510 s.hy ∧ ∀ v, s.pull = some v → v.ok

/-- The piece to a point. -/
def St.piece (s : St) (px py : Int) : Sg :=
  match s.pull with
  | none => ⟨s.hx, s.hy, s.hx, s.hy, px, py, false⟩
  | some v => ⟨s.hx, s.hy, 2 * v.x, 2 * v.y, px, py, true⟩

def St.fin (s : St) (px py : Int) : St := ⟨s.segs ++ [s.piece px py], px, py, s.pull⟩

def St.step (s : St) (v : Vtx) : St :=
  if v.on = true then { s.fin (2 * v.x) (2 * v.y) with pull := none }
  else match s.pull with
    | some q => { s.fin (q.x + v.x) (q.y + v.y) with pull := some v }
    | none => { s with pull := some v }

theorem Vtx.two {v : Vtx} (h : v.ok) : Bd 510 (2 * v.x) ∧ Bd 510 (2 * v.y) := by
  obtain ⟨h1, h2⟩ := h
  unfold Bd at *
  omega

theorem Vtx.sum {v u : Vtx} (h : v.ok) (k : u.ok) : Bd 510 (v.x + u.x) ∧ Bd 510 (v.y + u.y) := by
  obtain ⟨h1, h2⟩ := h
  obtain ⟨k1, k2⟩ := k
  unfold Bd at *
  omega

theorem St.fin_ok {s : St} {px py : Int} (h : s.ok) (hx : Bd 510 px) (hy : Bd 510 py) : (s.fin px py).ok := by
  obtain ⟨h1, h2, h3, h4⟩ := h
  refine ⟨?_, hx, hy, h4⟩
  intro g hg
  simp only [St.fin, List.mem_append, List.mem_singleton] at hg
  rcases hg with hg | rfl
  · exact h1 g hg
  · unfold St.piece
    split
    · exact ⟨h2, h3, h2, h3, hx, hy⟩
    · rename_i v hv
      obtain ⟨t1, t2⟩ := Vtx.two (h4 v hv)
      exact ⟨h2, h3, t1, t2, hx, hy⟩

theorem St.step_ok {s : St} {v : Vtx} (h : s.ok) (hv : v.ok) : (s.step v).ok := by
  unfold St.step
  split
  · obtain ⟨t1, t2⟩ := Vtx.two hv
    obtain ⟨a1, a2, a3, _⟩ := St.fin_ok h t1 t2
    exact ⟨a1, a2, a3, fun u hu => by cases hu⟩
  · split
    · rename_i q hq
      obtain ⟨t1, t2⟩ := Vtx.sum (h.2.2.2 q hq) hv
      obtain ⟨a1, a2, a3, _⟩ := St.fin_ok h t1 t2
      exact ⟨a1, a2, a3, fun u hu => by cases hu; exact hv⟩
    · exact ⟨h.1, h.2.1, h.2.2.1, fun u hu => by cases hu; exact hv⟩

theorem St.fin_len (s : St) (px py : Int) : (s.fin px py).segs.length = s.segs.length + 1 := by simp [St.fin]
theorem St.step_len (s : St) (v : Vtx) : (s.step v).segs.length ≤ s.segs.length + 1 := by
  unfold St.step
  split
  · simp [St.fin]
  · split
    · simp [St.fin]
    · simp

/-- The first point on the line. -/
def firstOn : List Vtx → Nat
  | [] => 0
  | v :: vs => if v.on = true then 0 else firstOn vs + 1

theorem firstOn_le : ∀ c : List Vtx, firstOn c ≤ c.length
  | [] => Nat.le_refl _
  | v :: vs => by
    have := firstOn_le vs
    simp only [firstOn, List.length_cons]
    split <;> omega

/-- Point number k, counted round. -/
def vAt (c : List Vtx) (k : Nat) : Vtx := (c[k % c.length]?).getD Vtx.dflt

theorem vAt_mem {c : List Vtx} (h : 0 < c.length) (k : Nat) : c[k % c.length]? = some (vAt c k) ∧ vAt c k ∈ c := by
  have hlt := Nat.mod_lt k h
  unfold vAt
  rw [List.getElem?_eq_getElem hlt]
  exact ⟨rfl, List.getElem_mem hlt⟩

/-- Where a contour begins; behind k points of the walk from place f on. -/
def begSt (c : List Vtx) : St :=
  if firstOn c < c.length then ⟨[], 2 * (vAt c (firstOn c)).x, 2 * (vAt c (firstOn c)).y, none⟩
  else ⟨[], (vAt c (c.length - 1)).x + (vAt c 0).x, (vAt c (c.length - 1)).y + (vAt c 0).y, none⟩
def begF (c : List Vtx) : Nat := if firstOn c < c.length then firstOn c + 1 else firstOn c
def begN (c : List Vtx) : Nat := if firstOn c < c.length then c.length - 1 else c.length
def stTo (c : List Vtx) : Nat → St
  | 0 => begSt c
  | k + 1 => (stTo c k).step (vAt c (begF c + k))
/-- A contour's pieces. -/
def segsE (c : List Vtx) : List Sg := if c.length = 0 then [] else ((stTo c (begN c)).fin (begSt c).hx (begSt c).hy).segs

theorem begSt_ok {c : List Vtx} (h : 0 < c.length) (hc : ∀ v ∈ c, v.ok) : (begSt c).ok := by
  unfold begSt
  split
  · obtain ⟨t1, t2⟩ := Vtx.two (hc _ (vAt_mem h (firstOn c)).2)
    exact ⟨(fun g hg => by cases hg), t1, t2, (fun v hv => by cases hv)⟩
  · obtain ⟨t1, t2⟩ := Vtx.sum (hc _ (vAt_mem h (c.length - 1)).2) (hc _ (vAt_mem h 0).2)
    exact ⟨(fun g hg => by cases hg), t1, t2, (fun v hv => by cases hv)⟩

theorem stTo_ok {c : List Vtx} (h : 0 < c.length) (hc : ∀ v ∈ c, v.ok) : ∀ k, (stTo c k).ok
  | 0 => begSt_ok h hc
  | k + 1 => St.step_ok (stTo_ok h hc k) (hc _ (vAt_mem h _).2)

theorem stTo_len (c : List Vtx) : ∀ k, (stTo c k).segs.length ≤ k
  | 0 => by unfold stTo begSt; split <;> simp
  | k + 1 => by
    have := stTo_len c k
    have := St.step_len (stTo c k) (vAt c (begF c + k))
    simp only [stTo]; omega

theorem begN_le (c : List Vtx) : begN c ≤ c.length := by unfold begN; split <;> omega

theorem segsE_ok {c : List Vtx} (hc : ∀ v ∈ c, v.ok) : ∀ g ∈ segsE c, g.ok := by
  unfold segsE
  split
  · intro g hg; cases hg
  · rename_i h
    have h0 : 0 < c.length := by omega
    have hb := begSt_ok h0 hc
    exact (St.fin_ok (stTo_ok h0 hc _) hb.2.1 hb.2.2.1).1

theorem segsE_len (c : List Vtx) : (segsE c).length ≤ c.length + 1 := by
  unfold segsE
  split
  · simp
  · rw [St.fin_len]
    have := stTo_len c (begN c)
    have := begN_le c
    omega

end Go.Proofs.Ytadohkidfkbncaa
