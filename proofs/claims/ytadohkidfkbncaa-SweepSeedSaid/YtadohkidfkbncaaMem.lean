/-
  What slices of edges and of numbers hold in memory.
-/
import Derived.Test.YtadohkidfkbncaaBase
namespace Go.Proofs.Ytadohkidfkbncaa
open Go.RowKit
set_option linter.unusedSimpArgs false

/-- The cells of edges from a block's beginning on. -/
def EdgeCells (w : World) (b : Nat) (es : List Edg) : Prop :=
  ∀ i e, es[i]? = some e → w.cell? ⟨b, i * 4, none⟩ = some (.int .i64 (e.ax)) ∧ w.cell? ⟨b, i * 4 + 1, none⟩ = some (.int .i64 (e.ay)) ∧ w.cell? ⟨b, i * 4 + 2, none⟩ = some (.int .i64 (e.bx)) ∧ w.cell? ⟨b, i * 4 + 3, none⟩ = some (.int .i64 (e.bz))

theorem EdgeCells.carry {w w1 : World} {b : Nat} {es : List Edg} (h : EdgeCells w b es) (hb : Below w.heap.size w w1) : EdgeCells w1 b es := fun i e he => by
  obtain ⟨c0, c1, c2, c3⟩ := h i e he
  have hlt : b < w.heap.size := World.block_lt_of_cell? _ _ c0
  exact ⟨(hb.cell (p := ⟨b, _, none⟩) hlt).trans c0, (hb.cell (p := ⟨b, _, none⟩) hlt).trans c1, (hb.cell (p := ⟨b, _, none⟩) hlt).trans c2, (hb.cell (p := ⟨b, _, none⟩) hlt).trans c3⟩

/-- A slice of edges, told: nil or empty, or a row of four numbers each. -/
def EdgesAt (w : World) (v : Value) (es : List Edg) : Prop :=
  ∃ (b cap : Nat) (a : Option Addr), v = .slice a es.length cap ∧ es.length ≤ 1000000 ∧ (es ≠ [] → a = some ⟨b, 0, none⟩) ∧ (∀ e ∈ es, e.ok) ∧ EdgeCells w b es

theorem EdgesAt.carry {w w1 : World} {v : Value} {es : List Edg} (h : EdgesAt w v es) (hb : Below w.heap.size w w1) : EdgesAt w1 v es := by
  obtain ⟨b, cap, a, h1, h2, h3, h4, h5⟩ := h
  exact ⟨b, cap, a, h1, h2, h3, h4, h5.carry hb⟩

theorem ne_nil_of_lt {α : Type} {l : List α} {i : Nat} (h : i < l.length) : l ≠ [] := by
  intro e; rw [e] at h; simp at h

theorem get_of_lt {α : Type} {l : List α} {i : Nat} (h : i < l.length) : ∃ e, l[i]? = some e ∧ e ∈ l :=
  ⟨l[i], List.getElem?_eq_getElem h, List.getElem_mem h⟩

theorem take_snoc' {α : Type} {l : List α} {i : Nat} {e : α} (h : l[i]? = some e) : l.take (i + 1) = l.take i ++ [e] := by
  rw [List.take_add_one, h]; rfl

theorem take_all {α : Type} {l : List α} {i : Nat} (h : l.length ≤ i) : l.take i = l := List.take_of_length_le h

end Go.Proofs.Ytadohkidfkbncaa
