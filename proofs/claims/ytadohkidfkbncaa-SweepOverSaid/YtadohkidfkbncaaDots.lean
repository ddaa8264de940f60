/-
  The outline of rows of numbers: what comes in; the plain outline.
-/
import Derived.Test.YtadohkidfkbncaaFlatAll
namespace Go.Proofs.Ytadohkidfkbncaa
open Go.RowKit
set_option linter.unusedSimpArgs false

/-- A point by numbers. -/
structure Dt where
  x : Int
  y : Int
  on : Bool

def Dt.ok (d : Dt) : Prop := Bd 32768 d.x ∧ Bd 32768 d.y
def Dt.vtx (d : Dt) : Vtx := ⟨d.x.tmod 256, d.y.tmod 256, d.on⟩

theorem tmod_bd (x : Int) : Bd 255 (x.tmod 256) := by
  unfold Bd
  have h1 := Int.tmod_lt_of_pos x (show (0 : Int) < 256 by omega)
  have h2 := Int.lt_tmod_of_pos x (show (0 : Int) < 256 by omega)
  omega

theorem Dt.vtx_ok (d : Dt) : d.vtx.ok := ⟨tmod_bd _, tmod_bd _⟩

/-- A slice of such points, wherever it lies. -/
def DotsAt (w : World) (v : Value) (ds : List Dt) : Prop :=
  ∃ (a : Option Addr) (cap : Nat), v = .slice a ds.length cap ∧ ds.length ≤ cap ∧ cap ≤ maxLen ∧ (a = none → cap = 0) ∧ (∀ d ∈ ds, d.ok) ∧
    (ds ≠ [] → ∃ b o : Nat, a = some ⟨b, o, none⟩ ∧ ∀ (i : Nat) (d : Dt), ds[i]? = some d → w.cell? ⟨b, o + i * 3, none⟩ = some (.int .i16 d.x) ∧ w.cell? ⟨b, o + i * 3 + 1, none⟩ = some (.int .i16 d.y) ∧ w.cell? ⟨b, o + i * 3 + 2, none⟩ = some (.bool d.on))

theorem DotsAt.carry {w w1 : World} {v : Value} {ds : List Dt} (h : DotsAt w v ds) (hb : Below w.heap.size w w1) : DotsAt w1 v ds := by
  obtain ⟨a, cap, h1, h2, h3, h4, h5, h6⟩ := h
  refine ⟨a, cap, h1, h2, h3, h4, h5, fun hne => ?_⟩
  obtain ⟨b, o, e, hc⟩ := h6 hne
  refine ⟨b, o, e, fun i d hi => ?_⟩
  obtain ⟨c0, c1, c2⟩ := hc i d hi
  have hlt := blt c0
  exact ⟨(hb.cell (p := ⟨b, _, none⟩) hlt).trans c0, (hb.cell (p := ⟨b, _, none⟩) hlt).trans c1, (hb.cell (p := ⟨b, _, none⟩) hlt).trans c2⟩

/-- A slice of such slices. -/
def RowsAt (w : World) (v : Value) (dss : List (List Dt)) : Prop :=
  ∃ (a : Option Addr) (cap : Nat), v = .slice a dss.length cap ∧ dss.length ≤ cap ∧ cap ≤ maxLen ∧ (a = none → cap = 0) ∧
    (dss ≠ [] → ∃ b o : Nat, a = some ⟨b, o, none⟩ ∧ ∀ (i : Nat) (ds : List Dt), dss[i]? = some ds → ∃ u, w.cell? ⟨b, o + i, none⟩ = some u ∧ DotsAt w u ds)

theorem RowsAt.carry {w w1 : World} {v : Value} {dss : List (List Dt)} (h : RowsAt w v dss) (hb : Below w.heap.size w w1) : RowsAt w1 v dss := by
  obtain ⟨a, cap, h1, h2, h3, h4, h5⟩ := h
  refine ⟨a, cap, h1, h2, h3, h4, fun hne => ?_⟩
  obtain ⟨b, o, e, hc⟩ := h5 hne
  refine ⟨b, o, e, fun i d hi => ?_⟩
  obtain ⟨u, c, hd⟩ := hc i d hi
  exact ⟨u, (hb.cell (p := ⟨b, _, none⟩) (blt c)).trans c, hd.carry hb⟩

/-- The outline, as far as one has come; how many points may still come. -/
def outStep (s : List (List Vtx) × Nat) (c : List Dt) : List (List Vtx) × Nat :=
  let o := (c.take (min 12 s.2)).map Dt.vtx
  (if o.length = 0 then s.1 else s.1 ++ [o], s.2 - o.length)
def outTo (dss : List (List Dt)) : List (List Vtx) × Nat := dss.foldl outStep ([], 64)
def outlineE (dss : List (List Dt)) : List (List Vtx) := (outTo (dss.take 8)).1

theorem outTo_snoc {dss : List (List Dt)} {i : Nat} {c : List Dt} (h : dss[i]? = some c) : outTo (dss.take (i + 1)) = outStep (outTo (dss.take i)) c := by
  unfold outTo
  rw [take_snoc' h, List.foldl_append]; rfl

theorem outStep_le (s : List (List Vtx) × Nat) (c : List Dt) : (outStep s c).2 ≤ s.2 := by unfold outStep; simp only; omega
theorem outTo_le (dss : List (List Dt)) : (outTo dss).2 ≤ 64 ∧ (outTo dss).1.length ≤ dss.length := by
  have key : ∀ (l : List (List Dt)) (s : List (List Vtx) × Nat), (l.foldl outStep s).2 ≤ s.2 ∧ (l.foldl outStep s).1.length ≤ s.1.length + l.length := by
    intro l
    induction l with
    | nil => intro s; simp
    | cons c l ih =>
      intro s
      obtain ⟨h1, h2⟩ := ih (outStep s c)
      have h3 := outStep_le s c
      have h4 : (outStep s c).1.length ≤ s.1.length + 1 := by unfold outStep; simp only; split <;> simp
      simp only [List.foldl_cons, List.length_cons]
      exact ⟨by omega, by omega⟩
  have := key dss ([], 64)
  unfold outTo
  simpa using this

theorem outTo_ok (dss : List (List Dt)) : ∀ c ∈ (outTo dss).1, c.length ≤ 12 ∧ 0 < c.length ∧ ∀ v ∈ c, v.ok := by
  have key : ∀ (l : List (List Dt)) (s : List (List Vtx) × Nat), (∀ c ∈ s.1, c.length ≤ 12 ∧ 0 < c.length ∧ ∀ v ∈ c, v.ok) → ∀ c ∈ (l.foldl outStep s).1, c.length ≤ 12 ∧ 0 < c.length ∧ ∀ v ∈ c, v.ok := by
    intro l
    induction l with
    | nil => intro s h; exact h
    | cons c l ih =>
      intro s h
      refine ih _ ?_
      unfold outStep
      simp only
      split
      · exact h
      · rename_i hne
        intro o ho
        rcases List.mem_append.1 ho with h1 | h1
        · exact h o h1
        · simp only [List.mem_singleton] at h1
          subst h1
          refine ⟨by simp; omega, by omega, fun v hv => ?_⟩
          obtain ⟨d, _, rfl⟩ := List.mem_map.1 hv
          exact d.vtx_ok
  exact key dss ([], 64) (fun c h => by cases h)

/-- Points as cells. -/
def Vtx.cells (v : Vtx) : List Value := [(.int .i64 (v.x)), (.int .i64 (v.y)), .bool v.on]
def vtCells (l : List Vtx) : List Value := l.flatMap Vtx.cells
theorem vtCells_snoc (l : List Vtx) (g : Vtx) : vtCells (l ++ [g]) = vtCells l ++ g.cells := by simp [vtCells]
theorem vtx_one (g : Vtx) : ∀ u ∈ g.cells, u.oneCell' = true := by
  intro u h
  simp only [Vtx.cells, List.mem_cons, List.not_mem_nil, or_false] at h
  rcases h with rfl | rfl | rfl <;> rfl
theorem vtCells_get : ∀ {l : List Vtx} {i j : Nat} {g : Vtx}, l[i]? = some g → j < 3 → (vtCells l)[i * 3 + j]? = g.cells[j]?
  | [], _, _, _, h, _ => by simp at h
  | x :: l, 0, j, g, h, hj => by
    simp at h; subst h
    have : vtCells (x :: l) = x.cells ++ vtCells l := rfl
    rw [this, List.getElem?_append_left (by simpa [Vtx.cells] using hj)]
    simp
  | x :: l, i + 1, j, g, h, hj => by
    simp at h
    have : vtCells (x :: l) = x.cells ++ vtCells l := rfl
    have hx : x.cells.length = 3 := rfl
    rw [this, List.getElem?_append_right (by omega), hx, show (i + 1) * 3 + j - 3 = i * 3 + j by omega]
    exact vtCells_get h hj

theorem vtxIn_of_own {w : World} {K : Nat} {u : Value} {l : List Vtx} (h : w.ownsRow K 117 3 u l.length (vtCells l)) (hl : l.length ≤ 900) (hok : ∀ e ∈ l, e.ok) (d : Nat) (hd : d < w.heap.size) :
    ∃ b, VtxIn w b u l ∧ b < w.heap.size ∧ (b = d ∨ K ≤ b) := by
  rcases h.2 with ⟨rfl, h0⟩ | ⟨g, cap, cur, rfl, hB, hg, hrest⟩
  · have : l = [] := List.eq_nil_of_length_eq_zero h0
    subst this
    exact ⟨d, ⟨0, none, rfl, by simp, fun h => absurd rfl h, (fun e he => by cases he), (fun i g hi => by simp at hi)⟩, hd, .inl rfl⟩
  · refine ⟨g, ⟨cap, _, rfl, hl, fun _ => rfl, hok, fun i x hi => ?_⟩, (Array.getElem?_eq_some_iff.1 hg).1, .inr hB⟩
    have key : ∀ j y, j < 3 → x.cells[j]? = some y → w.cell? ⟨g, i * 3 + j, none⟩ = some y := fun j y hj hy => by
      have := h.cells (g := g) rfl (i * 3 + j) y ((vtCells_get hi hj).trans hy)
      rwa [show ((⟨g, 0, none⟩ : Addr).add (i * 3 + j)) = ⟨g, i * 3 + j, none⟩ by unfold Addr.add; split <;> simp_all] at this
    exact ⟨key 0 _ (by omega) rfl, key 1 _ (by omega) rfl, key 2 _ (by omega) rfl⟩

theorem vtxIn_of_own1 {w : World} {K : Nat} {u : Value} {l : List Vtx} (h : w.ownsRow K 117 3 u l.length (vtCells l)) (hl : l.length ≤ 900) (hok : ∀ e ∈ l, e.ok) (hne : l.length ≠ 0) :
    ∃ b, VtxIn w b u l ∧ b < w.heap.size ∧ K ≤ b := by
  have h' := h
  rcases h'.2 with ⟨rfl, h0⟩ | ⟨g, cap, cur, rfl, hB, hg, hrest⟩
  · exact absurd h0 hne
  · refine ⟨g, ⟨cap, _, rfl, hl, fun _ => rfl, hok, fun i x hi => ?_⟩, (Array.getElem?_eq_some_iff.1 hg).1, hB⟩
    have key : ∀ j y, j < 3 → x.cells[j]? = some y → w.cell? ⟨g, i * 3 + j, none⟩ = some y := fun j y hj hy => by
      have := h.cells (g := g) rfl (i * 3 + j) y ((vtCells_get hi hj).trans hy)
      rwa [show ((⟨g, 0, none⟩ : Addr).add (i * 3 + j)) = ⟨g, i * 3 + j, none⟩ by unfold Addr.add; split <;> simp_all] at this
    exact ⟨key 0 _ (by omega) rfl, key 1 _ (by omega) rfl, key 2 _ (by omega) rfl⟩

theorem info_vtx : (Try.prog.info? 117).map (fun i => (i.zero, i.size, i.bytes)) = some (some (.agg #[(.int .i64 (0)), (.int .i64 (0)), .bool false]), 3, 24) := by kernel_rfl
theorem info_vtxs : (Try.prog.info? 111).map (fun i => (i.zero, i.size, i.bytes)) = some (some (.slice none 0 0), 1, 24) := by kernel_rfl
theorem news_vtx (w : World) (g : Vtx) : ∀ j u, g.cells[j]? = some u → (w.alloc (.cells #[(.int .i64 (g.x)), (.int .i64 (g.y)), .bool g.on] 117)).cell? ((⟨w.heap.size, 0, none⟩ : Addr).add j) = some u :=
  World.news_of_block (heap_alloc_new w _)
theorem news_vtx' (w : World) (o : Obj) (g : Vtx) : ∀ j u, g.cells[j]? = some u → ((w.alloc o).alloc (.cells #[(.int .i64 (g.x)), (.int .i64 (g.y)), .bool g.on] 117)).cell? ((⟨w.heap.size + 1, 0, none⟩ : Addr).add j) = some u := by
  have := news_vtx (w.alloc o) g
  simpa only [World.size_alloc] using this

end Go.Proofs.Ytadohkidfkbncaa
