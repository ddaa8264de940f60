/-
  Rows of rows: an own row whose cells are slices, each with what it holds.
-/
import Derived.Test.YtadohkidfkbncaaPathB
import Derived.Test.YtadohkidfkbncaaFlatC
import Derived.Maps.AppendAt
import Derived.Laws.AppendOwnNone
namespace Go.Proofs.Ytadohkidfkbncaa
open Go.RowKit
set_option linter.unusedSimpArgs false

section
variable {α : Type}

/-- What is said of a slice, with the block that it lies in, stands where that block stands. -/
def Keeps (At : World → Nat → Value → α → Prop) : Prop := ∀ (w w1 : World) (b : Nat) (v : Value) (r : α), At w b v r → w1.heap[b]? = w.heap[b]? → At w1 b v r

/-- An own row of slices. -/
def Nest (At : World → Nat → Value → α → Prop) (w : World) (K : Nat) (T : TypeId) (u : Value) (rs : List α) : Prop :=
  ∃ vs : List Value, w.ownsRow K T 1 u rs.length vs ∧ ∀ (i : Nat) (r : α), rs[i]? = some r → ∃ v b, vs[i]? = some v ∧ At w b v r ∧ b < w.heap.size ∧ u.ownBlock ≠ some b

variable {At : World → Nat → Value → α → Prop}

theorem Nest.nil (w : World) (K : Nat) (T : TypeId) : Nest At w K T (.slice none 0 0) [] := ⟨[], World.ownsRow_nil _ _ _ _, fun i r h => by simp at h⟩

theorem Nest.below (hk : Keeps At) {w w1 : World} {K : Nat} {T : TypeId} {u : Value} {rs : List α} (h : Nest At w K T u rs) (hb : Below w.heap.size w w1) : Nest At w1 K T u rs := by
  obtain ⟨vs, h1, h2⟩ := h
  refine ⟨vs, ownsRow_below h1 hb, fun i r hi => ?_⟩
  obtain ⟨v, b, h3, h4, h5, h6⟩ := h2 i r hi
  exact ⟨v, b, h3, hk _ _ _ _ _ h4 (hb.block b h5), Nat.lt_of_lt_of_le h5 hb.size, h6⟩

theorem Nest.snoc (hk : Keeps At) {w w1 : World} {K : Nat} {T : TypeId} {u u' v : Value} {rs : List α} {r : α} {b : Nat} {vs : List Value} (h1 : w.ownsRow K T 1 u rs.length vs) (h2 : ∀ (i : Nat) (r : α), rs[i]? = some r → ∃ v b, vs[i]? = some v ∧ At w b v r ∧ b < w.heap.size ∧ u.ownBlock ≠ some b) (hv : At w b v r) (hb : b < w.heap.size) (hu : u.ownBlock ≠ some b)
    (hg : w.grownBy w1 u.ownBlock) (hat : u'.ownBlock = u.ownBlock ∨ ∃ g, u'.ownBlock = some g ∧ w.heap.size ≤ g)
    (hown : w1.ownsRow K T 1 u' (rs.length + 1) (vs ++ [v])) : Nest At w1 K T u' (rs ++ [r]) := by
  have hlen : vs.length = rs.length := by simpa using h1.1
  have hne : ∀ k, k < w.heap.size → u.ownBlock ≠ some k → u'.ownBlock ≠ some k := fun k h3 h4 => by
    rcases hat with e | ⟨g, e, e2⟩
    · rw [e]; exact h4
    · rw [e]; intro e3; cases e3; omega
  refine ⟨vs ++ [v], by simpa using hown, fun i x hi => ?_⟩
  rcases Nat.lt_or_ge i rs.length with hlt | hge
  · rw [List.getElem?_append_left hlt] at hi
    obtain ⟨y, b', h3, h4, h5, h6⟩ := h2 i x hi
    exact ⟨y, b', by rw [List.getElem?_append_left (by omega)]; exact h3, hk _ _ _ _ _ h4 (hg.block b' h5 (fun e => h6 e.symm)), Nat.lt_of_lt_of_le h5 hg.size, hne b' h5 h6⟩
  · rw [List.getElem?_append_right hge] at hi
    have hi0 : i - rs.length = 0 := by
      rcases Nat.eq_zero_or_pos (i - rs.length) with e | e
      · exact e
      · rw [List.getElem?_eq_none (by simp; omega)] at hi; cases hi
    rw [hi0] at hi
    simp at hi
    subst hi
    exact ⟨v, b, by rw [List.getElem?_append_right (by omega), hlen, hi0]; rfl, hk _ _ _ _ _ hv (hg.block b hb (fun e => hu e.symm)), Nat.lt_of_lt_of_le hb hg.size, hne b hb hu⟩

theorem Nest.mono {w : World} {K K' : Nat} {T : TypeId} {u : Value} {rs : List α} (h : Nest At w K T u rs) (hK : K' ≤ K) : Nest At w K' T u rs := by
  obtain ⟨vs, h1, h2⟩ := h
  exact ⟨vs, own_down h1 hK, h2⟩

theorem Nest.lt {w : World} {K : Nat} {T : TypeId} {u : Value} {rs : List α} (h : Nest At w K T u rs) : ∀ k, u.ownBlock = some k → K ≤ k ∧ k < w.heap.size := by
  obtain ⟨vs, h1, _⟩ := h
  exact h1.lt

theorem Nest.imp {At' : World → Nat → Value → α → Prop} {w : World} {K : Nat} {T : TypeId} {u : Value} {rs : List α} (h : Nest At w K T u rs) (hi : ∀ w b v r, At w b v r → At' w b v r) : Nest At' w K T u rs := by
  obtain ⟨vs, h1, h2⟩ := h
  refine ⟨vs, h1, fun i r hr => ?_⟩
  obtain ⟨v, b, h3, h4, h5⟩ := h2 i r hr
  exact ⟨v, b, h3, hi _ _ _ _ h4, h5⟩

theorem Nest.set (hk : Keeps At) {w : World} {K : Nat} {T : TypeId} {u : Value} {rs : List α} (h : Nest At w K T u rs) {a : Addr} (ha : a.block < K) (hne : ∀ w b v r, At w b v r → b ≠ a.block) (x : Value) : Nest At (w.setCell a x) K T u rs := by
  obtain ⟨vs, h1, h2⟩ := h
  refine ⟨vs, ownsRow_set h1 ha x, fun i r hi => ?_⟩
  obtain ⟨v, b, h3, h4, h5, h6⟩ := h2 i r hi
  exact ⟨v, b, h3, hk _ _ _ _ _ h4 (heap_setCell_other w a b x (hne _ _ _ _ h4)), by simpa using h5, h6⟩

/-- What is said of a slice, and that it lies in another block. -/
def NeIn (At : World → Nat → Value → α → Prop) (O : Nat) : World → Nat → Value → α → Prop := fun w b v r => At w b v r ∧ b ≠ O
theorem NeIn.keeps {O : Nat} (hk : Keeps At) : Keeps (NeIn At O) := fun _ _ _ _ _ h hb => ⟨hk _ _ _ _ _ h.1 hb, h.2⟩

/-- Row number i, read. -/
theorem Nest.get {w : World} {K g cap n : Nat} {T : TypeId} {rs : List α} (h : Nest At w K T (.slice (some ⟨g, 0, none⟩) n cap) rs) {i : Nat} {r : α} (hi : rs[i]? = some r) :
    ∃ v b, w.cell? ⟨g, i, none⟩ = some v ∧ At w b v r := by
  obtain ⟨vs, h1, h2⟩ := h
  obtain ⟨v, b, h3, h4, _, _⟩ := h2 i r hi
  have := h1.cells (g := g) rfl i v h3
  rw [show ((⟨g, 0, none⟩ : Addr).add i) = ⟨g, i, none⟩ by unfold Addr.add; split <;> simp_all] at this
  exact ⟨v, b, this, h4⟩

end

theorem grownBy_below {w w1 w2 : World} {row : Option Nat} (hb : Below w.heap.size w w1) (hg : w1.grownBy w2 row) : w.grownBy w2 row :=
  ⟨hg.os.trans hb.os, hg.tape.trans hb.tape, hg.output.trans hb.output, Nat.le_trans hb.size hg.size, fun k hk hne => (hg.block k (Nat.lt_of_lt_of_le hk hb.size) hne).trans (hb.block k hk)⟩

theorem own_slice {w : World} {K : Nat} {T : TypeId} {sz n : Nat} {u : Value} {xs : List Value} (h : w.ownsRow K T sz u n xs) : ∃ a cap, u = .slice a n cap := by
  rcases h.2 with ⟨rfl, h0⟩ | ⟨g, cap, cur, rfl, _⟩
  · exact ⟨none, 0, by rw [h0]⟩
  · exact ⟨_, _, rfl⟩

theorem own_oneCell {w : World} {K : Nat} {T : TypeId} {sz n : Nat} {u : Value} {xs : List Value} (h : w.ownsRow K T sz u n xs) : u.oneCell' = true := by
  rcases h.2 with ⟨rfl, _⟩ | ⟨g, cap, cur, rfl, _⟩ <;> rfl

/-- A slice of pieces, with the block in which it lies. -/
def SegIn (w : World) (b : Nat) (v : Value) (l : List Sg) : Prop :=
  ∃ (cap : Nat) (a : Option Addr), v = .slice a l.length cap ∧ l.length ≤ 1000 ∧ (l ≠ [] → a = some ⟨b, 0, none⟩) ∧ (∀ e ∈ l, e.ok) ∧ SegCells w b l
theorem SegIn.at {w : World} {b : Nat} {v : Value} {l : List Sg} (h : SegIn w b v l) : SegAt w v l := by
  obtain ⟨cap, a, h1, h2, h3, h4, h5⟩ := h
  exact ⟨b, cap, a, h1, h2, h3, h4, h5⟩
theorem SegIn.keeps : Keeps SegIn := fun w w1 b v r h hb => by
  obtain ⟨cap, a, h1, h2, h3, h4, h5⟩ := h
  have c : ∀ o, w1.cell? ⟨b, o, none⟩ = w.cell? ⟨b, o, none⟩ := fun o => World.cell?_of_block hb
  exact ⟨cap, a, h1, h2, h3, h4, fun i g hi => by simp only [c]; exact h5 i g hi⟩

def VtxIn (w : World) (b : Nat) (v : Value) (c : List Vtx) : Prop :=
  ∃ (cap : Nat) (a : Option Addr), v = .slice a c.length cap ∧ c.length ≤ 900 ∧ (c ≠ [] → a = some ⟨b, 0, none⟩) ∧ (∀ e ∈ c, e.ok) ∧ VtxCells w b c
theorem VtxIn.at {w : World} {b : Nat} {v : Value} {l : List Vtx} (h : VtxIn w b v l) : VtxAt w v l := by
  obtain ⟨cap, a, h1, h2, h3, h4, h5⟩ := h
  exact ⟨b, cap, a, h1, h2, h3, h4, h5⟩
theorem VtxIn.keeps : Keeps VtxIn := fun w w1 b v r h hb => by
  obtain ⟨cap, a, h1, h2, h3, h4, h5⟩ := h
  have c : ∀ o, w1.cell? ⟨b, o, none⟩ = w.cell? ⟨b, o, none⟩ := fun o => World.cell?_of_block hb
  exact ⟨cap, a, h1, h2, h3, h4, fun i g hi => by simp only [c]; exact h5 i g hi⟩

/-- An own row of pieces, told as a slice of pieces. -/
theorem sgCells_get : ∀ {l : List Sg} {i j : Nat} {g : Sg}, l[i]? = some g → j < 7 → (sgCells l)[i * 7 + j]? = g.cells[j]?
  | [], _, _, _, h, _ => by simp at h
  | x :: l, 0, j, g, h, hj => by
    simp at h; subst h
    have : sgCells (x :: l) = x.cells ++ sgCells l := rfl
    rw [this, List.getElem?_append_left (by simpa [Sg.cells] using hj)]
    simp
  | x :: l, i + 1, j, g, h, hj => by
    simp at h
    have : sgCells (x :: l) = x.cells ++ sgCells l := rfl
    have hx : x.cells.length = 7 := rfl
    rw [this, List.getElem?_append_right (by omega), hx, show (i + 1) * 7 + j - 7 = i * 7 + j by omega]
    exact sgCells_get h hj

theorem segIn_of_own {w : World} {K : Nat} {u : Value} {l : List Sg} (h : w.ownsRow K 123 7 u l.length (sgCells l)) (hl : l.length ≤ 1000) (hok : ∀ e ∈ l, e.ok) (d : Nat) (hd : d < w.heap.size) :
    ∃ b, SegIn w b u l ∧ b < w.heap.size ∧ (b = d ∨ K ≤ b) := by
  rcases h.2 with ⟨rfl, h0⟩ | ⟨g, cap, cur, rfl, hB, hg, hrest⟩
  · have : l = [] := List.eq_nil_of_length_eq_zero h0
    subst this
    exact ⟨d, ⟨0, none, rfl, by simp, fun h => absurd rfl h, (fun e he => by cases he), (fun i g hi => by simp at hi)⟩, hd, .inl rfl⟩
  · refine ⟨g, ⟨cap, _, rfl, hl, fun _ => rfl, hok, fun i x hi => ?_⟩, (Array.getElem?_eq_some_iff.1 hg).1, .inr hB⟩
    have key : ∀ j y, j < 7 → x.cells[j]? = some y → w.cell? ⟨g, i * 7 + j, none⟩ = some y := fun j y hj hy => by
      have := h.cells (g := g) rfl (i * 7 + j) y ((sgCells_get hi hj).trans hy)
      rwa [show ((⟨g, 0, none⟩ : Addr).add (i * 7 + j)) = ⟨g, i * 7 + j, none⟩ by unfold Addr.add; split <;> simp_all] at this
    exact ⟨key 0 _ (by omega) rfl, key 1 _ (by omega) rfl, key 2 _ (by omega) rfl, key 3 _ (by omega) rfl, key 4 _ (by omega) rfl, key 5 _ (by omega) rfl, key 6 _ (by omega) rfl⟩

/-- An own row, with another one behind it. -/
theorem wpList_append_rows {w : World} {ops : Array Oper} {rest : List Oper} {o : Oper} {a : Act} {Q : Exit → Act → World → Prop} (hgd : o.guard = none) (s x : Operand) (t : TypeId)
    (ho : o.op = .call { callee := .builtin .append, args := #[s, x], argTypes := #[t, t] })
    (base : Nat) (e : TypeId) (i : TypeInfo) (z : Value) (size bytes : Nat) (ht : Try.prog.underlying t = some (.slice e)) (hi : Try.prog.info? e = some i) (hz : i.zero = some z)
    (hsize : i.size = size) (hby : i.bytes = bytes) (hzs : z.cells.size = size) (hsz : 0 < size)
    (v : Value) (n : Nat) (xs : List Value) (hs : a.eval s = v) (hown : w.ownsRow base e size v n xs)
    (u : Value) (m base' : Nat) (ys : List Value) (hx : a.eval x = u) (hu : w.ownsRow base' e size u m ys) (h1 : ∀ y ∈ ys, y.oneCell' = true)
    (h63 : n + m ≤ maxLen) (hbytes : (n + m) * bytes ≤ 140737488355328) (hbase : base ≤ w.heap.size)
    (h : ∀ v' w', w'.ownsRow base e size v' (n + m) (xs ++ ys) → w.grownBy w' v.ownBlock → (v'.ownBlock = v.ownBlock ∨ v'.ownBlock = some w.heap.size) → wpList Try.prog ops Q rest (a.put o.dst v') w') :
    wpList Try.prog ops Q (o :: rest) a w := by
  have hu' := hu
  rcases hu.2 with ⟨rfl, rfl⟩ | ⟨g, cap, cur, rfl, hB, hg, hrest⟩
  · have : ys = [] := List.eq_nil_of_length_eq_zero (by have := hu.1; omega)
    subst this
    exact wpList_append_own_none hgd s x t ho base e i size ht hi v n xs hs hown hx (h v w (by simpa using hown) ⟨rfl, rfl, rfl, Nat.le_refl _, fun _ _ _ => rfl⟩ (.inl rfl))
  · exact wpList_append_own_at w hgd s x t ho base e i z size bytes ht hi hz hsize hby hzs hsz v n xs hs hown ⟨g, 0, none⟩ m cap ys hx hu.1 (hu'.cells rfl) h1 h63 hbytes hbase fun v' w' k1 k2 _ k4 => h v' w' k1 k2 k4

theorem grown_own {w w1 : World} {B K : Nat} {e : TypeId} {sz : Nat} {v : Value} {n : Nat} {xs : List Value} {a : World} (h : Below K a w) (hg : w.grownBy w1 v.ownBlock) (ho : w.ownsRow B e sz v n xs) (hKB : K ≤ B) (hK : K ≤ w.heap.size) : Below K a w1 :=
  h.grown hg hK fun k hk => Nat.le_trans hKB (ho.lt k hk).1

end Go.Proofs.Ytadohkidfkbncaa
