/-
  The walks of path: points, the end of a piece.
-/
import Derived.Test.YtadohkidfkbncaaMem
import Derived.Test.YtadohkidfkbncaaPath
import Derived.Deep.AppendLies
import Derived.Deep.RegionLaw
import Derived.Test.YtadohkidfkbncaaTail
namespace Go.Proofs.Ytadohkidfkbncaa
open Go.RowKit
set_option linter.unusedSimpArgs false

theorem info_seg : (Try.prog.info? 123).map (fun i => (i.zero, i.size, i.bytes)) = some (some (.agg #[(.int .i64 (0)), (.int .i64 (0)), (.int .i64 (0)), (.int .i64 (0)), (.int .i64 (0)), (.int .i64 (0)), .bool false]), 7, 56) := by kernel_rfl

theorem build_seg0 (a b c d e f : Value) (w : World) : (Instr.build 123 #[(0, .agg #[a, b]), (1, .agg #[c, d]), (2, .agg #[e, f])]).run Try.prog w = .ok (.agg #[a, b, c, d, e, f, .bool false]) w := by kernel_rfl
theorem build_seg1 (a b c d e f : Value) (w : World) : (Instr.build 123 #[(0, .agg #[a, b]), (1, .agg #[c, d]), (2, .agg #[e, f]), (3, .bool true)]).run Try.prog w = .ok (.agg #[a, b, c, d, e, f, .bool true]) w := by kernel_rfl
theorem slice_seg (a b c d e f g : Value) (w : World) : (Instr.buildSlice 99 1 #[(0, .agg #[a, b, c, d, e, f, g])]).run Try.prog w = .ok (.slice (some ⟨w.heap.size, 0, none⟩) 1 1) (w.alloc (.cells #[a, b, c, d, e, f, g] 123)) := by kernel_rfl

/-- The cells of pieces. -/
def Sg.cells (g : Sg) : List Value := [(.int .i64 (g.ax)), (.int .i64 (g.ay)), (.int .i64 (g.bx)), (.int .i64 (g.bz)), (.int .i64 (g.cx)), (.int .i64 (g.cy)), .bool g.curve]
def sgCells (l : List Sg) : List Value := l.flatMap Sg.cells

theorem sgCells_snoc (l : List Sg) (g : Sg) : sgCells (l ++ [g]) = sgCells l ++ g.cells := by simp [sgCells]
theorem sgCells_one (l : List Sg) : ∀ u ∈ sgCells l, u.oneCell' = true := by
  intro u hu
  obtain ⟨g, _, h⟩ := List.mem_flatMap.1 hu
  simp only [Sg.cells, List.mem_cons, List.not_mem_nil, or_false] at h
  rcases h with rfl | rfl | rfl | rfl | rfl | rfl | rfl <;> rfl

theorem sg_one (g : Sg) : ∀ u ∈ g.cells, u.oneCell' = true := fun x hx => sgCells_one [g] x (by simpa [sgCells] using hx)

theorem news_seg (w : World) (g : Sg) : ∀ j u, g.cells[j]? = some u → (w.alloc (.cells #[(.int .i64 (g.ax)), (.int .i64 (g.ay)), (.int .i64 (g.bx)), (.int .i64 (g.bz)), (.int .i64 (g.cx)), (.int .i64 (g.cy)), .bool g.curve] 123)).cell? ((⟨w.heap.size, 0, none⟩ : Addr).add j) = some u := by
  intro j x hx
  refine World.news_of_block (cs := g.cells.toArray) (t := 123) (fr := (0, 0)) ?_ j x (by simpa using hx)
  have hn := heap_alloc_new w (.cells g.cells.toArray 123)
  simpa [Sg.cells] using hn

def Vtx.val (v : Vtx) : Value := .agg #[(.int .i64 (v.x)), (.int .i64 (v.y)), .bool v.on]

theorem at_c (v : Vtx) (w : World) (hv : v.ok) :
    Calls Try.prog 76 #[v.val] w fun r w' => r = .returned (.agg #[(.int .i64 (2 * v.x)), (.int .i64 (2 * v.y))]) ∧ Below w.heap.size w w' := by
  obtain ⟨⟨h1, h2⟩, h3, h4⟩ := hv
  unfold Vtx.val
  go_enter Try.func76, Try.ntmps76
  go_wp2
  go_returns
  exact ⟨rfl, (by repeat' (first | (with_reducible exact Below.refl _ _) | (with_reducible assumption) | (with_reducible refine below_drewN ?_ _) | (with_reducible refine Below.alloc ?_ ?_ _) | (with_reducible refine Below.drew ?_) | (with_reducible refine Below.setCell ?_ ?_ _) | (with_reducible refine below_var ?_ ?_ (by assumption)) | (with_reducible refine below_own' ?_ (by assumption) (by assumption) ?_ ?_) | go_size))⟩

theorem half_c (v u : Vtx) (w : World) (hv : v.ok) (hu : u.ok) :
    Calls Try.prog 75 #[v.val, u.val] w fun r w' => r = .returned (.agg #[(.int .i64 (v.x + u.x)), (.int .i64 (v.y + u.y))]) ∧ Below w.heap.size w w' := by
  obtain ⟨⟨h1, h2⟩, h3, h4⟩ := hv
  obtain ⟨⟨g1, g2⟩, g3, g4⟩ := hu
  unfold Vtx.val
  go_enter Try.func75, Try.ntmps75
  go_wp2
  go_returns
  exact ⟨rfl, (by repeat' (first | (with_reducible exact Below.refl _ _) | (with_reducible assumption) | (with_reducible refine below_drewN ?_ _) | (with_reducible refine Below.alloc ?_ ?_ _) | (with_reducible refine Below.drew ?_) | (with_reducible refine Below.setCell ?_ ?_ _) | (with_reducible refine below_var ?_ ?_ (by assumption)) | (with_reducible refine below_own' ?_ (by assumption) (by assumption) ?_ ?_) | go_size))⟩

/-- Where the point that pulls lies. -/
def PullAt (w : World) (P V : Nat) : Option Vtx → Prop
  | none => w.cell? ⟨P, 0, none⟩ = some (.pointer none)
  | some v => w.cell? ⟨P, 0, none⟩ = some (.pointer (some ⟨V, 0, none⟩)) ∧ w.cell? ⟨V, 0, none⟩ = some (.int .i64 (v.x)) ∧ w.cell? ⟨V, 1, none⟩ = some (.int .i64 (v.y)) ∧ w.cell? ⟨V, 2, none⟩ = some (.bool v.on)

/-- What one call of the end of a piece may change. -/
structure Ends (w w' : World) (H O : Nat) (row : Option Nat) : Prop where
  os : w'.os = w.os
  tape : w'.tape = w.tape
  output : w'.output = w.output
  size : w.heap.size ≤ w'.heap.size
  block : ∀ k, k < w.heap.size → k ≠ H → k ≠ O → some k ≠ row → w'.heap[k]? = w.heap[k]?

theorem Ends.refl (w : World) (H O : Nat) (row : Option Nat) : Ends w w H O row := ⟨rfl, rfl, rfl, Nat.le_refl _, fun _ _ _ _ _ => rfl⟩
theorem Ends.set {w w' : World} {H O : Nat} {row : Option Nat} (h : Ends w w' H O row) (a : Addr) (v : Value) (ha : a.block = H ∨ a.block = O) : Ends w (w'.setCell a v) H O row :=
  ⟨h.os, h.tape, h.output, by simpa using h.size, fun k hk h1 h2 h3 => (heap_setCell_other w' a k v (by rcases ha with e | e <;> omega)).trans (h.block k hk h1 h2 h3)⟩
theorem Ends.below {w w' w2 : World} {H O : Nat} {row : Option Nat} (h : Ends w w' H O row) (hb : Below w'.heap.size w' w2) : Ends w w2 H O row :=
  ⟨hb.os.trans h.os, hb.tape.trans h.tape, hb.output.trans h.output, Nat.le_trans h.size hb.size, fun k hk h1 h2 h3 => (hb.block k (Nat.lt_of_lt_of_le hk h.size)).trans (h.block k hk h1 h2 h3)⟩
theorem Ends.grown {w w' w2 : World} {H O : Nat} {row : Option Nat} (h : Ends w w' H O row) (hb : w'.grownBy w2 row) : Ends w w2 H O row :=
  ⟨hb.os.trans h.os, hb.tape.trans h.tape, hb.output.trans h.output, Nat.le_trans h.size hb.size, fun k hk h1 h2 h3 => (hb.block k (Nat.lt_of_lt_of_le hk h.size) h3).trans (h.block k hk h1 h2 h3)⟩

theorem below_alloc (w : World) (o : Obj) : Below w.heap.size w (w.alloc o) := (by repeat' (first | (with_reducible exact Below.refl _ _) | (with_reducible assumption) | (with_reducible refine below_drewN ?_ _) | (with_reducible refine Below.alloc ?_ ?_ _) | (with_reducible refine Below.drew ?_) | (with_reducible refine Below.setCell ?_ ?_ _) | (with_reducible refine below_var ?_ ?_ (by assumption)) | (with_reducible refine below_own' ?_ (by assumption) (by assumption) ?_ ?_) | go_size))

theorem ownsRow_set {w : World} {B : Nat} {e : TypeId} {sz : Nat} {v : Value} {n : Nat} {xs : List Value} (h : w.ownsRow B e sz v n xs) {a : Addr} (ha : a.block < B) (x : Value) : (w.setCell a x).ownsRow B e sz v n xs := by
  obtain ⟨h1, h2⟩ := h
  refine ⟨h1, ?_⟩
  rcases h2 with h2 | ⟨g, cap, cur, rfl, hB, hg, rest⟩
  · exact .inl h2
  · exact .inr ⟨g, cap, cur, rfl, hB, (heap_setCell_other w a g x (by omega)).trans hg, rest⟩

/-- A block that is not the row's own. -/
theorem grown_at {w w1 : World} {v : Value} (hg : w.grownBy w1 v.ownBlock) {b : Nat} (hne : v.ownBlock ≠ some b) (hlt : b < w.heap.size) :
    (∀ o, w1.cell? ⟨b, o, none⟩ = w.cell? ⟨b, o, none⟩) ∧ (∀ o, w1.frozen? ⟨b, o, none⟩ = w.frozen? ⟨b, o, none⟩) :=
  ⟨fun o => hg.cell_far ⟨b, o, none⟩ hlt (fun e => hne e.symm), fun o => hg.frozen_far ⟨b, o, none⟩ hlt (fun e => hne e.symm)⟩

theorem own_ne {w : World} {B : Nat} {e : TypeId} {sz : Nat} {v : Value} {n : Nat} {xs : List Value} (h : w.ownsRow B e sz v n xs) {b : Nat} (hb : b < B ∨ w.heap.size ≤ b) : v.ownBlock ≠ some b := fun e => by
  have := h.lt _ e
  omega

set_option maxHeartbeats 1600000 in
theorem end0_c (s : St) (px py : Int) (K H O P : Nat) (u : Value) (w : World)
    (hx : w.cell? ⟨H, 0, none⟩ = some (.int .i64 (s.hx))) (hy : w.cell? ⟨H, 1, none⟩ = some (.int .i64 (s.hy))) (fx : w.frozen? ⟨H, 0, none⟩ = false) (fy : w.frozen? ⟨H, 1, none⟩ = false)
    (ho : w.cell? ⟨O, 0, none⟩ = some u) (fo : w.frozen? ⟨O, 0, none⟩ = false) (hown : w.ownsRow K 123 7 u s.segs.length (sgCells s.segs)) (hK : K ≤ w.heap.size)
    (hH : H < K) (hO : O < K) (hHO : H ≠ O) (hl : s.segs.length ≤ 1000)
    (hp : w.cell? ⟨P, 0, none⟩ = some (.pointer none)) (hP : s.pull = none) :
    Calls Try.prog 77 #[.agg #[(.int .i64 (px)), (.int .i64 (py))], .pointer (some ⟨P, 0, none⟩), .pointer (some ⟨O, 0, none⟩), .pointer (some ⟨H, 0, none⟩)] w fun r w' =>
      r = .returned (.tuple #[]) ∧ Ends w w' H O u.ownBlock ∧
      w'.cell? ⟨H, 0, none⟩ = some (.int .i64 (px)) ∧ w'.cell? ⟨H, 1, none⟩ = some (.int .i64 (py)) ∧ w'.frozen? ⟨H, 0, none⟩ = false ∧ w'.frozen? ⟨H, 1, none⟩ = false ∧
      ∃ u', w'.cell? ⟨O, 0, none⟩ = some u' ∧ w'.frozen? ⟨O, 0, none⟩ = false ∧ w'.ownsRow K 123 7 u' (s.fin px py).segs.length (sgCells (s.fin px py).segs) ∧ (u'.ownBlock = u.ownBlock ∨ ∃ g, u'.ownBlock = some g ∧ w.heap.size ≤ g) := by
  obtain ⟨i0, hi, hz0, hz1, hz2⟩ := info_parts info_seg
  have nH := blt hx
  have nO := blt ho
  have HL := Lib.hid hl
  have HP := Lib.hid hP
  clear hl hP
  have nP := blt hp
  obtain ⟨hX, eX⟩ : ∃ z, z = s.hx := ⟨_, rfl⟩
  obtain ⟨hY, eY⟩ : ∃ z, z = s.hy := ⟨_, rfl⟩
  rw [← eX] at hx
  rw [← eY] at hy
  have EX := Lib.hid eX
  have EY := Lib.hid eY
  clear eX eY
  go_enter Try.func77, Try.ntmps77
  have hb0 := build_seg0
  have hb1 := slice_seg
  go_wp2_with (at_builtin; go_must (refine wpList_append_lies _ rfl _ _ 99 rfl K 123 i0 _ 7 56 Try.underlying99 hi hz0 hz1 hz2 rfl (by decide) u s.segs.length (sgCells s.segs) rfl (hown.alloc _ |>.alloc _) ⟨_, 0, none⟩ 1 1 (⟨hX, hY, hX, hY, px, py, false⟩ : Sg).cells rfl rfl ?c2 ?c3 (by decide) ?c4 ?c5 ?c6 _ rfl ?_))
  case c2 =>
    intro j x hx
    refine World.news_of_block (cs := (⟨hX, hY, hX, hY, px, py, false⟩ : Sg).cells.toArray) (t := 123) (fr := (0, 0)) ?_ j x (by simpa using hx)
    have hn := heap_alloc_new (w.alloc (.cells #[(.int .i64 (px)), (.int .i64 (py))] 34)) (.cells (⟨hX, hY, hX, hY, px, py, false⟩ : Sg).cells.toArray 123)
    simpa [Sg.cells] using hn
  case c3 => intro x hx; exact sgCells_one [_] x (by simpa [sgCells] using hx)
  case c4 => have := HL.out; unfold maxLen; omega
  case c5 => have := HL.out; omega
  case c6 => simp; omega
  intro ga cap wa hown2 hgrow hat hlta
  have hzg := hgrow.size
  simp only [World.size_alloc] at hzg
  obtain ⟨a1, a2⟩ := grown_at hgrow (own_ne hown (.inl hH)) (by simp; omega)
  obtain ⟨a3, a4⟩ := grown_at hgrow (own_ne hown (.inl hO)) (by simp; omega)
  obtain ⟨a5, a6⟩ := grown_at hgrow (b := w.heap.size) (own_ne hown (.inr (Nat.le_refl _))) (by simp; omega)
  have e1 : wa.cell? ⟨H, 0, none⟩ = some (.int .i64 (hX)) := (a1 _).trans (by go_simp)
  have e2 : wa.cell? ⟨H, 1, none⟩ = some (.int .i64 (hY)) := (a1 _).trans (by go_simp)
  have e3 : wa.frozen? ⟨H, 0, none⟩ = false := (a2 _).trans (by go_simp)
  have e4 : wa.frozen? ⟨H, 1, none⟩ = false := (a2 _).trans (by go_simp)
  have e5 : wa.cell? ⟨O, 0, none⟩ = some u := (a3 _).trans (by go_simp)
  have e6 : wa.frozen? ⟨O, 0, none⟩ = false := (a4 _).trans (by go_simp)
  have e7 : wa.cell? ⟨w.heap.size, 0, none⟩ = some (.int .i64 (px)) := (a5 _).trans (by go_simp)
  have e8 : wa.cell? ⟨w.heap.size, 1, none⟩ = some (.int .i64 (py)) := (a5 _).trans (by go_simp)
  clear a1 a2 a3 a4 a5 a6
  have hE0 : Ends w wa H O u.ownBlock := by
    refine Ends.grown (Ends.below (Ends.refl w H O _) ?_) hgrow
    exact (by repeat' (first | (with_reducible exact Below.refl _ _) | (with_reducible assumption) | (with_reducible refine below_drewN ?_ _) | (with_reducible refine Below.alloc ?_ ?_ _) | (with_reducible refine Below.drew ?_) | (with_reducible refine Below.setCell ?_ ?_ _) | (with_reducible refine below_var ?_ ?_ (by assumption)) | (with_reducible refine below_own' ?_ (by assumption) (by assumption) ?_ ?_) | go_size))
  clear hgrow
  go_wp2_with fail
  refine bodyPost_end (results_none rfl _ _ _) rfl ?_
  refine ⟨rfl, ?_, ?_, ?_, ?_, ?_, .slice (some ⟨ga, 0, none⟩) (s.segs.length + 1) cap, ?_, ?_, ?_, ?_⟩
  · exact ((hE0.set _ _ (by simp)).set _ _ (by simp)).set _ _ (by simp)
  all_goals try (go_simp; done)
  · unfold St.fin
    rw [List.length_append, sgCells_snoc]
    have hpc : s.piece px py = ⟨hX, hY, hX, hY, px, py, false⟩ := by unfold St.piece; rw [HP.out, EX.out, EY.out]
    rw [hpc]
    exact ownsRow_set (ownsRow_set (ownsRow_set hown2 (by simp; omega) _) (by simp; omega) _) (by simp; omega) _
  · rcases hat with h | h
    · exact .inl h.symm
    · exact .inr ⟨ga, rfl, by omega⟩

set_option maxHeartbeats 1600000 in
theorem end1_c (s : St) (v : Vtx) (px py : Int) (K H O P V : Nat) (u : Value) (w : World)
    (hx : w.cell? ⟨H, 0, none⟩ = some (.int .i64 (s.hx))) (hy : w.cell? ⟨H, 1, none⟩ = some (.int .i64 (s.hy))) (fx : w.frozen? ⟨H, 0, none⟩ = false) (fy : w.frozen? ⟨H, 1, none⟩ = false)
    (ho : w.cell? ⟨O, 0, none⟩ = some u) (fo : w.frozen? ⟨O, 0, none⟩ = false) (hown : w.ownsRow K 123 7 u s.segs.length (sgCells s.segs)) (hK : K ≤ w.heap.size)
    (hH : H < K) (hO : O < K) (hHO : H ≠ O) (hl : s.segs.length ≤ 1000)
    (hp : w.cell? ⟨P, 0, none⟩ = some (.pointer (some ⟨V, 0, none⟩))) (v0 : w.cell? ⟨V, 0, none⟩ = some (.int .i64 (v.x))) (v1 : w.cell? ⟨V, 1, none⟩ = some (.int .i64 (v.y))) (v2 : w.cell? ⟨V, 2, none⟩ = some (.bool v.on))
    (hv : v.ok) (hP : s.pull = some v) (hPK : P < K) (hVu : u.ownBlock ≠ some V) :
    Calls Try.prog 77 #[.agg #[(.int .i64 (px)), (.int .i64 (py))], .pointer (some ⟨P, 0, none⟩), .pointer (some ⟨O, 0, none⟩), .pointer (some ⟨H, 0, none⟩)] w fun r w' =>
      r = .returned (.tuple #[]) ∧ Ends w w' H O u.ownBlock ∧
      w'.cell? ⟨H, 0, none⟩ = some (.int .i64 (px)) ∧ w'.cell? ⟨H, 1, none⟩ = some (.int .i64 (py)) ∧ w'.frozen? ⟨H, 0, none⟩ = false ∧ w'.frozen? ⟨H, 1, none⟩ = false ∧
      ∃ u', w'.cell? ⟨O, 0, none⟩ = some u' ∧ w'.frozen? ⟨O, 0, none⟩ = false ∧ w'.ownsRow K 123 7 u' (s.fin px py).segs.length (sgCells (s.fin px py).segs) ∧ (u'.ownBlock = u.ownBlock ∨ ∃ g, u'.ownBlock = some g ∧ w.heap.size ≤ g) := by
  obtain ⟨i0, hi, hz0, hz1, hz2⟩ := info_parts info_seg
  have nH := blt hx
  have nO := blt ho
  have HL := Lib.hid hl
  have HP := Lib.hid hP
  have HV := Lib.hid hv
  clear hl hP hv
  have nP := blt hp
  have nV := blt v0
  obtain ⟨hX, eX⟩ : ∃ z, z = s.hx := ⟨_, rfl⟩
  obtain ⟨hY, eY⟩ : ∃ z, z = s.hy := ⟨_, rfl⟩
  obtain ⟨vX, eVX⟩ : ∃ z, z = v.x := ⟨_, rfl⟩
  obtain ⟨vY, eVY⟩ : ∃ z, z = v.y := ⟨_, rfl⟩
  obtain ⟨vO, eVO⟩ : ∃ z, z = v.on := ⟨_, rfl⟩
  rw [← eX] at hx
  rw [← eY] at hy
  rw [← eVX] at v0
  rw [← eVY] at v1
  rw [← eVO] at v2
  have EX := Lib.hid eX
  have EY := Lib.hid eY
  have EV := Lib.hid (show v = ⟨vX, vY, vO⟩ by rw [eVX, eVY, eVO])
  clear eX eY eVX eVY eVO
  go_enter Try.func77, Try.ntmps77
  have hbs := build_seg1
  have hbt := slice_seg
  go_upto_region 3 with fail
  refine wp_gen ?_
  intro W hW
  have hk : Below w.heap.size w W := by rw [← hW]; exact (by repeat' (first | (with_reducible exact Below.refl _ _) | (with_reducible assumption) | (with_reducible refine below_drewN ?_ _) | (with_reducible refine Below.alloc ?_ ?_ _) | (with_reducible refine Below.drew ?_) | (with_reducible refine Below.setCell ?_ ?_ _) | (with_reducible refine below_var ?_ ?_ (by assumption)) | (with_reducible refine below_own' ?_ (by assumption) (by assumption) ?_ ?_) | go_size))
  have b0 : W.cell? ⟨w.heap.size, 0, none⟩ = some (.int .i64 (px)) := by rw [← hW]; simp [go_sem]
  have b1 : W.cell? ⟨w.heap.size, 1, none⟩ = some (.int .i64 (py)) := by rw [← hW]; simp [go_sem]
  have hownW := ownsRow_below hown hk
  have nW : w.heap.size < W.heap.size := by rw [← hW]; simp
  clear hW
  replace fx := (hk.frozen (World.block_lt_of_cell? _ _ hx)).trans fx
  replace fy := (hk.frozen (World.block_lt_of_cell? _ _ hy)).trans fy
  replace fo := (hk.frozen (World.block_lt_of_cell? _ _ ho)).trans fo
  replace hx := (hk.cell (World.block_lt_of_cell? _ _ hx)).trans hx
  replace hy := (hk.cell (World.block_lt_of_cell? _ _ hy)).trans hy
  replace ho := (hk.cell (World.block_lt_of_cell? _ _ ho)).trans ho
  replace hp := (hk.cell (World.block_lt_of_cell? _ _ hp)).trans hp
  replace v0 := (hk.cell (World.block_lt_of_cell? _ _ v0)).trans v0
  replace v1 := (hk.cell (World.block_lt_of_cell? _ _ v1)).trans v1
  replace v2 := (hk.cell (World.block_lt_of_cell? _ _ v2)).trans v2
  refine wp_region_last' (S := fun w' => w'.cell? ⟨O, 0, none⟩ = some u ∧ w'.cell? ⟨H, 0, none⟩ = some (.int .i64 (hX)) ∧ w'.cell? ⟨H, 1, none⟩ = some (.int .i64 (hY)) ∧ w'.cell? ⟨P, 0, none⟩ = some (.pointer (some ⟨V, 0, none⟩)) ∧ w'.cell? ⟨V, 0, none⟩ = some (.int .i64 (vX)) ∧ w'.cell? ⟨V, 1, none⟩ = some (.int .i64 (vY)) ∧ w'.cell? ⟨V, 2, none⟩ = some (.bool vO) ∧ w'.cell? ⟨w.heap.size, 0, none⟩ = some (.int .i64 (px)) ∧ w'.cell? ⟨w.heap.size, 1, none⟩ = some (.int .i64 (py))) rfl (by kernel_rfl) (by kernel_rfl) ⟨ho, hx, hy, hp, v0, v1, v2, b0, b1⟩ (fun hHeld => ?_)
  refine heldTake (i := 0) (v := ?_) rfl (by kernel_rfl) (by kernel_rfl) (by kernel_rfl) (fun _ _ _ h => h) (by assumption) (Or.inl ⟨by rfl, ?_⟩) ?_
  rotate_left
  · (intro w hSw; (try dsimp only at hSw); go_simp; try with_reducible rfl)
  (try simp only [Act.put, List.setIfInBounds_toArray, List.set_cons_zero, List.set_cons_succ])
  refine heldTake (i := 1) (v := ?_) rfl (by kernel_rfl) (by kernel_rfl) (by kernel_rfl) (fun _ _ _ h => h) (by assumption) (Or.inl ⟨by rfl, ?_⟩) ?_
  rotate_left
  · (intro w hSw; (try dsimp only at hSw); go_simp; try with_reducible rfl)
  (try simp only [Act.put, List.setIfInBounds_toArray, List.set_cons_zero, List.set_cons_succ])
  refine heldTake (i := 2) (v := ?_) rfl (by kernel_rfl) (by kernel_rfl) (by kernel_rfl) (fun _ _ _ h => h) (by assumption) (Or.inl ⟨by rfl, ?_⟩) ?_
  rotate_left
  · (intro w hSw; (try dsimp only at hSw); go_simp; try with_reducible rfl)
  (try simp only [Act.put, List.setIfInBounds_toArray, List.set_cons_zero, List.set_cons_succ])
  refine heldTake (i := 3) (v := ?_) rfl (by kernel_rfl) (by kernel_rfl) (by kernel_rfl) (fun _ _ _ h => h) (by assumption) (Or.inl ⟨by rfl, ?_⟩) ?_
  rotate_left
  · (intro w hSw; (try dsimp only at hSw); go_simp; try with_reducible rfl)
  (try simp only [Act.put, List.setIfInBounds_toArray, List.set_cons_zero, List.set_cons_succ])
  refine heldTake (i := 4) (v := ?_) rfl (by kernel_rfl) (by kernel_rfl) (by kernel_rfl) (fun _ _ _ h => h) (by assumption) (Or.inl ⟨by rfl, ?_⟩) ?_
  rotate_left
  · (intro w hSw; (try dsimp only at hSw); go_simp; try with_reducible rfl)
  (try simp only [Act.put, List.setIfInBounds_toArray, List.set_cons_zero, List.set_cons_succ])
  refine heldTake (i := 6) (v := ?_) rfl (by kernel_rfl) (by kernel_rfl) (by kernel_rfl) (fun _ _ _ h => h) (by assumption) (Or.inl ⟨by rfl, ?_⟩) ?_
  rotate_left
  · (intro w hSw; (try dsimp only at hSw); go_simp; try with_reducible rfl)
  (try simp only [Act.put, List.setIfInBounds_toArray, List.set_cons_zero, List.set_cons_succ])
  refine heldOne (i := 5) rfl (by kernel_rfl) (by rfl) (fun K' hK' => ?_)
  go_simp
  go_at_call 76
  refine (at_c ⟨vX, vY, vO⟩ _ (by rw [← EV.out]; exact HV.out)).mono ?_
  rintro e w' ⟨rfl, hb⟩
  obtain ⟨hc, hf, hs⟩ := bcell3 hb
  have hz := hb.size
  simp only [World.size_drew] at hz hc hf
  have a1 : w'.cell? ⟨H, 0, none⟩ = some (.int .i64 (hX)) := (hc _ _ (by omega)).trans hx
  have a2 : w'.cell? ⟨H, 1, none⟩ = some (.int .i64 (hY)) := (hc _ _ (by omega)).trans hy
  have a3 : w'.frozen? ⟨H, 0, none⟩ = false := (hf _ _ (by omega)).trans fx
  have a4 : w'.frozen? ⟨H, 1, none⟩ = false := (hf _ _ (by omega)).trans fy
  have a5 : w'.cell? ⟨O, 0, none⟩ = some u := (hc _ _ (by omega)).trans ho
  have a6 : w'.frozen? ⟨O, 0, none⟩ = false := (hf _ _ (by omega)).trans fo
  have a7 : w'.cell? ⟨w.heap.size, 0, none⟩ = some (.int .i64 (px)) := (hc _ _ (by omega)).trans b0
  have a8 : w'.cell? ⟨w.heap.size, 1, none⟩ = some (.int .i64 (py)) := (hc _ _ (by omega)).trans b1
  have a9 : w'.cell? ⟨P, 0, none⟩ = some (.pointer (some ⟨V, 0, none⟩)) := (hc _ _ (by omega)).trans hp
  have aa : w'.cell? ⟨V, 0, none⟩ = some (.int .i64 (vX)) := (hc _ _ (by omega)).trans v0
  have ab : w'.cell? ⟨V, 1, none⟩ = some (.int .i64 (vY)) := (hc _ _ (by omega)).trans v1
  have ac : w'.cell? ⟨V, 2, none⟩ = some (.bool vO) := (hc _ _ (by omega)).trans v2
  have q1 : H < w'.heap.size := (by omega)
  have q2 : O < w'.heap.size := (by omega)
  have q3 : w.heap.size < w'.heap.size := (by omega)
  have q4 : P < w'.heap.size := (by omega)
  have q5 : V < w'.heap.size := (by omega)
  have hownE := ownsRow_below (show World.ownsRow W.drew K 123 7 u s.segs.length (sgCells s.segs) from hownW) hb
  have hkE : Below w.heap.size w w' := (by repeat' (first | (with_reducible exact Below.refl _ _) | (with_reducible assumption) | (with_reducible refine below_drewN ?_ _) | (with_reducible refine Below.alloc ?_ ?_ _) | (with_reducible refine Below.drew ?_) | (with_reducible refine Below.setCell ?_ ?_ _) | (with_reducible refine below_var ?_ ?_ (by assumption)) | (with_reducible refine below_own' ?_ (by assumption) (by assumption) ?_ ?_) | go_size))
  clear hc hf hs
  refine hK'.out _ _ ⟨a5, a1, a2, a9, aa, ab, ac, a7, a8⟩ (fun hHeld => ?_)
  clear hK' K'
  (try simp only [Act.put, List.setIfInBounds_toArray, List.set_cons_zero, List.set_cons_succ])
  refine heldTake (i := 7) (v := ?_) rfl (by kernel_rfl) (by kernel_rfl) (by kernel_rfl) (fun _ _ _ h => h) (by assumption) (Or.inl ⟨by rfl, ?_⟩) ?_
  rotate_left
  · (intro w hSw; (try dsimp only at hSw); go_simp; try with_reducible rfl)
  (try simp only [Act.put, List.setIfInBounds_toArray, List.set_cons_zero, List.set_cons_succ])
  refine heldOne (i := 8) rfl (by kernel_rfl) (by rfl) (fun K' hK' => ?_)
  go_simp
  refine hK'.out _ _ ⟨by go_simp, by go_simp, by go_simp, by go_simp, by go_simp, by go_simp, by go_simp, by go_simp, by go_simp⟩ (fun hHeld => ?_)
  clear hK' K'
  (try simp only [Act.put, List.setIfInBounds_toArray, List.set_cons_zero, List.set_cons_succ])
  refine heldOne (i := 9) rfl (by kernel_rfl) (by rfl) (fun K' hK' => ?_)
  refine wp_append_lies _ _ _ 99 rfl K 123 i0 _ 7 56 Try.underlying99 hi hz0 hz1 hz2 rfl (by decide) u s.segs.length (sgCells s.segs) rfl (hownE.alloc _) ⟨_, 0, none⟩ 1 1 (⟨hX, hY, 2 * vX, 2 * vY, px, py, true⟩ : Sg).cells rfl rfl (news_seg _ _) (sg_one _) (by decide) (by have := HL.out; unfold maxLen; omega) (by have := HL.out; omega) (by simp; omega) _ rfl ?_
  intro ga cap wa hown2 hgrow hat hlta
  have hzg := hgrow.size
  simp only [World.size_alloc] at hzg
  obtain ⟨g1, g2⟩ := grown_at hgrow (own_ne hown (.inl hH)) (by simp; omega)
  obtain ⟨g3, g4⟩ := grown_at hgrow (own_ne hown (.inl hO)) (by simp; omega)
  obtain ⟨g5, g6⟩ := grown_at hgrow (b := w.heap.size) (own_ne hown (.inr (Nat.le_refl _))) (by simp; omega)
  obtain ⟨g7, _⟩ := grown_at hgrow (own_ne hown (.inl hPK)) (by simp; omega)
  obtain ⟨g8, _⟩ := grown_at hgrow hVu (by simp; omega)
  have e1 : wa.cell? ⟨H, 0, none⟩ = some (.int .i64 (hX)) := (g1 _).trans (by go_simp)
  have e2 : wa.cell? ⟨H, 1, none⟩ = some (.int .i64 (hY)) := (g1 _).trans (by go_simp)
  have e3 : wa.frozen? ⟨H, 0, none⟩ = false := (g2 _).trans (by go_simp)
  have e4 : wa.frozen? ⟨H, 1, none⟩ = false := (g2 _).trans (by go_simp)
  have e5 : wa.cell? ⟨O, 0, none⟩ = some u := (g3 _).trans (by go_simp)
  have e6 : wa.frozen? ⟨O, 0, none⟩ = false := (g4 _).trans (by go_simp)
  have e7 : wa.cell? ⟨w.heap.size, 0, none⟩ = some (.int .i64 (px)) := (g5 _).trans (by go_simp)
  have e9 : wa.cell? ⟨P, 0, none⟩ = some (.pointer (some ⟨V, 0, none⟩)) := (g7 _).trans (by go_simp)
  have ea : wa.cell? ⟨V, 0, none⟩ = some (.int .i64 (vX)) := (g8 _).trans (by go_simp)
  have eb : wa.cell? ⟨V, 1, none⟩ = some (.int .i64 (vY)) := (g8 _).trans (by go_simp)
  have ec : wa.cell? ⟨V, 2, none⟩ = some (.bool vO) := (g8 _).trans (by go_simp)
  have e8 : wa.cell? ⟨w.heap.size, 1, none⟩ = some (.int .i64 (py)) := (g5 _).trans (by go_simp)
  clear g1 g2 g3 g4 g5 g6 g7 g8
  have hE0 : Ends w wa H O u.ownBlock := (Ends.grown (Ends.below (Ends.below (Ends.refl w H O _) hkE) (below_alloc _ _)) hgrow)
  clear hgrow
  refine hK'.out _ _ ⟨e5, e1, e2, e9, ea, eb, ec, e7, e8⟩ (fun hHeld => ?_)
  clear hK' K'
  (try simp only [Act.put, List.setIfInBounds_toArray, List.set_cons_zero, List.set_cons_succ])
  refine heldDone (by kernel_rfl) ?_ _
  all_goals
    simp only [LastQ]
    go_wp2_with fail
    refine bodyPost_end (results_none rfl _ _ _) rfl ?_
    refine ⟨rfl, ?_, ?_, ?_, ?_, ?_, .slice (some ⟨ga, 0, none⟩) (s.segs.length + 1) cap, ?_, ?_, ?_, ?_⟩
    · exact ((hE0.set _ _ (by simp)).set _ _ (by simp)).set _ _ (by simp)
    all_goals try (go_simp; done)
    · unfold St.fin
      rw [List.length_append, sgCells_snoc]
      have hpc : s.piece px py = ⟨hX, hY, 2 * vX, 2 * vY, px, py, true⟩ := by unfold St.piece; rw [HP.out, EX.out, EY.out, EV.out]
      rw [hpc]
      exact ownsRow_set (ownsRow_set (ownsRow_set hown2 (by simp; omega) _) (by simp; omega) _) (by simp; omega) _
    · rcases hat with h | h
      · exact .inl h.symm
      · exact .inr ⟨ga, rfl, by simp only [World.size_alloc] at h; omega⟩

end Go.Proofs.Ytadohkidfkbncaa
