/-
  The walk of sweep.Make.
-/
import Derived.Test.YtadohkidfkbncaaSwpC
import Derived.Test.YtadohkidfkbncaaEach
import Derived.Test.YtadohkidfkbncaaField
import Derived.Test.YtadohkidfkbncaaNest
namespace Go.Proofs.Ytadohkidfkbncaa
open Go.RowKit
set_option linter.unusedSimpArgs false
attribute [local go_sem ↓] Go.wp_at_zero Go.wp_at_succ

/-- What a texel holds that knows of an edge. -/
def swTex (es : List Edg) (g : Grd) (l : List Int) (x : Int × Int) : Int :=
  if getI l (ixOf g x.1 x.2) < 0 then code g.s (-1) (256 * g.s)
  else code g.s (signE es (cen g.x g.p x.1) (cen g.y g.p x.2)) (isqrt ((sqAt es (cen g.x g.p x.1) (cen g.y g.p x.2) (getI l (ixOf g x.1 x.2))).1 * 64 / (sqAt es (cen g.x g.p x.1) (cen g.y g.p x.2) (getI l (ixOf g x.1 x.2))).2))
def swCells (es : List Edg) (g : Grd) (l : List Int) (xs : List (Tx g)) : List Value := xs.map fun x => .int .u8 (swTex es g l x.1)

/-- What is held between two rounds. -/
structure SM (Wc : World) (es : List Edg) (g : Grd) (F : Nat) (l : List Int) (pre : List (Tx g)) (W : World) : Prop where
  ends : Wc.grownBy W (some F)
  f0 : W.cell? ⟨F, 0, none⟩ = some (.int .i64 (g.w))
  f1 : W.cell? ⟨F, 1, none⟩ = some (.int .i64 (g.h))
  row : ∃ u, W.cell? ⟨F, 2, none⟩ = some u ∧ W.ownsRow Wc.heap.size 5 1 u pre.length (swCells es g l pre)
  fz : W.frozen? ⟨F, 2, none⟩ = false
  lt : F < Wc.heap.size

theorem wp_genIn {F : Fence} {n : Nat} {P : Program} {c : Code} {Q : Exit → Act → World → Prop} {a : Act} {w : World} (h : ∀ W, w = W → c.wpIn F n P Q a W) : c.wpIn F n P Q a w := h w rfl
theorem ownsRow_turn {w w1 : World} {B : Nat} {e : TypeId} {sz : Nat} {v : Value} {n : Nat} {xs : List Value} {row : Option Nat} (h : w.ownsRow B e sz v n xs) (hg : w.grownBy w1 row) (hr : ∀ r, row = some r → ∃ o : Obj, w.heap[r]? = some o ∧ o.isCells = false) : w1.ownsRow B e sz v n xs := by
  obtain ⟨h1, h2⟩ := h
  refine ⟨h1, ?_⟩
  rcases h2 with h2 | ⟨g, cap, cur, rfl, hB, hgc, rest⟩
  · exact .inl h2
  · refine .inr ⟨g, cap, cur, rfl, hB, (hg.block g (Array.getElem?_eq_some_iff.1 hgc).1 fun e => ?_).trans hgc, rest⟩
    obtain ⟨o, ho, hc⟩ := hr g e.symm
    rw [hgc] at ho
    cases ho
    simp [Obj.isCells] at hc

theorem SM.below {Wc W W1 : World} {es : List Edg} {g : Grd} {F : Nat} {l : List Int} {pre : List (Tx g)} (h : SM Wc es g F l pre W) (hb : Below W.heap.size W W1) : SM Wc es g F l pre W1 := by
  have hlt : F < W.heap.size := Nat.lt_of_lt_of_le h.lt h.ends.size
  refine ⟨grown_below h.ends hb, (hb.cell (p := ⟨F, 0, none⟩) hlt).trans h.f0, (hb.cell (p := ⟨F, 1, none⟩) hlt).trans h.f1, ?_, (hb.frozen (p := ⟨F, 2, none⟩) hlt).trans h.fz, h.lt⟩
  obtain ⟨u, hu, ho⟩ := h.row
  exact ⟨u, (hb.cell (p := ⟨F, 2, none⟩) hlt).trans hu, ownsRow_below ho hb⟩

theorem SM.own {Wc : World} {es : List Edg} {g : Grd} {F : Nat} {l : List Int} : OwnFrom Wc.heap.size (SM Wc es g F l) := by
  intro pre W W' row h hg hr
  have hF : some F ≠ row := fun e => by have := (hr F e.symm).1; have := h.lt; omega
  have hlt : F < W.heap.size := Nat.lt_of_lt_of_le h.lt h.ends.size
  refine ⟨⟨hg.os.trans h.ends.os, hg.tape.trans h.ends.tape, hg.output.trans h.ends.output, Nat.le_trans h.ends.size hg.size, fun k hk hne => (hg.block k (Nat.lt_of_lt_of_le hk h.ends.size) (fun e => by have := (hr k e.symm).1; omega)).trans (h.ends.block k hk hne)⟩, ?_, ?_, ?_, ?_, h.lt⟩
  · exact (hg.cell_far ⟨F, 0, none⟩ hlt hF).trans h.f0
  · exact (hg.cell_far ⟨F, 1, none⟩ hlt hF).trans h.f1
  · obtain ⟨u, hu, ho⟩ := h.row
    exact ⟨u, (hg.cell_far ⟨F, 2, none⟩ hlt hF).trans hu, ownsRow_turn ho hg fun r e => (hr r e).2⟩
  · exact (hg.frozen_far ⟨F, 2, none⟩ hlt hF).trans h.fz

theorem own_cells {w : World} {B : Nat} {e : TypeId} {sz : Nat} {v : Value} {n : Nat} {xs : List Value} (h : w.ownsRow B e sz v n xs) : ∀ r, v.ownBlock = some r → ∃ cs t fr, w.heap[r]? = some (.cells cs t fr) := by
  intro r hr
  rcases h.2 with ⟨rfl, _⟩ | ⟨g, cap, cur, rfl, _, hg, _⟩
  · cases hr
  · cases hr; exact ⟨_, _, _, hg⟩

theorem SM.step {Wc W5 wa : World} {es : List Edg} {g : Grd} {F : Nat} {l : List Int} {pre : List (Tx g)} {x : Tx g} {u0 v : Value} {ga ca : Nat} (h : SM Wc es g F l pre W5) (hu : W5.cell? ⟨F, 2, none⟩ = some u0)
    (ho : W5.ownsRow Wc.heap.size 5 1 u0 pre.length (swCells es g l pre)) (hg : W5.grownBy wa u0.ownBlock) (hv : v = .int .u8 (swTex es g l x.1))
    (hown : wa.ownsRow Wc.heap.size 5 1 (.slice (some ⟨ga, 0, none⟩) (pre.length + 1) ca) (pre.length + 1) (swCells es g l pre ++ [v])) :
    SM Wc es g F l (pre ++ [x]) (wa.setCell ⟨F, 2, none⟩ (.slice (some ⟨ga, 0, none⟩) (pre.length + 1) ca)) := by
  have hltF := h.lt
  have hF5 : F < W5.heap.size := blt hu
  have hne : some F ≠ u0.ownBlock := fun e => by have := (ho.lt F e.symm).1; omega
  have c0 := (hg.cell_far ⟨F, 0, none⟩ hF5 hne).trans h.f0
  have c1 := (hg.cell_far ⟨F, 1, none⟩ hF5 hne).trans h.f1
  have c2 := (hg.cell_far ⟨F, 2, none⟩ hF5 hne).trans hu
  have f2 := (hg.frozen_far ⟨F, 2, none⟩ hF5 hne).trans h.fz
  have hBF : Below F wa (wa.setCell ⟨F, 2, none⟩ (.slice (some ⟨ga, 0, none⟩) (pre.length + 1) ca)) := Below.setCell (p := ⟨F, 2, none⟩) (Below.refl _ _) (Nat.le_refl F) _
  refine ⟨⟨hBF.os.trans (hg.os.trans h.ends.os), hBF.tape.trans (hg.tape.trans h.ends.tape), hBF.output.trans (hg.output.trans h.ends.output), Nat.le_trans h.ends.size (Nat.le_trans hg.size hBF.size), fun k hk hkF => ?_⟩, ?_, ?_, ⟨.slice (some ⟨ga, 0, none⟩) (pre.length + 1) ca, ?_, ?_⟩, by simpa using f2, hltF⟩
  · refine (heap_setCell_other wa _ k _ (fun e => hkF (by rw [e]))).trans ((hg.block k (Nat.lt_of_lt_of_le hk h.ends.size) fun e => ?_).trans (h.ends.block k hk hkF))
    have := (ho.lt k e.symm).1
    omega
  · exact (World.cell?_setCell_other _ _ _ _ (by simp)).trans c0
  · exact (World.cell?_setCell_other _ _ _ _ (by simp)).trans c1
  · exact World.cell?_setCell_same' _ _ _ (by rw [c2]; rfl)
  · rw [hv] at hown
    have : swCells es g l (pre ++ [x]) = swCells es g l pre ++ [.int .u8 (swTex es g l x.1)] := by simp [swCells]
    rw [this, List.length_append]
    exact ownsRow_set hown hltF _

set_option maxRecDepth 100000 in
set_option maxHeartbeats 1600000 in
theorem swmake_c {w : World} {v : Value} {es : List Edg} {g : Grd} (h : EdgesAt w v es) (hg : g.ok) :
    Calls Try.prog 18 #[v, .agg #[(.int .i64 (g.x)), (.int .i64 (g.y)), (.int .i64 (g.p)), (.int .i64 (g.w)), (.int .i64 (g.h)), (.int .i64 (g.s))]] w fun r w' => (∃ u, r = .returned (.tuple #[.agg #[(.int .i64 (g.w)), (.int .i64 (g.h)), u], (.int .i64 (0))]) ∧ w'.ownsRow w.heap.size 5 1 u (txN g) (swCells es g (knownE es g) (txTo hg (txN g)))) ∧ Below w.heap.size w w' := by
  have HG := Lib.hid hg
  have HE := Lib.hid h
  obtain ⟨vb, vc, va, rfl, hel, hva, heo, hec⟩ := h
  clear hva heo hec
  refine calls_of_marks Try.func18 rfl ?_
  simp only [Try.ntmps18, List.size_toArray, List.length_cons, List.length_nil, Nat.reduceAdd, Nat.reduceSub, Array.replicate_succ, Array.replicate_zero, List.push_toArray, List.append_toArray, List.nil_append, List.cons_append]
  go_wp2_with fail
  go_call check_c g _ HG.out as r w1 ⟨rfl, hb1⟩
  have HB : Below w.heap.size w w1 := (by repeat' (first | (with_reducible exact Below.refl _ _) | (with_reducible assumption) | (with_reducible refine below_drewN ?_ _) | (with_reducible refine Below.alloc ?_ ?_ _) | (with_reducible refine Below.drew ?_) | (with_reducible refine Below.setCell ?_ ?_ _) | (with_reducible refine below_var ?_ ?_ (by assumption)) | (with_reducible refine below_own' ?_ (by assumption) (by assumption) ?_ ?_) | go_size))
  have e0 : w1.cell? ⟨w.heap.size, 0, none⟩ = some (.slice va es.length vc) := (hb1.cell (p := ⟨_, 0, none⟩) (by simp <;> omega)).trans (by simp [go_sem])
  have c0 : w1.cell? ⟨w.heap.size + 1, 0, none⟩ = some ((.int .i64 (g.x))) := (hb1.cell (p := ⟨_, 0, none⟩) (by simp <;> omega)).trans (by simp [go_sem])
  have c1 : w1.cell? ⟨w.heap.size + 1, 1, none⟩ = some ((.int .i64 (g.y))) := (hb1.cell (p := ⟨_, 1, none⟩) (by simp <;> omega)).trans (by simp [go_sem])
  have c2 : w1.cell? ⟨w.heap.size + 1, 2, none⟩ = some ((.int .i64 (g.p))) := (hb1.cell (p := ⟨_, 2, none⟩) (by simp <;> omega)).trans (by simp [go_sem])
  have c3 : w1.cell? ⟨w.heap.size + 1, 3, none⟩ = some ((.int .i64 (g.w))) := (hb1.cell (p := ⟨_, 3, none⟩) (by simp <;> omega)).trans (by simp [go_sem])
  have c4 : w1.cell? ⟨w.heap.size + 1, 4, none⟩ = some ((.int .i64 (g.h))) := (hb1.cell (p := ⟨_, 4, none⟩) (by simp <;> omega)).trans (by simp [go_sem])
  have c5 : w1.cell? ⟨w.heap.size + 1, 5, none⟩ = some ((.int .i64 (g.s))) := (hb1.cell (p := ⟨_, 5, none⟩) (by simp <;> omega)).trans (by simp [go_sem])
  have r0 : w1.cell? ⟨w.heap.size + 1 + 1, 0, none⟩ = some ((.int .i64 (0))) := (hb1.cell (p := ⟨_, 0, none⟩) (by simp <;> omega)).trans (by simp [go_sem])
  have r1 : w1.cell? ⟨w.heap.size + 1 + 1, 1, none⟩ = some ((.int .i64 (0))) := (hb1.cell (p := ⟨_, 1, none⟩) (by simp <;> omega)).trans (by simp [go_sem])
  have r2 : w1.cell? ⟨w.heap.size + 1 + 1, 2, none⟩ = some (.slice none 0 0) := (hb1.cell (p := ⟨_, 2, none⟩) (by simp <;> omega)).trans (by simp [go_sem])
  have f0 : w1.frozen? ⟨w.heap.size + 1 + 1, 0, none⟩ = false := (hb1.frozen (p := ⟨_, 0, none⟩) (by simp <;> omega)).trans (by simp [go_sem])
  have f1 : w1.frozen? ⟨w.heap.size + 1 + 1, 1, none⟩ = false := (hb1.frozen (p := ⟨_, 1, none⟩) (by simp <;> omega)).trans (by simp [go_sem])
  have f2 : w1.frozen? ⟨w.heap.size + 1 + 1, 2, none⟩ = false := (hb1.frozen (p := ⟨_, 2, none⟩) (by simp <;> omega)).trans (by simp [go_sem])
  have nr := blt r0
  have ne := blt e0
  have nc := blt c0
  clear hb1
  have hbf : ∀ (a b : Int) (w : World), (Instr.build 47 #[(0, (.int .i64 (a))), (1, (.int .i64 (b)))]).run Try.prog w = .ok (.agg #[(.int .i64 (a)), (.int .i64 (b)), .slice none 0 0]) w := by intro a b w; kernel_rfl
  go_wp2_with fail
  go_call known_c (HE.out.carry (by repeat' (first | (with_reducible exact Below.refl _ _) | (with_reducible assumption) | (with_reducible refine below_drewN ?_ _) | (with_reducible refine Below.alloc ?_ ?_ _) | (with_reducible refine Below.drew ?_) | (with_reducible refine Below.setCell ?_ ?_ _) | (with_reducible refine below_var ?_ ?_ (by assumption)) | (with_reducible refine below_own' ?_ (by assumption) (by assumption) ?_ ?_) | go_size))) HG.out as r w2 ⟨⟨u, rfl, hI⟩, hb2⟩
  have HI := Lib.hid hI
  obtain ⟨A, capA, rfl, hAge, hA⟩ := hI
  have hAge' : w1.heap.size + 1 ≤ A := by simpa using hAge
  clear hAge
  have hk2 : Below w1.heap.size w1 w2 := (by repeat' (first | (with_reducible exact Below.refl _ _) | (with_reducible assumption) | (with_reducible refine below_drewN ?_ _) | (with_reducible refine Below.alloc ?_ ?_ _) | (with_reducible refine Below.drew ?_) | (with_reducible refine Below.setCell ?_ ?_ _) | (with_reducible refine below_var ?_ ?_ (by assumption)) | (with_reducible refine below_own' ?_ (by assumption) (by assumption) ?_ ?_) | go_size))
  have HB2 : Below w.heap.size w w2 := HB.trans (hk2.mono HB.size)
  have t0 : w2.cell? ⟨w1.heap.size, 0, none⟩ = some ((.int .i64 (g.w))) := (hb2.cell (p := ⟨_, 0, none⟩) (by simp <;> omega)).trans (by simp [go_sem])
  have t1 : w2.cell? ⟨w1.heap.size, 1, none⟩ = some ((.int .i64 (g.h))) := (hb2.cell (p := ⟨_, 1, none⟩) (by simp <;> omega)).trans (by simp [go_sem])
  have t2 : w2.cell? ⟨w1.heap.size, 2, none⟩ = some (.slice none 0 0) := (hb2.cell (p := ⟨_, 2, none⟩) (by simp <;> omega)).trans (by simp [go_sem])
  have q0 : w2.frozen? ⟨w1.heap.size, 0, none⟩ = false := (hb2.frozen (p := ⟨_, 0, none⟩) (by simp <;> omega)).trans (by simp [go_sem])
  have q1 : w2.frozen? ⟨w1.heap.size, 1, none⟩ = false := (hb2.frozen (p := ⟨_, 1, none⟩) (by simp <;> omega)).trans (by simp [go_sem])
  have q2 : w2.frozen? ⟨w1.heap.size, 2, none⟩ = false := (hb2.frozen (p := ⟨_, 2, none⟩) (by simp <;> omega)).trans (by simp [go_sem])
  replace f0 := (hk2.frozen (World.block_lt_of_cell? _ _ r0)).trans f0
  replace f1 := (hk2.frozen (World.block_lt_of_cell? _ _ r1)).trans f1
  replace f2 := (hk2.frozen (World.block_lt_of_cell? _ _ r2)).trans f2
  replace e0 := (hk2.cell (World.block_lt_of_cell? _ _ e0)).trans e0
  replace c0 := (hk2.cell (World.block_lt_of_cell? _ _ c0)).trans c0
  replace c1 := (hk2.cell (World.block_lt_of_cell? _ _ c1)).trans c1
  replace c2 := (hk2.cell (World.block_lt_of_cell? _ _ c2)).trans c2
  replace c3 := (hk2.cell (World.block_lt_of_cell? _ _ c3)).trans c3
  replace c4 := (hk2.cell (World.block_lt_of_cell? _ _ c4)).trans c4
  replace c5 := (hk2.cell (World.block_lt_of_cell? _ _ c5)).trans c5
  replace r0 := (hk2.cell (World.block_lt_of_cell? _ _ r0)).trans r0
  replace r1 := (hk2.cell (World.block_lt_of_cell? _ _ r1)).trans r1
  replace r2 := (hk2.cell (World.block_lt_of_cell? _ _ r2)).trans r2
  have ne := blt e0
  have nc := blt c0
  have nr := blt r0
  have nt := blt t0
  clear hb2 hbf hA
  go_wp2_with fail
  go_call each_c g _ as r w3 ⟨rfl, rfl⟩
  go_wp2_with fail
  refine wp_gen ?_
  intro Wc hWc
  have hkc : Below w2.heap.size w2 Wc := by rw [← hWc]; exact (by repeat' (first | (with_reducible exact Below.refl _ _) | (with_reducible assumption) | (with_reducible refine below_drewN ?_ _) | (with_reducible refine Below.alloc ?_ ?_ _) | (with_reducible refine Below.drew ?_) | (with_reducible refine Below.setCell ?_ ?_ _) | (with_reducible refine below_var ?_ ?_ (by assumption)) | (with_reducible refine below_own' ?_ (by assumption) (by assumption) ?_ ?_) | go_size))
  have k0 : Wc.cell? ⟨w2.heap.size + 1, 0, none⟩ = some ((.int .i64 (g.x))) := by rw [← hWc]; simp [go_sem]
  have k1 : Wc.cell? ⟨w2.heap.size + 1, 1, none⟩ = some ((.int .i64 (g.y))) := by rw [← hWc]; simp [go_sem]
  have k2 : Wc.cell? ⟨w2.heap.size + 1, 2, none⟩ = some ((.int .i64 (g.p))) := by rw [← hWc]; simp [go_sem]
  have k3 : Wc.cell? ⟨w2.heap.size + 1, 3, none⟩ = some ((.int .i64 (g.w))) := by rw [← hWc]; simp [go_sem]
  have k4 : Wc.cell? ⟨w2.heap.size + 1, 4, none⟩ = some ((.int .i64 (g.h))) := by rw [← hWc]; simp [go_sem]
  have k5 : Wc.cell? ⟨w2.heap.size + 1, 5, none⟩ = some ((.int .i64 (g.s))) := by rw [← hWc]; simp [go_sem]
  have m0 : Wc.cell? ⟨w2.heap.size, 0, none⟩ = some (.slice (some ⟨A, 0, none⟩) (knownE es g).length capA) := by rw [← hWc]; simp [go_sem]
  have hzc : w2.heap.size + 2 = Wc.heap.size := by rw [← hWc]; simp
  replace q0 := (hkc.frozen (World.block_lt_of_cell? _ _ t0)).trans q0
  replace q1 := (hkc.frozen (World.block_lt_of_cell? _ _ t1)).trans q1
  replace q2 := (hkc.frozen (World.block_lt_of_cell? _ _ t2)).trans q2
  replace f0 := (hkc.frozen (World.block_lt_of_cell? _ _ r0)).trans f0
  replace f1 := (hkc.frozen (World.block_lt_of_cell? _ _ r1)).trans f1
  replace f2 := (hkc.frozen (World.block_lt_of_cell? _ _ r2)).trans f2
  replace e0 := (hkc.cell (World.block_lt_of_cell? _ _ e0)).trans e0
  replace c0 := (hkc.cell (World.block_lt_of_cell? _ _ c0)).trans c0
  replace c1 := (hkc.cell (World.block_lt_of_cell? _ _ c1)).trans c1
  replace c2 := (hkc.cell (World.block_lt_of_cell? _ _ c2)).trans c2
  replace c3 := (hkc.cell (World.block_lt_of_cell? _ _ c3)).trans c3
  replace c4 := (hkc.cell (World.block_lt_of_cell? _ _ c4)).trans c4
  replace c5 := (hkc.cell (World.block_lt_of_cell? _ _ c5)).trans c5
  replace t0 := (hkc.cell (World.block_lt_of_cell? _ _ t0)).trans t0
  replace t1 := (hkc.cell (World.block_lt_of_cell? _ _ t1)).trans t1
  replace t2 := (hkc.cell (World.block_lt_of_cell? _ _ t2)).trans t2
  replace r0 := (hkc.cell (World.block_lt_of_cell? _ _ r0)).trans r0
  replace r1 := (hkc.cell (World.block_lt_of_cell? _ _ r1)).trans r1
  replace r2 := (hkc.cell (World.block_lt_of_cell? _ _ r2)).trans r2
  have HBc : Below w.heap.size w Wc := HB2.trans (hkc.mono HB2.size)
  have hcA : ∀ (n : Nat) (y : Int), (knownE es g)[n]? = some y → Wc.cell? ⟨A, n, none⟩ = some (.int .i64 (y)) := by
    obtain ⟨A', cap', hv, _, h2⟩ := HI.out.carry hkc
    cases hv
    exact h2
  have HCA := Lib.hid hcA
  have HKL := Lib.hid (knownE_len es g)
  have HKK := Lib.hid (knownE_kn es g)
  clear hcA HI
  clear hWc
  refine wp_each HG.out rfl k3 k4 (SM Wc es g w1.heap.size (knownE es g)) SM.own ?h0 ?a1 ?assign ?body ?done
  case h0 => exact ⟨⟨rfl, rfl, rfl, Nat.le_refl _, fun _ _ _ => rfl⟩, t0, t1, ⟨_, t2, World.ownsRow_nil _ _ _ _⟩, q2, by omega⟩
  case assign =>
    intro l x W K hK
    simp only [List.setIfInBounds_toArray, List.set_cons_zero, List.set_cons_succ]
    gi_wp2
    exact hK
  case body =>
    intro l pre x W hM hpl
    have hpl' := txN_le HG.out
    have HM := Lib.hid hM
    have hes := hM.ends
    have hsz := hes.size
    have hbW : Below w.heap.size Wc W := (Below.refl _ _).grown hes (by have := HBc.size; omega) fun k e => by cases e; have := HB.size; omega
    replace e0 := (hes.cell_far _ (blt e0) (by simp <;> omega)).trans e0
    replace c0 := (hes.cell_far _ (blt c0) (by simp <;> omega)).trans c0
    replace c1 := (hes.cell_far _ (blt c1) (by simp <;> omega)).trans c1
    replace c2 := (hes.cell_far _ (blt c2) (by simp <;> omega)).trans c2
    replace c3 := (hes.cell_far _ (blt c3) (by simp <;> omega)).trans c3
    replace c4 := (hes.cell_far _ (blt c4) (by simp <;> omega)).trans c4
    replace c5 := (hes.cell_far _ (blt c5) (by simp <;> omega)).trans c5
    replace m0 := (hes.cell_far _ (blt m0) (by simp <;> omega)).trans m0
    replace k3 := (hes.cell_far _ (blt k3) (by simp <;> omega)).trans k3
    replace k4 := (hes.cell_far _ (blt k4) (by simp <;> omega)).trans k4
    have hix := ix_bd HG.out x.2
    have hcs : cellsN g = (g.w * g.h).toNat := rfl
    obtain ⟨q1, q2, q3, q4, q5⟩ := hix
    have hlx : ixOf g x.1.1 x.1.2 < (knownE es g).length := by rw [HKL.out, hcs]; omega
    obtain ⟨m, hm⟩ : ∃ m, m = getI (knownE es g) (ixOf g x.1.1 x.1.2) := ⟨_, rfl⟩
    have a0 := HCA.out (ixOf g x.1.1 x.1.2) m (by rw [hm]; unfold getI; rw [List.getElem?_eq_getElem hlx]; rfl)
    rw [← q4] at a0
    replace a0 := (hes.cell_far _ (blt a0) (by simp <;> omega)).trans a0
    have hml : m < es.length := by rw [hm]; exact getI_lt HKK.out _
    have q6 : x.1.2 * g.w + x.1.1 < (knownE es g).length := by omega
    have q7 : 0 ≤ x.1.2 * g.w + x.1.1 := by omega
    have HMV := Lib.hid hm
    clear q4 q5 hcs hlx hm q3
    have nW := blt m0
    clear hM hes
    refine wpIn_block ?_
    refine wpIn_seq ?_
    refine wpIn_plain (by rintro ⟨_, _, h⟩; exact h) (by kernel_rfl) ?_
    obtain ⟨i1, i2, i3, i4⟩ := x.2
    have GX := Lib.hid HG.out.1
    have GY := Lib.hid HG.out.2.1
    obtain ⟨p1, p2⟩ := HG.out.2.2.1
    have wb := HG.out.2.2.2.1.2
    have hbd := HG.out.2.2.2.2.1.2
    go_wp2_with fail
    go_call centre_c g x.1.1 x.1.2 _ (GX.out.mono (by omega)) (GY.out.mono (by omega)) (by omega) (by omega) i1 (by omega) i2 (by omega) as r w3 ⟨rfl, hb3⟩
    have hk3 : Below W.heap.size W w3 := (by repeat' (first | (with_reducible exact Below.refl _ _) | (with_reducible assumption) | (with_reducible refine below_drewN ?_ _) | (with_reducible refine Below.alloc ?_ ?_ _) | (with_reducible refine Below.drew ?_) | (with_reducible refine Below.setCell ?_ ?_ _) | (with_reducible refine below_var ?_ ?_ (by assumption)) | (with_reducible refine below_own' ?_ (by assumption) (by assumption) ?_ ?_) | go_size))
    replace e0 := (hk3.cell (World.block_lt_of_cell? _ _ e0)).trans e0
    replace c0 := (hk3.cell (World.block_lt_of_cell? _ _ c0)).trans c0
    replace c1 := (hk3.cell (World.block_lt_of_cell? _ _ c1)).trans c1
    replace c2 := (hk3.cell (World.block_lt_of_cell? _ _ c2)).trans c2
    replace c3 := (hk3.cell (World.block_lt_of_cell? _ _ c3)).trans c3
    replace c4 := (hk3.cell (World.block_lt_of_cell? _ _ c4)).trans c4
    replace c5 := (hk3.cell (World.block_lt_of_cell? _ _ c5)).trans c5
    replace m0 := (hk3.cell (World.block_lt_of_cell? _ _ m0)).trans m0
    replace a0 := (hk3.cell (World.block_lt_of_cell? _ _ a0)).trans a0
    replace k3 := (hk3.cell (World.block_lt_of_cell? _ _ k3)).trans k3
    replace k4 := (hk3.cell (World.block_lt_of_cell? _ _ k4)).trans k4
    have HM := Lib.hid (HM.out.below hk3)
    have nW := blt m0
    clear hb3
    go_wp2_with fail
    refine wp_genIn ?_
    intro W4 hW4
    have hk4 : Below w3.heap.size w3 W4 := by rw [← hW4]; exact (by repeat' (first | (with_reducible exact Below.refl _ _) | (with_reducible assumption) | (with_reducible refine below_drewN ?_ _) | (with_reducible refine Below.alloc ?_ ?_ _) | (with_reducible refine Below.drew ?_) | (with_reducible refine Below.setCell ?_ ?_ _) | (with_reducible refine below_var ?_ ?_ (by assumption)) | (with_reducible refine below_own' ?_ (by assumption) (by assumption) ?_ ?_) | go_size))
    have p0 : W4.cell? ⟨w3.heap.size, 0, none⟩ = some ((.int .i64 (cen g.x g.p x.1.1))) := by rw [← hW4]; simp [go_sem]
    have p1 : W4.cell? ⟨w3.heap.size, 1, none⟩ = some ((.int .i64 (cen g.y g.p x.1.2))) := by rw [← hW4]; simp [go_sem]
    replace e0 := (hk4.cell (World.block_lt_of_cell? _ _ e0)).trans e0
    replace c0 := (hk4.cell (World.block_lt_of_cell? _ _ c0)).trans c0
    replace c1 := (hk4.cell (World.block_lt_of_cell? _ _ c1)).trans c1
    replace c2 := (hk4.cell (World.block_lt_of_cell? _ _ c2)).trans c2
    replace c3 := (hk4.cell (World.block_lt_of_cell? _ _ c3)).trans c3
    replace c4 := (hk4.cell (World.block_lt_of_cell? _ _ c4)).trans c4
    replace c5 := (hk4.cell (World.block_lt_of_cell? _ _ c5)).trans c5
    replace m0 := (hk4.cell (World.block_lt_of_cell? _ _ m0)).trans m0
    replace a0 := (hk4.cell (World.block_lt_of_cell? _ _ a0)).trans a0
    replace k3 := (hk4.cell (World.block_lt_of_cell? _ _ k3)).trans k3
    replace k4 := (hk4.cell (World.block_lt_of_cell? _ _ k4)).trans k4
    have HM := Lib.hid (HM.out.below hk4)
    have hb4 : Below W.heap.size W W4 := hk3.trans (hk4.mono hk3.size)
    have nW := blt m0
    clear hW4 hk3 hk4
    refine wpIn_seq ?_
    have u1 : IntKind.i64.wrap (256 * g.s) = 256 * g.s := IntWalk.i64_in _ (by have := HG.out.2.2.2.2.2; omega)
    refine wpIn_held (S := fun w' => Below W4.heap.size W4 w' ∧ w'.cell? ⟨w.heap.size + 1, 5, none⟩ = some (.int .i64 (g.s))) (by kernel_rfl) (by rintro ⟨_, _, h⟩; exact h) (by kernel_rfl) ⟨(by repeat' (first | (with_reducible exact Below.refl _ _) | (with_reducible assumption) | (with_reducible refine below_drewN ?_ _) | (with_reducible refine Below.alloc ?_ ?_ _) | (with_reducible refine Below.drew ?_) | (with_reducible refine Below.setCell ?_ ?_ _) | (with_reducible refine below_var ?_ ?_ (by assumption)) | (with_reducible refine below_own' ?_ (by assumption) (by assumption) ?_ ?_) | go_size)), by go_simp⟩ (fun hHeld => ?_)
    refine heldTake (i := 0) (v := ?_) rfl (by kernel_rfl) (by kernel_rfl) (by kernel_rfl) (fun _ _ _ h => h) (by assumption) (Or.inl ⟨by rfl, ?_⟩) ?_
    rotate_left
    · (intro w hSw; (try dsimp only at hSw); go_simp; try with_reducible rfl)
    (try simp only [Act.put, List.setIfInBounds_toArray, List.set_cons_zero, List.set_cons_succ])
    refine heldTake (i := 1) (v := ?_) rfl (by kernel_rfl) (by kernel_rfl) (by kernel_rfl) (fun _ _ _ h => h) (by assumption) (Or.inl ⟨by rfl, ?_⟩) ?_
    rotate_left
    · (intro w hSw; (try dsimp only at hSw); go_simp; try with_reducible rfl)
    (try simp only [Act.put, List.setIfInBounds_toArray, List.set_cons_zero, List.set_cons_succ])
    refine heldTake (i := 2) (v := ?_) rfl (by kernel_rfl) (by kernel_rfl) (by kernel_rfl) (fun _ _ _ h => h) (by assumption) (Or.inl ⟨by rfl, ?_⟩) ?_
    rotate_left
    · (intro w hSw; (try dsimp only at hSw); go_simp; try with_reducible rfl)
    (try simp only [Act.put, List.setIfInBounds_toArray, List.set_cons_zero, List.set_cons_succ])
    refine heldTake (i := 3) (v := ?_) rfl (by kernel_rfl) (by kernel_rfl) (by kernel_rfl) (fun _ _ _ h => h) (by assumption) (Or.inl ⟨by rfl, ?_⟩) ?_
    rotate_left
    · (intro w hSw; (try dsimp only at hSw); go_simp; try with_reducible rfl)
    (try simp only [Act.put, List.setIfInBounds_toArray, List.set_cons_zero, List.set_cons_succ])
    refine heldTake (i := 4) (v := ?_) rfl (by kernel_rfl) (by kernel_rfl) (by kernel_rfl) (fun _ _ _ h => h) (by assumption) (Or.inl ⟨by rfl, ?_⟩) ?_
    rotate_left
    · (intro w hSw; (try dsimp only at hSw); go_simp; try with_reducible rfl)
    (try simp only [Act.put, List.setIfInBounds_toArray, List.set_cons_zero, List.set_cons_succ])
    refine heldDone (by kernel_rfl) ?_ _
    go_wp2_with fail
    clear u1 hHeld
    refine wpIn_seq ?_
    refine wpIn_seq ?_
    refine wpIn_plain (by rintro ⟨_, _, h⟩; exact h) (by kernel_rfl) ?_
    go_wp2_with fail
    refine wpIn_seq ?_
    refine wpIn_plain (by rintro ⟨_, _, h⟩; exact h) (by kernel_rfl) ?_
    by_cases hneg : m < 0
    · have HTX := Lib.hid (show swTex es g (knownE es g) x.1 = code g.s (-1) (256 * g.s) by unfold swTex; rw [if_pos (by rw [← HMV.out]; exact hneg)])
      go_wp2_with fail
      gi_wp2
      refine wp_genIn ?_
      intro WX hWX
      have hkX : Below W4.heap.size W4 WX := by rw [← hWX]; exact (by repeat' (first | (with_reducible exact Below.refl _ _) | (with_reducible assumption) | (with_reducible refine below_drewN ?_ _) | (with_reducible refine Below.alloc ?_ ?_ _) | (with_reducible refine Below.drew ?_) | (with_reducible refine Below.setCell ?_ ?_ _) | (with_reducible refine below_var ?_ ?_ (by assumption)) | (with_reducible refine below_own' ?_ (by assumption) (by assumption) ?_ ?_) | go_size))
      replace e0 := (hkX.cell (World.block_lt_of_cell? _ _ e0)).trans e0
      replace c0 := (hkX.cell (World.block_lt_of_cell? _ _ c0)).trans c0
      replace c1 := (hkX.cell (World.block_lt_of_cell? _ _ c1)).trans c1
      replace c2 := (hkX.cell (World.block_lt_of_cell? _ _ c2)).trans c2
      replace c3 := (hkX.cell (World.block_lt_of_cell? _ _ c3)).trans c3
      replace c4 := (hkX.cell (World.block_lt_of_cell? _ _ c4)).trans c4
      replace c5 := (hkX.cell (World.block_lt_of_cell? _ _ c5)).trans c5
      replace m0 := (hkX.cell (World.block_lt_of_cell? _ _ m0)).trans m0
      replace a0 := (hkX.cell (World.block_lt_of_cell? _ _ a0)).trans a0
      replace k3 := (hkX.cell (World.block_lt_of_cell? _ _ k3)).trans k3
      replace k4 := (hkX.cell (World.block_lt_of_cell? _ _ k4)).trans k4
      replace p0 := (hkX.cell (World.block_lt_of_cell? _ _ p0)).trans p0
      replace p1 := (hkX.cell (World.block_lt_of_cell? _ _ p1)).trans p1
      clear hWX
      have HM := Lib.hid (HM.out.below hkX)
      have hbX : Below W.heap.size W WX := hb4.trans (hkX.mono hb4.size)
      have nW := blt m0
      obtain ⟨u0, hu0, hrow0⟩ := HM.out.row
      have fz0 := HM.out.fz
      have hltF : w1.heap.size < WX.heap.size := blt hu0
      have hzX := HM.out.ends.size
      obtain ⟨y0, hy, hyz0, hyz1, hyz2⟩ := info_parts info_u8
      have HS : Hid (∀ w', Below WX.heap.size WX w' → w'.cell? ⟨w1.heap.size, 2, none⟩ = some u0 ∧ w'.cell? ⟨w.heap.size + 1, 0, none⟩ = some (.int .i64 (g.x)) ∧ w'.cell? ⟨w.heap.size + 1, 1, none⟩ = some (.int .i64 (g.y)) ∧ w'.cell? ⟨w.heap.size + 1, 2, none⟩ = some (.int .i64 (g.p)) ∧ w'.cell? ⟨w.heap.size + 1, 3, none⟩ = some (.int .i64 (g.w)) ∧ w'.cell? ⟨w.heap.size + 1, 4, none⟩ = some (.int .i64 (g.h)) ∧ w'.cell? ⟨w.heap.size + 1, 5, none⟩ = some (.int .i64 (g.s))) := fun w' hh => ⟨(hh.cell (blt hu0)).trans hu0, (hh.cell (blt c0)).trans c0, (hh.cell (blt c1)).trans c1, (hh.cell (blt c2)).trans c2, (hh.cell (blt c3)).trans c3, (hh.cell (blt c4)).trans c4, (hh.cell (blt c5)).trans c5⟩
      refine wpIn_last (S := fun w' => w'.cell? ⟨w1.heap.size, 2, none⟩ = some u0 ∧ w'.cell? ⟨w.heap.size + 1, 0, none⟩ = some (.int .i64 (g.x)) ∧ w'.cell? ⟨w.heap.size + 1, 1, none⟩ = some (.int .i64 (g.y)) ∧ w'.cell? ⟨w.heap.size + 1, 2, none⟩ = some (.int .i64 (g.p)) ∧ w'.cell? ⟨w.heap.size + 1, 3, none⟩ = some (.int .i64 (g.w)) ∧ w'.cell? ⟨w.heap.size + 1, 4, none⟩ = some (.int .i64 (g.h)) ∧ w'.cell? ⟨w.heap.size + 1, 5, none⟩ = some (.int .i64 (g.s))) rfl (by kernel_rfl) (by rintro ⟨_, _, h⟩; exact h) (by kernel_rfl) (by kernel_rfl) ⟨hu0, c0, c1, c2, c3, c4, c5⟩ (fun hHeld => ?_)
      refine heldTake (i := 0) (v := ?_) rfl (by kernel_rfl) (by kernel_rfl) (by kernel_rfl) (fun _ _ _ h => h) (by assumption) (Or.inl ⟨by rfl, ?_⟩) ?_
      rotate_left
      · (intro w hSw; (try dsimp only at hSw); go_simp; try with_reducible rfl)
      (try simp only [Act.put, List.setIfInBounds_toArray, List.set_cons_zero, List.set_cons_succ])
      refine heldTake (i := 1) (v := ?_) rfl (by kernel_rfl) (by kernel_rfl) (by kernel_rfl) (fun _ _ _ h => h) (by assumption) (Or.inl ⟨by rfl, ?_⟩) ?_
      rotate_left
      · (intro w hSw; (try dsimp only at hSw); go_simp; try with_reducible rfl)
      (try simp only [Act.put, List.setIfInBounds_toArray, List.set_cons_zero, List.set_cons_succ])
      refine heldTake (i := 2) (v := ?_) rfl (by kernel_rfl) (by kernel_rfl) (by kernel_rfl) (fun _ _ _ h => h) (by assumption) (Or.inl ⟨by rfl, ?_⟩) ?_
      rotate_left
      · (intro w hSw; (try dsimp only at hSw); go_simp; try with_reducible rfl)
      (try simp only [Act.put, List.setIfInBounds_toArray, List.set_cons_zero, List.set_cons_succ])
      refine heldTake (i := 3) (v := ?_) rfl (by kernel_rfl) (by kernel_rfl) (by kernel_rfl) (fun _ _ _ h => h) (by assumption) (Or.inl ⟨by rfl, ?_⟩) ?_
      rotate_left
      · (intro w hSw; (try dsimp only at hSw); go_simp; try with_reducible rfl)
      (try simp only [Act.put, List.setIfInBounds_toArray, List.set_cons_zero, List.set_cons_succ])
      refine heldTake (i := 4) (v := ?_) rfl (by kernel_rfl) (by kernel_rfl) (by kernel_rfl) (fun _ _ _ h => h) (by assumption) (Or.inl ⟨by rfl, ?_⟩) ?_
      rotate_left
      · (intro w hSw; (try dsimp only at hSw); go_simp; try with_reducible rfl)
      (try simp only [Act.put, List.setIfInBounds_toArray, List.set_cons_zero, List.set_cons_succ])
      refine heldOne (i := 5) rfl (by kernel_rfl) (by rfl) (fun K hK => ?_)
      go_simp
      go_call code_c g (-1) (256 * g.s) _ HG.out.2.2.2.2.2.1 HG.out.2.2.2.2.2.2 (by omega) (by omega) (by have := HG.out.2.2.2.2.2; omega) (by have := HG.out.2.2.2.2.2; omega) as r w5 ⟨rfl, hb5⟩
      go_wp2_with fail
      have hkD : Below WX.heap.size WX w5 := (by repeat' (first | (with_reducible exact Below.refl _ _) | (with_reducible assumption) | (with_reducible refine below_drewN ?_ _) | (with_reducible refine Below.alloc ?_ ?_ _) | (with_reducible refine Below.drew ?_) | (with_reducible refine Below.setCell ?_ ?_ _) | (with_reducible refine below_var ?_ ?_ (by assumption)) | (with_reducible refine below_own' ?_ (by assumption) (by assumption) ?_ ?_) | go_size))
      have hkDz := hkD.size
      refine hK.out _ _ (HS.out _ hkD) (fun hHeld => ?_)
      clear hK K hb5
      (try simp only [Act.put, List.setIfInBounds_toArray, List.set_cons_zero, List.set_cons_succ])
      refine heldOne (i := 6) rfl (by kernel_rfl) (by rfl) (fun K hK => ?_)
      go_simp
      refine hK.out _ _ (HS.out _ (by repeat' (first | (with_reducible exact Below.refl _ _) | (with_reducible assumption) | (with_reducible refine below_drewN ?_ _) | (with_reducible refine Below.alloc ?_ ?_ _) | (with_reducible refine Below.drew ?_) | (with_reducible refine Below.setCell ?_ ?_ _) | (with_reducible refine below_var ?_ ?_ (by assumption)) | (with_reducible refine below_own' ?_ (by assumption) (by assumption) ?_ ?_) | go_size))) (fun hHeld => ?_)
      clear hK K
      (try simp only [Act.put, List.setIfInBounds_toArray, List.set_cons_zero, List.set_cons_succ])
      have hkE : Below WX.heap.size WX (w5.alloc (.cells #[.int .u8 (code g.s (-1) (256 * g.s))] 5)) := (by repeat' (first | (with_reducible exact Below.refl _ _) | (with_reducible assumption) | (with_reducible refine below_drewN ?_ _) | (with_reducible refine Below.alloc ?_ ?_ _) | (with_reducible refine Below.drew ?_) | (with_reducible refine Below.setCell ?_ ?_ _) | (with_reducible refine below_var ?_ ?_ (by assumption)) | (with_reducible refine below_own' ?_ (by assumption) (by assumption) ?_ ?_) | go_size))
      have hrow5 := ownsRow_below hrow0 hkE
      refine heldOne (i := 7) rfl (by kernel_rfl) (by rfl) (fun K hK => ?_)
      refine wp_append_lies _ _ _ 45 rfl Wc.heap.size 5 y0 _ 1 1 Try.underlying45 hy hyz0 hyz1 hyz2 rfl (by decide) u0 pre.length _ (by rfl) hrow5 ⟨w5.heap.size, 0, none⟩ 1 1 [.int .u8 (code g.s (-1) (256 * g.s))] (by rfl) rfl (cell_one_new _ _ _) (by intro z hz; simp at hz; subst hz; rfl) (by decide) (by unfold maxLen; omega) (by omega) (by have := hkE.size; omega) _ rfl ?_
      intro ga ca wa hown2 hgrow hat hlta
      have hcf := fun (k o : Nat) (h1 : k < Wc.heap.size) => hgrow.cell_far ⟨k, o, none⟩ (Nat.lt_of_lt_of_le h1 (Nat.le_trans hzX hkE.size)) (fun e => by have := (hrow5.lt k e.symm).1; omega)
      have HCF := Lib.hid hcf
      have hS5 := HS.out _ hkE
      refine hK.out _ _ ⟨(HCF.out _ _ (by omega)).trans hS5.1, (HCF.out _ _ (by omega)).trans hS5.2.1, (HCF.out _ _ (by omega)).trans hS5.2.2.1, (HCF.out _ _ (by omega)).trans hS5.2.2.2.1, (HCF.out _ _ (by omega)).trans hS5.2.2.2.2.1, (HCF.out _ _ (by omega)).trans hS5.2.2.2.2.2.1, (HCF.out _ _ (by omega)).trans hS5.2.2.2.2.2.2⟩ (fun hHeld => ?_)
      clear hK K
      (try simp only [Act.put, List.setIfInBounds_toArray, List.set_cons_zero, List.set_cons_succ])
      refine heldTake (i := 8) (v := ?_) rfl (by kernel_rfl) (by kernel_rfl) (by kernel_rfl) (fun _ _ _ h => h) (by assumption) (Or.inl ⟨by rfl, ?_⟩) ?_
      rotate_left
      · (intro w hSw; (try dsimp only at hSw); go_simp; try with_reducible rfl)
      (try simp only [Act.put, List.setIfInBounds_toArray, List.set_cons_zero, List.set_cons_succ])
      refine heldDone (by kernel_rfl) ?_ _
      have HM5 := Lib.hid (HM.out.below hkE)
      have HG5 := Lib.hid hgrow
      have HO2 := Lib.hid hown2
      have HR5 := Lib.hid hrow5
      have hF2 := hHeld.1
      have fzA : wa.frozen? ⟨w1.heap.size, 2, none⟩ = false := (hgrow.frozen_far ⟨w1.heap.size, 2, none⟩ (Nat.lt_of_lt_of_le hltF hkE.size) (fun e => by have := (hrow5.lt _ e.symm).1; simp at this; omega)).trans ((hkE.frozen (p := ⟨w1.heap.size, 2, none⟩) hltF).trans fz0)
      have hltA := blt hF2
      clear hcf hgrow hown2 hrow5 hHeld hat
      simp only [LastQ]
      have nG3 := blt k3
      go_wp2_with fail
      have hbE : Below W.heap.size W (w5.alloc (.cells #[.int .u8 (code g.s (-1) (256 * g.s))] 5)) := hbX.trans (hkE.mono hbX.size)
      refine ⟨keeps_turn hbE HG5.out (own_cells HR5.out) hF2, fun o => ?_, SM.step HM5.out (HS.out _ hkE).1 HR5.out HG5.out (by rw [HTX.out]) HO2.out⟩
      exact (World.cell?_setCell_far _ _ _ _ (by simp; omega)).trans ((HCF.out _ o (by omega)).trans (hbE.cell (p := ⟨w2.heap.size + 1, o, none⟩) (show w2.heap.size + 1 < W.heap.size by omega)))
    · obtain ⟨m', rfl⟩ := Int.eq_ofNat_of_zero_le (show 0 ≤ m by omega)
      obtain ⟨em, hem1, hem2⟩ := get_of_lt (show m' < es.length by omega)
      have hEW := HE.out.carry (HBc.trans hbW)
      obtain ⟨eb, ec, ea, hev, hle, hae, hok, hEc⟩ := hEW
      obtain rfl := hae (ne_nil_of_lt (show m' < es.length by omega))
      cases hev
      obtain ⟨b0, b1, b2, b3⟩ := hEc m' em hem1
      replace b0 := (hb4.cell (World.block_lt_of_cell? _ _ b0)).trans b0
      replace b1 := (hb4.cell (World.block_lt_of_cell? _ _ b1)).trans b1
      replace b2 := (hb4.cell (World.block_lt_of_cell? _ _ b2)).trans b2
      replace b3 := (hb4.cell (World.block_lt_of_cell? _ _ b3)).trans b3
      have HSQ := Lib.hid (sqAt_of (x := cen g.x g.p x.1.1) (y := cen g.y g.p x.1.2) hem1)
      have HOM := Lib.hid (hok em hem2)
      have CX := Lib.hid (cen_bd HG.out.1 HG.out.2.2.1 ⟨i1, by have := HG.out.2.2.2.1.2; omega⟩)
      have CY := Lib.hid (cen_bd HG.out.2.1 HG.out.2.2.1 ⟨i2, by have := HG.out.2.2.2.2.1.2; omega⟩)
      have FM := Lib.hid (Edg.sq_fine HOM.out CX.out CY.out)
      have HTX := Lib.hid (show swTex es g (knownE es g) x.1 = code g.s (signE es (cen g.x g.p x.1.1) (cen g.y g.p x.1.2)) (isqrt ((em.sq (cen g.x g.p x.1.1) (cen g.y g.p x.1.2)).1 * 64 / (em.sq (cen g.x g.p x.1.1) (cen g.y g.p x.1.2)).2)) by unfold swTex; rw [if_neg (by rw [← HMV.out]; exact hneg), ← HMV.out, HSQ.out])
      have HE4 := Lib.hid (HE.out.carry ((HBc.trans hbW).trans (hb4.mono (HBc.trans hbW).size)))
      obtain ⟨sb0, sb1⟩ := signE_bd es (cen g.x g.p x.1.1) (cen g.y g.p x.1.2)
      have SB2 := Lib.hid FM.out.eight
      have SB3 := Lib.hid (isqrt_nonneg ((em.sq (cen g.x g.p x.1.1) (cen g.y g.p x.1.2)).1 * 64 / (em.sq (cen g.x g.p x.1.1) (cen g.y g.p x.1.2)).2))
      clear hok hEc hem1 hem2 hae
      go_wp2_with fail
      gi_wp2
      refine wp_genIn ?_
      intro WY hWY
      have hkY : Below W4.heap.size W4 WY := by rw [← hWY]; exact (by repeat' (first | (with_reducible exact Below.refl _ _) | (with_reducible assumption) | (with_reducible refine below_drewN ?_ _) | (with_reducible refine Below.alloc ?_ ?_ _) | (with_reducible refine Below.drew ?_) | (with_reducible refine Below.setCell ?_ ?_ _) | (with_reducible refine below_var ?_ ?_ (by assumption)) | (with_reducible refine below_own' ?_ (by assumption) (by assumption) ?_ ?_) | go_size))
      replace e0 := (hkY.cell (World.block_lt_of_cell? _ _ e0)).trans e0
      replace c0 := (hkY.cell (World.block_lt_of_cell? _ _ c0)).trans c0
      replace c1 := (hkY.cell (World.block_lt_of_cell? _ _ c1)).trans c1
      replace c2 := (hkY.cell (World.block_lt_of_cell? _ _ c2)).trans c2
      replace c3 := (hkY.cell (World.block_lt_of_cell? _ _ c3)).trans c3
      replace c4 := (hkY.cell (World.block_lt_of_cell? _ _ c4)).trans c4
      replace c5 := (hkY.cell (World.block_lt_of_cell? _ _ c5)).trans c5
      replace m0 := (hkY.cell (World.block_lt_of_cell? _ _ m0)).trans m0
      replace a0 := (hkY.cell (World.block_lt_of_cell? _ _ a0)).trans a0
      replace k3 := (hkY.cell (World.block_lt_of_cell? _ _ k3)).trans k3
      replace k4 := (hkY.cell (World.block_lt_of_cell? _ _ k4)).trans k4
      replace p0 := (hkY.cell (World.block_lt_of_cell? _ _ p0)).trans p0
      replace p1 := (hkY.cell (World.block_lt_of_cell? _ _ p1)).trans p1
      replace b0 := (hkY.cell (World.block_lt_of_cell? _ _ b0)).trans b0
      replace b1 := (hkY.cell (World.block_lt_of_cell? _ _ b1)).trans b1
      replace b2 := (hkY.cell (World.block_lt_of_cell? _ _ b2)).trans b2
      replace b3 := (hkY.cell (World.block_lt_of_cell? _ _ b3)).trans b3
      clear hWY
      have HEY := Lib.hid (HE4.out.carry hkY)
      have HS : Hid (∀ w', Below WY.heap.size WY w' → w'.cell? ⟨w.heap.size, 0, none⟩ = some (.slice (some ⟨eb, 0, none⟩) es.length vc) ∧ w'.cell? ⟨w3.heap.size, 0, none⟩ = some (.int .i64 (cen g.x g.p x.1.1)) ∧ w'.cell? ⟨w3.heap.size, 1, none⟩ = some (.int .i64 (cen g.y g.p x.1.2)) ∧ w'.cell? ⟨eb, m' * 4, none⟩ = some (.int .i64 (em.ax)) ∧ w'.cell? ⟨eb, m' * 4 + 1, none⟩ = some (.int .i64 (em.ay)) ∧ w'.cell? ⟨eb, m' * 4 + 2, none⟩ = some (.int .i64 (em.bx)) ∧ w'.cell? ⟨eb, m' * 4 + 3, none⟩ = some (.int .i64 (em.bz))) := fun w' hh => ⟨(hh.cell (blt e0)).trans e0, (hh.cell (blt p0)).trans p0, (hh.cell (blt p1)).trans p1, (hh.cell (blt b0)).trans b0, (hh.cell (blt b1)).trans b1, (hh.cell (blt b2)).trans b2, (hh.cell (blt b3)).trans b3⟩
      refine wpIn_held (S := fun w' => w'.cell? ⟨w.heap.size, 0, none⟩ = some (.slice (some ⟨eb, 0, none⟩) es.length vc) ∧ w'.cell? ⟨w3.heap.size, 0, none⟩ = some (.int .i64 (cen g.x g.p x.1.1)) ∧ w'.cell? ⟨w3.heap.size, 1, none⟩ = some (.int .i64 (cen g.y g.p x.1.2)) ∧ w'.cell? ⟨eb, m' * 4, none⟩ = some (.int .i64 (em.ax)) ∧ w'.cell? ⟨eb, m' * 4 + 1, none⟩ = some (.int .i64 (em.ay)) ∧ w'.cell? ⟨eb, m' * 4 + 2, none⟩ = some (.int .i64 (em.bx)) ∧ w'.cell? ⟨eb, m' * 4 + 3, none⟩ = some (.int .i64 (em.bz))) (by kernel_rfl) (by rintro ⟨_, _, h⟩; exact h) (by kernel_rfl) (HS.out _ (by repeat' (first | (with_reducible exact Below.refl _ _) | (with_reducible assumption) | (with_reducible refine below_drewN ?_ _) | (with_reducible refine Below.alloc ?_ ?_ _) | (with_reducible refine Below.drew ?_) | (with_reducible refine Below.setCell ?_ ?_ _) | (with_reducible refine below_var ?_ ?_ (by assumption)) | (with_reducible refine below_own' ?_ (by assumption) (by assumption) ?_ ?_) | go_size))) (fun hHeld => ?_)
      refine heldTake (i := 0) (v := ?_) rfl (by kernel_rfl) (by kernel_rfl) (by kernel_rfl) (fun _ _ _ h => h) (by assumption) (Or.inl ⟨by rfl, ?_⟩) ?_
      rotate_left
      · (intro w hSw; (try dsimp only at hSw); go_simp; try with_reducible rfl)
      (try simp only [Act.put, List.setIfInBounds_toArray, List.set_cons_zero, List.set_cons_succ])
      refine heldTake (i := 1) (v := ?_) rfl (by kernel_rfl) (by kernel_rfl) (by kernel_rfl) (fun _ _ _ h => h) (by assumption) (Or.inl ⟨by rfl, ?_⟩) ?_
      rotate_left
      · (intro w hSw; (try dsimp only at hSw); go_simp; try with_reducible rfl)
      (try simp only [Act.put, List.setIfInBounds_toArray, List.set_cons_zero, List.set_cons_succ])
      refine heldTake (i := 3) (v := ?_) rfl (by kernel_rfl) (by kernel_rfl) (by kernel_rfl) (fun _ _ _ h => h) (by assumption) (Or.inl ⟨by rfl, ?_⟩) ?_
      rotate_left
      · (intro w hSw; (try dsimp only at hSw); go_simp; try with_reducible rfl)
      (try simp only [Act.put, List.setIfInBounds_toArray, List.set_cons_zero, List.set_cons_succ])
      refine heldTake (i := 4) (v := ?_) rfl (by kernel_rfl) (by kernel_rfl) (by kernel_rfl) (fun _ _ _ h => h) (by assumption) (Or.inl ⟨by rfl, ?_⟩) ?_
      rotate_left
      · (intro w hSw; (try dsimp only at hSw); go_simp; try with_reducible rfl)
      (try simp only [Act.put, List.setIfInBounds_toArray, List.set_cons_zero, List.set_cons_succ])
      refine heldTake (i := 5) (v := ?_) rfl (by kernel_rfl) (by kernel_rfl) (by kernel_rfl) (fun _ _ _ h => h) (by assumption) (Or.inl ⟨by rfl, ?_⟩) ?_
      rotate_left
      · (intro w hSw; (try dsimp only at hSw); go_simp; try with_reducible rfl)
      (try simp only [Act.put, List.setIfInBounds_toArray, List.set_cons_zero, List.set_cons_succ])
      refine heldTake (i := 6) (v := ?_) rfl (by kernel_rfl) (by kernel_rfl) (by kernel_rfl) (fun _ _ _ h => h) (by assumption) (Or.inl ⟨by rfl, ?_⟩) ?_
      rotate_left
      · (intro w hSw; (try dsimp only at hSw); go_simp; try with_reducible rfl)
      (try simp only [Act.put, List.setIfInBounds_toArray, List.set_cons_zero, List.set_cons_succ])
      refine heldTake (i := 7) (v := ?_) rfl (by kernel_rfl) (by kernel_rfl) (by kernel_rfl) (fun _ _ _ h => h) (by assumption) (Or.inl ⟨by rfl, ?_⟩) ?_
      rotate_left
      · (intro w hSw; (try dsimp only at hSw); go_simp; try with_reducible rfl)
      (try simp only [Act.put, List.setIfInBounds_toArray, List.set_cons_zero, List.set_cons_succ])
      refine heldOne (i := 2) rfl (by kernel_rfl) (by rfl) (fun K hK => ?_)
      go_simp
      go_call sign_c _ es (cen g.x g.p x.1.1) (cen g.y g.p x.1.2) _ (HEY.out.carry (by repeat' (first | (with_reducible exact Below.refl _ _) | (with_reducible assumption) | (with_reducible refine below_drewN ?_ _) | (with_reducible refine Below.alloc ?_ ?_ _) | (with_reducible refine Below.drew ?_) | (with_reducible refine Below.setCell ?_ ?_ _) | (with_reducible refine below_var ?_ ?_ (by assumption)) | (with_reducible refine below_own' ?_ (by assumption) (by assumption) ?_ ?_) | go_size))) CX.out CY.out as r wa1 ⟨rfl, hbc⟩
      have hkwa1 : Below WY.heap.size WY wa1 := (by repeat' (first | (with_reducible exact Below.refl _ _) | (with_reducible assumption) | (with_reducible refine below_drewN ?_ _) | (with_reducible refine Below.alloc ?_ ?_ _) | (with_reducible refine Below.drew ?_) | (with_reducible refine Below.setCell ?_ ?_ _) | (with_reducible refine below_var ?_ ?_ (by assumption)) | (with_reducible refine below_own' ?_ (by assumption) (by assumption) ?_ ?_) | go_size))
      have hzwa1 := hkwa1.size
      clear hbc
      go_wp2_with fail
      refine hK.out _ _ (HS.out _ hkwa1) (fun hHeld => ?_)
      clear hK K
      (try simp only [Act.put, List.setIfInBounds_toArray, List.set_cons_zero, List.set_cons_succ])
      refine heldOne (i := 8) rfl (by kernel_rfl) (by rfl) (fun K hK => ?_)
      go_simp
      go_call square_c em (cen g.x g.p x.1.1) (cen g.y g.p x.1.2) _ HOM.out CX.out CY.out as r wa2 ⟨rfl, hbc⟩
      have hkwa2 : Below WY.heap.size WY wa2 := (by repeat' (first | (with_reducible exact Below.refl _ _) | (with_reducible assumption) | (with_reducible refine below_drewN ?_ _) | (with_reducible refine Below.alloc ?_ ?_ _) | (with_reducible refine Below.drew ?_) | (with_reducible refine Below.setCell ?_ ?_ _) | (with_reducible refine below_var ?_ ?_ (by assumption)) | (with_reducible refine below_own' ?_ (by assumption) (by assumption) ?_ ?_) | go_size))
      have hzwa2 := hkwa2.size
      clear hbc
      go_wp2_with fail
      refine hK.out _ _ (HS.out _ hkwa2) (fun hHeld => ?_)
      clear hK K
      (try simp only [Act.put, List.setIfInBounds_toArray, List.set_cons_zero, List.set_cons_succ])
      refine heldOne (i := 9) rfl (by kernel_rfl) (by rfl) (fun K hK => ?_)
      go_simp
      go_call scaled_c _ _ _ FM.out.1 FM.out.num FM.out.2.2.1 FM.out.den FM.out.scaled as r wa3 ⟨rfl, hbc⟩
      have hkwa3 : Below WY.heap.size WY wa3 := (by repeat' (first | (with_reducible exact Below.refl _ _) | (with_reducible assumption) | (with_reducible refine below_drewN ?_ _) | (with_reducible refine Below.alloc ?_ ?_ _) | (with_reducible refine Below.drew ?_) | (with_reducible refine Below.setCell ?_ ?_ _) | (with_reducible refine below_var ?_ ?_ (by assumption)) | (with_reducible refine below_own' ?_ (by assumption) (by assumption) ?_ ?_) | go_size))
      have hzwa3 := hkwa3.size
      clear hbc
      go_wp2_with fail
      refine hK.out _ _ (HS.out _ hkwa3) (fun hHeld => ?_)
      clear hK K
      (try simp only [Act.put, List.setIfInBounds_toArray, List.set_cons_zero, List.set_cons_succ])
      refine heldTake (i := 10) (v := ?_) rfl (by kernel_rfl) (by kernel_rfl) (by kernel_rfl) (fun _ _ _ h => h) (by assumption) (Or.inl ⟨by rfl, ?_⟩) ?_
      rotate_left
      · (intro w hSw; (try dsimp only at hSw); go_simp; try with_reducible rfl)
      (try simp only [Act.put, List.setIfInBounds_toArray, List.set_cons_zero, List.set_cons_succ])
      refine heldTake (i := 11) (v := ?_) rfl (by kernel_rfl) (by kernel_rfl) (by kernel_rfl) (fun _ _ _ h => h) (by assumption) (Or.inl ⟨by rfl, ?_⟩) ?_
      rotate_left
      · (intro w hSw; (try dsimp only at hSw); go_simp; try with_reducible rfl)
      (try simp only [Act.put, List.setIfInBounds_toArray, List.set_cons_zero, List.set_cons_succ])
      refine heldDone (by kernel_rfl) ?_ _
      go_wp2_with fail
      gi_wp2
      refine wp_genIn ?_
      intro WX hWX
      have hkZ : Below WY.heap.size WY WX := by rw [← hWX]; exact hkwa3
      have hkX : Below W4.heap.size W4 WX := hkY.trans (hkZ.mono hkY.size)
      replace e0 := (hkZ.cell (World.block_lt_of_cell? _ _ e0)).trans e0
      replace c0 := (hkZ.cell (World.block_lt_of_cell? _ _ c0)).trans c0
      replace c1 := (hkZ.cell (World.block_lt_of_cell? _ _ c1)).trans c1
      replace c2 := (hkZ.cell (World.block_lt_of_cell? _ _ c2)).trans c2
      replace c3 := (hkZ.cell (World.block_lt_of_cell? _ _ c3)).trans c3
      replace c4 := (hkZ.cell (World.block_lt_of_cell? _ _ c4)).trans c4
      replace c5 := (hkZ.cell (World.block_lt_of_cell? _ _ c5)).trans c5
      replace m0 := (hkZ.cell (World.block_lt_of_cell? _ _ m0)).trans m0
      replace a0 := (hkZ.cell (World.block_lt_of_cell? _ _ a0)).trans a0
      replace k3 := (hkZ.cell (World.block_lt_of_cell? _ _ k3)).trans k3
      replace k4 := (hkZ.cell (World.block_lt_of_cell? _ _ k4)).trans k4
      replace p0 := (hkZ.cell (World.block_lt_of_cell? _ _ p0)).trans p0
      replace p1 := (hkZ.cell (World.block_lt_of_cell? _ _ p1)).trans p1
      clear hWX
      have HM := Lib.hid (HM.out.below hkX)
      have hbX : Below W.heap.size W WX := hb4.trans (hkX.mono hb4.size)
      have nW := blt m0
      obtain ⟨u0, hu0, hrow0⟩ := HM.out.row
      have fz0 := HM.out.fz
      have hltF : w1.heap.size < WX.heap.size := blt hu0
      have hzX := HM.out.ends.size
      obtain ⟨y0, hy, hyz0, hyz1, hyz2⟩ := info_parts info_u8
      have HS : Hid (∀ w', Below WX.heap.size WX w' → w'.cell? ⟨w1.heap.size, 2, none⟩ = some u0 ∧ w'.cell? ⟨w.heap.size + 1, 0, none⟩ = some (.int .i64 (g.x)) ∧ w'.cell? ⟨w.heap.size + 1, 1, none⟩ = some (.int .i64 (g.y)) ∧ w'.cell? ⟨w.heap.size + 1, 2, none⟩ = some (.int .i64 (g.p)) ∧ w'.cell? ⟨w.heap.size + 1, 3, none⟩ = some (.int .i64 (g.w)) ∧ w'.cell? ⟨w.heap.size + 1, 4, none⟩ = some (.int .i64 (g.h)) ∧ w'.cell? ⟨w.heap.size + 1, 5, none⟩ = some (.int .i64 (g.s))) := fun w' hh => ⟨(hh.cell (blt hu0)).trans hu0, (hh.cell (blt c0)).trans c0, (hh.cell (blt c1)).trans c1, (hh.cell (blt c2)).trans c2, (hh.cell (blt c3)).trans c3, (hh.cell (blt c4)).trans c4, (hh.cell (blt c5)).trans c5⟩
      refine wpIn_last (S := fun w' => w'.cell? ⟨w1.heap.size, 2, none⟩ = some u0 ∧ w'.cell? ⟨w.heap.size + 1, 0, none⟩ = some (.int .i64 (g.x)) ∧ w'.cell? ⟨w.heap.size + 1, 1, none⟩ = some (.int .i64 (g.y)) ∧ w'.cell? ⟨w.heap.size + 1, 2, none⟩ = some (.int .i64 (g.p)) ∧ w'.cell? ⟨w.heap.size + 1, 3, none⟩ = some (.int .i64 (g.w)) ∧ w'.cell? ⟨w.heap.size + 1, 4, none⟩ = some (.int .i64 (g.h)) ∧ w'.cell? ⟨w.heap.size + 1, 5, none⟩ = some (.int .i64 (g.s))) rfl (by kernel_rfl) (by rintro ⟨_, _, h⟩; exact h) (by kernel_rfl) (by kernel_rfl) ⟨hu0, c0, c1, c2, c3, c4, c5⟩ (fun hHeld => ?_)
      refine heldTake (i := 0) (v := ?_) rfl (by kernel_rfl) (by kernel_rfl) (by kernel_rfl) (fun _ _ _ h => h) (by assumption) (Or.inl ⟨by rfl, ?_⟩) ?_
      rotate_left
      · (intro w hSw; (try dsimp only at hSw); go_simp; try with_reducible rfl)
      (try simp only [Act.put, List.setIfInBounds_toArray, List.set_cons_zero, List.set_cons_succ])
      refine heldTake (i := 1) (v := ?_) rfl (by kernel_rfl) (by kernel_rfl) (by kernel_rfl) (fun _ _ _ h => h) (by assumption) (Or.inl ⟨by rfl, ?_⟩) ?_
      rotate_left
      · (intro w hSw; (try dsimp only at hSw); go_simp; try with_reducible rfl)
      (try simp only [Act.put, List.setIfInBounds_toArray, List.set_cons_zero, List.set_cons_succ])
      refine heldTake (i := 2) (v := ?_) rfl (by kernel_rfl) (by kernel_rfl) (by kernel_rfl) (fun _ _ _ h => h) (by assumption) (Or.inl ⟨by rfl, ?_⟩) ?_
      rotate_left
      · (intro w hSw; (try dsimp only at hSw); go_simp; try with_reducible rfl)
      (try simp only [Act.put, List.setIfInBounds_toArray, List.set_cons_zero, List.set_cons_succ])
      refine heldTake (i := 3) (v := ?_) rfl (by kernel_rfl) (by kernel_rfl) (by kernel_rfl) (fun _ _ _ h => h) (by assumption) (Or.inl ⟨by rfl, ?_⟩) ?_
      rotate_left
      · (intro w hSw; (try dsimp only at hSw); go_simp; try with_reducible rfl)
      (try simp only [Act.put, List.setIfInBounds_toArray, List.set_cons_zero, List.set_cons_succ])
      refine heldTake (i := 4) (v := ?_) rfl (by kernel_rfl) (by kernel_rfl) (by kernel_rfl) (fun _ _ _ h => h) (by assumption) (Or.inl ⟨by rfl, ?_⟩) ?_
      rotate_left
      · (intro w hSw; (try dsimp only at hSw); go_simp; try with_reducible rfl)
      (try simp only [Act.put, List.setIfInBounds_toArray, List.set_cons_zero, List.set_cons_succ])
      refine heldOne (i := 5) rfl (by kernel_rfl) (by rfl) (fun K hK => ?_)
      go_simp
      go_call code_c g (signE es (cen g.x g.p x.1.1) (cen g.y g.p x.1.2)) (isqrt ((em.sq (cen g.x g.p x.1.1) (cen g.y g.p x.1.2)).1 * 64 / (em.sq (cen g.x g.p x.1.1) (cen g.y g.p x.1.2)).2)) _ HG.out.2.2.2.2.2.1 HG.out.2.2.2.2.2.2 sb0 sb1 SB3.out SB2.out as r w5 ⟨rfl, hb5⟩
      go_wp2_with fail
      have hkD : Below WX.heap.size WX w5 := (by repeat' (first | (with_reducible exact Below.refl _ _) | (with_reducible assumption) | (with_reducible refine below_drewN ?_ _) | (with_reducible refine Below.alloc ?_ ?_ _) | (with_reducible refine Below.drew ?_) | (with_reducible refine Below.setCell ?_ ?_ _) | (with_reducible refine below_var ?_ ?_ (by assumption)) | (with_reducible refine below_own' ?_ (by assumption) (by assumption) ?_ ?_) | go_size))
      have hkDz := hkD.size
      refine hK.out _ _ (HS.out _ hkD) (fun hHeld => ?_)
      clear hK K hb5
      (try simp only [Act.put, List.setIfInBounds_toArray, List.set_cons_zero, List.set_cons_succ])
      refine heldOne (i := 6) rfl (by kernel_rfl) (by rfl) (fun K hK => ?_)
      go_simp
      refine hK.out _ _ (HS.out _ (by repeat' (first | (with_reducible exact Below.refl _ _) | (with_reducible assumption) | (with_reducible refine below_drewN ?_ _) | (with_reducible refine Below.alloc ?_ ?_ _) | (with_reducible refine Below.drew ?_) | (with_reducible refine Below.setCell ?_ ?_ _) | (with_reducible refine below_var ?_ ?_ (by assumption)) | (with_reducible refine below_own' ?_ (by assumption) (by assumption) ?_ ?_) | go_size))) (fun hHeld => ?_)
      clear hK K
      (try simp only [Act.put, List.setIfInBounds_toArray, List.set_cons_zero, List.set_cons_succ])
      have hkE : Below WX.heap.size WX (w5.alloc (.cells #[.int .u8 (code g.s (signE es (cen g.x g.p x.1.1) (cen g.y g.p x.1.2)) (isqrt ((em.sq (cen g.x g.p x.1.1) (cen g.y g.p x.1.2)).1 * 64 / (em.sq (cen g.x g.p x.1.1) (cen g.y g.p x.1.2)).2)))] 5)) := (by repeat' (first | (with_reducible exact Below.refl _ _) | (with_reducible assumption) | (with_reducible refine below_drewN ?_ _) | (with_reducible refine Below.alloc ?_ ?_ _) | (with_reducible refine Below.drew ?_) | (with_reducible refine Below.setCell ?_ ?_ _) | (with_reducible refine below_var ?_ ?_ (by assumption)) | (with_reducible refine below_own' ?_ (by assumption) (by assumption) ?_ ?_) | go_size))
      have hrow5 := ownsRow_below hrow0 hkE
      refine heldOne (i := 7) rfl (by kernel_rfl) (by rfl) (fun K hK => ?_)
      refine wp_append_lies _ _ _ 45 rfl Wc.heap.size 5 y0 _ 1 1 Try.underlying45 hy hyz0 hyz1 hyz2 rfl (by decide) u0 pre.length _ (by rfl) hrow5 ⟨w5.heap.size, 0, none⟩ 1 1 [.int .u8 (code g.s (signE es (cen g.x g.p x.1.1) (cen g.y g.p x.1.2)) (isqrt ((em.sq (cen g.x g.p x.1.1) (cen g.y g.p x.1.2)).1 * 64 / (em.sq (cen g.x g.p x.1.1) (cen g.y g.p x.1.2)).2)))] (by rfl) rfl (cell_one_new _ _ _) (by intro z hz; simp at hz; subst hz; rfl) (by decide) (by unfold maxLen; omega) (by omega) (by have := hkE.size; omega) _ rfl ?_
      intro ga ca wa hown2 hgrow hat hlta
      have hcf := fun (k o : Nat) (h1 : k < Wc.heap.size) => hgrow.cell_far ⟨k, o, none⟩ (Nat.lt_of_lt_of_le h1 (Nat.le_trans hzX hkE.size)) (fun e => by have := (hrow5.lt k e.symm).1; omega)
      have HCF := Lib.hid hcf
      have hS5 := HS.out _ hkE
      refine hK.out _ _ ⟨(HCF.out _ _ (by omega)).trans hS5.1, (HCF.out _ _ (by omega)).trans hS5.2.1, (HCF.out _ _ (by omega)).trans hS5.2.2.1, (HCF.out _ _ (by omega)).trans hS5.2.2.2.1, (HCF.out _ _ (by omega)).trans hS5.2.2.2.2.1, (HCF.out _ _ (by omega)).trans hS5.2.2.2.2.2.1, (HCF.out _ _ (by omega)).trans hS5.2.2.2.2.2.2⟩ (fun hHeld => ?_)
      clear hK K
      (try simp only [Act.put, List.setIfInBounds_toArray, List.set_cons_zero, List.set_cons_succ])
      refine heldTake (i := 8) (v := ?_) rfl (by kernel_rfl) (by kernel_rfl) (by kernel_rfl) (fun _ _ _ h => h) (by assumption) (Or.inl ⟨by rfl, ?_⟩) ?_
      rotate_left
      · (intro w hSw; (try dsimp only at hSw); go_simp; try with_reducible rfl)
      (try simp only [Act.put, List.setIfInBounds_toArray, List.set_cons_zero, List.set_cons_succ])
      refine heldDone (by kernel_rfl) ?_ _
      have HM5 := Lib.hid (HM.out.below hkE)
      have HG5 := Lib.hid hgrow
      have HO2 := Lib.hid hown2
      have HR5 := Lib.hid hrow5
      have hF2 := hHeld.1
      have fzA : wa.frozen? ⟨w1.heap.size, 2, none⟩ = false := (hgrow.frozen_far ⟨w1.heap.size, 2, none⟩ (Nat.lt_of_lt_of_le hltF hkE.size) (fun e => by have := (hrow5.lt _ e.symm).1; simp at this; omega)).trans ((hkE.frozen (p := ⟨w1.heap.size, 2, none⟩) hltF).trans fz0)
      have hltA := blt hF2
      clear hcf hgrow hown2 hrow5 hHeld hat
      simp only [LastQ]
      have nG3 := blt k3
      go_wp2_with fail
      have hbE : Below W.heap.size W (w5.alloc (.cells #[.int .u8 (code g.s (signE es (cen g.x g.p x.1.1) (cen g.y g.p x.1.2)) (isqrt ((em.sq (cen g.x g.p x.1.1) (cen g.y g.p x.1.2)).1 * 64 / (em.sq (cen g.x g.p x.1.1) (cen g.y g.p x.1.2)).2)))] 5)) := hbX.trans (hkE.mono hbX.size)
      refine ⟨keeps_turn hbE HG5.out (own_cells HR5.out) hF2, fun o => ?_, SM.step HM5.out (HS.out _ hkE).1 HR5.out HG5.out (by rw [HTX.out]) HO2.out⟩
      exact (World.cell?_setCell_far _ _ _ _ (by simp; omega)).trans ((HCF.out _ o (by omega)).trans (hbE.cell (p := ⟨w2.heap.size + 1, o, none⟩) (show w2.heap.size + 1 < W.heap.size by omega)))
  case done =>
    intro D W hD hM hK
    obtain ⟨hes, f0', f1', ⟨u, f2', hrow⟩, fz', _⟩ := hM
    have hsz := hes.size
    replace f0 := (hes.frozen_far _ (blt r0) (by simp <;> omega)).trans f0
    replace f1 := (hes.frozen_far _ (blt r1) (by simp <;> omega)).trans f1
    replace f2 := (hes.frozen_far _ (blt r2) (by simp <;> omega)).trans f2
    replace r0 := (hes.cell_far _ (blt r0) (by simp <;> omega)).trans r0
    replace r1 := (hes.cell_far _ (blt r1) (by simp <;> omega)).trans r1
    replace r2 := (hes.cell_far _ (blt r2) (by simp <;> omega)).trans r2
    have HROW := Lib.hid hrow
    have nr := blt r0
    obtain ⟨ua, ucap, rfl⟩ := own_slice hrow
    clear hrow
    have nF := blt f2'
    have hDr : D ≠ w.heap.size + 1 + 1 := by omega
    go_wp2_with fail
    have hK2 : (((W.setCell ⟨w.heap.size + 1 + 1, 0, none⟩ (.int .i64 (g.w))).setCell ⟨w.heap.size + 1 + 1, 1, none⟩ (.int .i64 (g.h))).setCell ⟨w.heap.size + 1 + 1, 2, none⟩ (.slice ua (txTo HG.out (txN g)).length ucap)).heap[D]? = some (.deferred (some [])) :=
      (heap_setCell_other _ _ D _ hDr).trans ((heap_setCell_other _ _ D _ hDr).trans ((heap_setCell_other _ _ D _ hDr).trans hK))
    have hBf : Below w.heap.size w (((W.setCell ⟨w.heap.size + 1 + 1, 0, none⟩ (.int .i64 (g.w))).setCell ⟨w.heap.size + 1 + 1, 1, none⟩ (.int .i64 (g.h))).setCell ⟨w.heap.size + 1 + 1, 2, none⟩ (.slice ua (txTo HG.out (txN g)).length ucap)) := by
      have hbW : Below w.heap.size w W := HBc.trans ((Below.refl _ _).grown hes (by have := HBc.size; omega) fun k e => by cases e; have := HB.size; omega)
      exact (by repeat' (first | (with_reducible exact Below.refl _ _) | (with_reducible assumption) | (with_reducible refine below_drewN ?_ _) | (with_reducible refine Below.alloc ?_ ?_ _) | (with_reducible refine Below.drew ?_) | (with_reducible refine Below.setCell ?_ ?_ _) | (with_reducible refine below_var ?_ ?_ (by assumption)) | (with_reducible refine below_own' ?_ (by assumption) (by assumption) ?_ ?_) | go_size))
    have hRf := ownsRow_set (ownsRow_set (ownsRow_set HROW.out (a := ⟨w.heap.size + 1 + 1, 0, none⟩) (by simp; omega) (.int .i64 (g.w))) (a := ⟨w.heap.size + 1 + 1, 1, none⟩) (by simp; omega) (.int .i64 (g.h))) (a := ⟨w.heap.size + 1 + 1, 2, none⟩) (by simp; omega) (.slice ua (txTo HG.out (txN g)).length ucap)
    have s0 : (((W.setCell ⟨w.heap.size + 1 + 1, 0, none⟩ (.int .i64 (g.w))).setCell ⟨w.heap.size + 1 + 1, 1, none⟩ (.int .i64 (g.h))).setCell ⟨w.heap.size + 1 + 1, 2, none⟩ (.slice ua (txTo HG.out (txN g)).length ucap)).cell? ⟨w.heap.size + 1 + 1, 0, none⟩ = some (.int .i64 (g.w)) := by go_simp
    have s1 : (((W.setCell ⟨w.heap.size + 1 + 1, 0, none⟩ (.int .i64 (g.w))).setCell ⟨w.heap.size + 1 + 1, 1, none⟩ (.int .i64 (g.h))).setCell ⟨w.heap.size + 1 + 1, 2, none⟩ (.slice ua (txTo HG.out (txN g)).length ucap)).cell? ⟨w.heap.size + 1 + 1, 1, none⟩ = some (.int .i64 (g.h)) := by go_simp
    have s2 : (((W.setCell ⟨w.heap.size + 1 + 1, 0, none⟩ (.int .i64 (g.w))).setCell ⟨w.heap.size + 1 + 1, 1, none⟩ (.int .i64 (g.h))).setCell ⟨w.heap.size + 1 + 1, 2, none⟩ (.slice ua (txTo HG.out (txN g)).length ucap)).cell? ⟨w.heap.size + 1 + 1, 2, none⟩ = some (.slice ua (txTo HG.out (txN g)).length ucap) := by go_simp
    generalize (((W.setCell ⟨w.heap.size + 1 + 1, 0, none⟩ (.int .i64 (g.w))).setCell ⟨w.heap.size + 1 + 1, 1, none⟩ (.int .i64 (g.h))).setCell ⟨w.heap.size + 1 + 1, 2, none⟩ (.slice ua (txTo HG.out (txN g)).length ucap)) = Wf at hK2 hBf hRf s0 s1 s2 ⊢
    refine ⟨by simp, .inl ⟨_, _, rfl, run_takeDeferred hK2, ?_⟩⟩
    have hgp := grownBy_putObj' Wf D (.deferred none)
    have hne : ∀ k, k ≠ D → (Wf.putObj D (.deferred none)).heap[k]? = Wf.heap[k]? := fun k h => World.putObj_heap_other h
    replace s0 := (World.cell?_of_block (a := ⟨w.heap.size + 1 + 1, 0, none⟩) (hne _ hDr.symm)).trans s0
    replace s1 := (World.cell?_of_block (a := ⟨w.heap.size + 1 + 1, 1, none⟩) (hne _ hDr.symm)).trans s1
    replace s2 := (World.cell?_of_block (a := ⟨w.heap.size + 1 + 1, 2, none⟩) (hne _ hDr.symm)).trans s2
    have hBp : Below w.heap.size w (Wf.putObj D (.deferred none)) := hBf.grown hgp hBf.size fun k e => by cases e; have := HBc.size; omega
    have hRp := ownsRow_turn hRf hgp fun r e => by cases e; exact ⟨_, hK2, rfl⟩
    generalize Wf.putObj D (.deferred none) = Wp at s0 s1 s2 hBp hRp ⊢
    refine ⟨_, (by simp [results, Try.results18, go_sem, s0, s1, s2]; rfl), ?_⟩
    refine ⟨⟨_, rfl, ?_⟩, hBp⟩
    have hRq := own_down hRp HBc.size
    rw [txTo_len] at hRq ⊢
    exact hRq

end Go.Proofs.Ytadohkidfkbncaa
