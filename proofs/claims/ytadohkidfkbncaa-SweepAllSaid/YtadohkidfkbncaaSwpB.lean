/-
  The walk of sweep: what a texel is told.
-/
import Derived.Test.YtadohkidfkbncaaSwpA
import Derived.Deep.DrawnRows
namespace Go.Proofs.Ytadohkidfkbncaa
open Go.RowKit
set_option linter.unusedSimpArgs false
attribute [local go_sem ↓] Go.wp_at_zero Go.wp_at_succ

theorem TB.set {w0 w : World} {B A cap : Nat} {v : Value} {es : List Edg} {g : Grd} {l : List Int} (h : TB w0 w B A cap v es g l) (n : Nat) (x : Int) : TB w0 (w.setCell ⟨A, n, none⟩ (.int .i64 (x))) B A cap v es g (l.set n x) := by
  have hl := h.lA
  have cB : ∀ o, (w.setCell ⟨A, n, none⟩ (.int .i64 (x))).cell? ⟨B, o, none⟩ = w.cell? ⟨B, o, none⟩ := fun o => World.cell?_setCell_far _ _ _ _ (by simpa using h.ne)
  refine ⟨h.he, Below.setCell h.bel h.hA _, h.hA, h.hB, h.ne, (cB _).trans h.c0, (cB _).trans h.c1, (cB _).trans h.c2, (cB _).trans h.c3, (cB _).trans h.c4, (cB _).trans h.c5, (cB _).trans h.c6, ?_, by simpa using h.len, by simpa using hl, fun m y hm => ?_⟩
  · rw [List.length_set]; exact (cB _).trans h.c7
  · have hlen : m < l.length := by have := (List.getElem?_eq_some_iff.1 hm).1; simpa using this
    obtain ⟨k1, k2⟩ := h.at' m _ (List.getElem?_eq_getElem hlen)
    refine ⟨?_, by simpa using k2⟩
    rcases Nat.decEq n m with hne | rfl
    · rw [List.getElem?_set_ne hne] at hm
      obtain ⟨k3, _⟩ := h.at' m _ hm
      exact (World.cell?_setCell_other _ _ _ _ (by simp)).trans k3
    · rw [List.getElem?_set_self hlen] at hm
      cases hm
      exact World.cell?_setCell_same' _ _ _ (by rw [k1]; rfl)

theorem grown_drewN {w w1 : World} {row : Option Nat} (h : w.grownBy w1 row) (n : Nat) : w.grownBy (w1.drewN n) row := ⟨h.os, h.tape, h.output, h.size, h.block⟩
theorem grown_set {w w1 : World} {A : Nat} (h : w.grownBy w1 (some A)) (n : Nat) (x : Value) : w.grownBy (w1.setCell ⟨A, n, none⟩ x) (some A) := by
  have hb : Below A w1 (w1.setCell ⟨A, n, none⟩ x) := Below.setCell (p := ⟨A, n, none⟩) (Below.refl _ _) (Nat.le_refl A) _
  exact ⟨hb.os.trans h.os, hb.tape.trans h.tape, hb.output.trans h.output, Nat.le_trans h.size hb.size, fun b hb hne => (heap_setCell_other w1 _ b x (fun e => hne (by rw [e]))).trans (h.block b hb hne)⟩
theorem grown_below {w w1 w2 : World} {row : Option Nat} (h : w.grownBy w1 row) (hb : Below w1.heap.size w1 w2) : w.grownBy w2 row :=
  ⟨hb.os.trans h.os, hb.tape.trans h.tape, hb.output.trans h.output, Nat.le_trans h.size hb.size, fun k hk hne => (hb.block k (Nat.lt_of_lt_of_le hk h.size)).trans (h.block k hk hne)⟩

set_option maxRecDepth 20000 in
set_option maxHeartbeats 1600000 in
theorem offer_c {w0 w : World} {B A cap : Nat} {v : Value} {es : List Edg} {g : Grd} {l : List Int} (h : TB w0 w B A cap v es g l) (hg : g.ok) (hes : ∀ x ∈ l, x < es.length) (i k e : Int) (hi : inG g i k) (h1 : e < es.length) :
    Calls Try.prog 39 #[.pointer (some ⟨B, 0, none⟩), (.int .i64 (i)), (.int .i64 (k)), (.int .i64 (e))] w fun r w' => r = .returned (.tuple #[]) ∧ TB w0 w' B A cap v es g (offerE es g l i k e) ∧ w.grownBy w' (some A) := by
  have HT := Lib.hid h
  by_cases he : e < 0
  · have HF := Lib.hid (show offerE es g l i k e = l from if_pos he)
    clear h
    go_enter Try.func39, Try.ntmps39
    go_wp2_with fail
    refine bodyPost_ret (results_none rfl _ _ _) rfl ?_
    rw [HF.out]
    exact ⟨rfl, HT.out, ⟨rfl, rfl, rfl, Nat.le_refl _, fun _ _ _ => rfl⟩⟩
  · have GX := Lib.hid hg.1
    have GY := Lib.hid hg.2.1
    obtain ⟨p1, p2⟩ := hg.2.2.1
    have wb := hg.2.2.2.1.2
    have hbd := hg.2.2.2.2.1.2
    have CX := Lib.hid (cen_bd hg.1 hg.2.2.1 ⟨hi.1, by have := hi.2.2.1; have := hg.2.2.2.1.2; omega⟩)
    have CY := Lib.hid (cen_bd hg.2.1 hg.2.2.1 ⟨hi.2.1, by have := hi.2.2.2; have := hg.2.2.2.2.1.2; omega⟩)
    obtain ⟨b, cape, ae, rfl, hle, hae, hok, hE⟩ := h.he.carry h.bel
    obtain ⟨j, rfl⟩ := Int.eq_ofNat_of_zero_le (show 0 ≤ e by omega)
    obtain ⟨ej, hej, hem⟩ := get_of_lt (show j < es.length by omega)
    obtain ⟨a0, a1, a2, a3⟩ := hE j ej hej
    obtain rfl := hae (ne_nil_of_lt (show j < es.length by omega))
    obtain ⟨q1, q2, q3, -, -⟩ := ix_bd hg hi
    obtain ⟨g1, g2, g3⟩ := h.get hg hi
    have hll := h.len
    have q4 : k * g.w + i < l.length := by omega
    have q5 : 0 ≤ k * g.w + i := by have := hi.1; omega
    have q6 : (k * g.w + i).toNat < l.length := by omega
    have e0 := h.c0
    have e1 := h.c1
    have e2 := h.c2
    have e3 := h.c3
    have e4 := h.c4
    have e5 := h.c5
    have e6 := h.c6
    have e7 := h.c7
    have HJ := Lib.hid (sqAt_of (x := cen g.x g.p i) (y := cen g.y g.p k) hej)
    have HOJ := Lib.hid (hok ej hem)
    have hm := hes _ (List.mem_of_getElem? g1)
    obtain ⟨m, hmv⟩ : ∃ m, m = getI l (ixOf g i k) := ⟨_, rfl⟩
    rw [← hmv] at g2 hm
    have HM := Lib.hid hmv
    have HIX := Lib.hid (show ixOf g i k = (k * g.w + i).toNat from rfl)
    obtain ⟨i1, i2, i3, i4⟩ := hi
    have nA := HT.out.lA
    have nB := blt e0
    have hAB := HT.out.ne
    clear h hej hem g1 hmv hll q3 hg hae
    go_enter Try.func39, Try.ntmps39
    go_wp2_with fail
    go_call centre_c g i k _ (GX.out.mono (by omega)) (GY.out.mono (by omega)) (by omega) (by omega) i1 (by omega) i2 (by omega) as r w1 ⟨rfl, hb1⟩
    have hk1 : Below w.heap.size w w1 := (by repeat' (first | (with_reducible exact Below.refl _ _) | (with_reducible assumption) | (with_reducible refine below_drewN ?_ _) | (with_reducible refine Below.alloc ?_ ?_ _) | (with_reducible refine Below.drew ?_) | (with_reducible refine Below.setCell ?_ ?_ _) | (with_reducible refine below_var ?_ ?_ (by assumption)) | (with_reducible refine below_own' ?_ (by assumption) (by assumption) ?_ ?_) | go_size))
    replace g3 := (hk1.frozen (World.block_lt_of_cell? _ _ g2)).trans g3
    replace a0 := (hk1.cell (World.block_lt_of_cell? _ _ a0)).trans a0
    replace a1 := (hk1.cell (World.block_lt_of_cell? _ _ a1)).trans a1
    replace a2 := (hk1.cell (World.block_lt_of_cell? _ _ a2)).trans a2
    replace a3 := (hk1.cell (World.block_lt_of_cell? _ _ a3)).trans a3
    replace g2 := (hk1.cell (World.block_lt_of_cell? _ _ g2)).trans g2
    replace e0 := (hk1.cell (World.block_lt_of_cell? _ _ e0)).trans e0
    replace e4 := (hk1.cell (World.block_lt_of_cell? _ _ e4)).trans e4
    replace e7 := (hk1.cell (World.block_lt_of_cell? _ _ e7)).trans e7
    have HT := Lib.hid (HT.out.below hk1)
    have hz1 := hk1.size
    have nA := HT.out.lA
    have nB := blt e0
    have nE := blt a0
    clear hb1
    go_upto_region 3 with fail
    refine wp_gen ?_
    intro W hW
    have hkW : Below w1.heap.size w1 W := by rw [← hW]; exact (by repeat' (first | (with_reducible exact Below.refl _ _) | (with_reducible assumption) | (with_reducible refine below_drewN ?_ _) | (with_reducible refine Below.alloc ?_ ?_ _) | (with_reducible refine Below.drew ?_) | (with_reducible refine Below.setCell ?_ ?_ _) | (with_reducible refine below_var ?_ ?_ (by assumption)) | (with_reducible refine below_own' ?_ (by assumption) (by assumption) ?_ ?_) | go_size))
    have c0 : W.cell? ⟨w1.heap.size, 0, none⟩ = some (.int .i64 (cen g.x g.p i)) := by rw [← hW]; simp [go_sem]
    have c1 : W.cell? ⟨w1.heap.size, 1, none⟩ = some (.int .i64 (cen g.y g.p k)) := by rw [← hW]; simp [go_sem]
    replace g3 := (hkW.frozen (World.block_lt_of_cell? _ _ g2)).trans g3
    replace a0 := (hkW.cell (World.block_lt_of_cell? _ _ a0)).trans a0
    replace a1 := (hkW.cell (World.block_lt_of_cell? _ _ a1)).trans a1
    replace a2 := (hkW.cell (World.block_lt_of_cell? _ _ a2)).trans a2
    replace a3 := (hkW.cell (World.block_lt_of_cell? _ _ a3)).trans a3
    replace g2 := (hkW.cell (World.block_lt_of_cell? _ _ g2)).trans g2
    replace e0 := (hkW.cell (World.block_lt_of_cell? _ _ e0)).trans e0
    replace e4 := (hkW.cell (World.block_lt_of_cell? _ _ e4)).trans e4
    replace e7 := (hkW.cell (World.block_lt_of_cell? _ _ e7)).trans e7
    have HT := Lib.hid (HT.out.below hkW)
    have hzW := hkW.size
    have HG1 := Lib.hid (show w.grownBy W (some A) from ⟨(hk1.trans (hkW.mono hz1)).os, (hk1.trans (hkW.mono hz1)).tape, (hk1.trans (hkW.mono hz1)).output, (hk1.trans (hkW.mono hz1)).size, fun b hb _ => (hk1.trans (hkW.mono hz1)).block b hb⟩)
    clear hW
    by_cases hneg : m < 0
    · have HF := Lib.hid (show offerE es g l i k j = l.set ((k * g.w + i).toNat) j by unfold offerE; rw [if_neg (by omega), if_pos (.inl (by rw [← HM.out]; exact hneg)), HIX.out])
      go_quiet (fail)
      go_wp2_with fail
      refine bodyPost_end (results_none rfl _ _ _) rfl ?_
      rw [HF.out]
      exact ⟨rfl, (HT.out.below (below_drewN (Below.refl _ _) _)).set _ _, grown_set (grown_drewN HG1.out _) _ _⟩
    · obtain ⟨m', rfl⟩ := Int.eq_ofNat_of_zero_le (show 0 ≤ m by omega)
      obtain ⟨em, hem1, hem2⟩ := get_of_lt (show m' < es.length by omega)
      obtain ⟨b0, b1, b2, b3⟩ := hE m' em hem1
      replace b0 := (hk1.cell (World.block_lt_of_cell? _ _ b0)).trans b0
      replace b1 := (hk1.cell (World.block_lt_of_cell? _ _ b1)).trans b1
      replace b2 := (hk1.cell (World.block_lt_of_cell? _ _ b2)).trans b2
      replace b3 := (hk1.cell (World.block_lt_of_cell? _ _ b3)).trans b3
      replace b0 := (hkW.cell (World.block_lt_of_cell? _ _ b0)).trans b0
      replace b1 := (hkW.cell (World.block_lt_of_cell? _ _ b1)).trans b1
      replace b2 := (hkW.cell (World.block_lt_of_cell? _ _ b2)).trans b2
      replace b3 := (hkW.cell (World.block_lt_of_cell? _ _ b3)).trans b3
      have HMJ := Lib.hid (sqAt_of (x := cen g.x g.p i) (y := cen g.y g.p k) hem1)
      have HOM := Lib.hid (hok em hem2)
      have FJ := Lib.hid (Edg.sq_fine HOJ.out CX.out CY.out)
      have FM := Lib.hid (Edg.sq_fine HOM.out CX.out CY.out)
      have HDec : Hid (∃ c : Bool, (decide (cmpI ((ej.sq (cen g.x g.p i) (cen g.y g.p k)).1 * (em.sq (cen g.x g.p i) (cen g.y g.p k)).2) ((em.sq (cen g.x g.p i) (cen g.y g.p k)).1 * (ej.sq (cen g.x g.p i) (cen g.y g.p k)).2) < 0) = c) ∧ offerE es g l i k j = (if c = true then l.set ((k * g.w + i).toNat) j else l)) := by
        refine ⟨_, rfl, ?_⟩
        unfold offerE
        rw [if_neg (by omega), ← HM.out, HMJ.out, HJ.out, HIX.out]
        unfold fle cmpI
        by_cases hlt : (ej.sq (cen g.x g.p i) (cen g.y g.p k)).1 * (em.sq (cen g.x g.p i) (cen g.y g.p k)).2 < (em.sq (cen g.x g.p i) (cen g.y g.p k)).1 * (ej.sq (cen g.x g.p i) (cen g.y g.p k)).2
        · rw [if_pos (.inr (by omega)), if_pos (by rw [if_pos hlt]; decide)]
        · rw [if_neg (by rintro (h | h) <;> omega), if_neg (by rw [if_neg hlt]; split <;> decide)]
      clear hem1 hem2 hok hE hes
      obtain ⟨c, hc1, hc2⟩ := HDec.out
      have HC1 := Lib.hid hc1
      have HF := Lib.hid hc2
      clear hc1 hc2
      go_cut [89] (fun s wx => s = .bool c ∧ Below W.heap.size W wx)
      case first =>
        have hc := HC1.out
        have HS : Hid (∀ w', Below (W.heap.size) W w' → (Below (W.heap.size) W w' ∧ w'.cell? ⟨B, 0, none⟩ = some (.slice (some ⟨b, 0, none⟩) es.length cape) ∧ w'.cell? ⟨B, 7, none⟩ = some (.slice (some ⟨A, 0, none⟩) l.length cap) ∧ w'.cell? ⟨A, (k * g.w + i).toNat, none⟩ = some ((.int .i64 (m'))) ∧ w'.cell? ⟨b, j * 4, none⟩ = some ((.int .i64 (ej.ax))) ∧ w'.cell? ⟨b, j * 4 + 1, none⟩ = some ((.int .i64 (ej.ay))) ∧ w'.cell? ⟨b, j * 4 + 2, none⟩ = some ((.int .i64 (ej.bx))) ∧ w'.cell? ⟨b, j * 4 + 3, none⟩ = some ((.int .i64 (ej.bz))) ∧ w'.cell? ⟨b, m' * 4, none⟩ = some ((.int .i64 (em.ax))) ∧ w'.cell? ⟨b, m' * 4 + 1, none⟩ = some ((.int .i64 (em.ay))) ∧ w'.cell? ⟨b, m' * 4 + 2, none⟩ = some ((.int .i64 (em.bx))) ∧ w'.cell? ⟨b, m' * 4 + 3, none⟩ = some ((.int .i64 (em.bz))) ∧ w'.cell? ⟨w1.heap.size, 0, none⟩ = some ((.int .i64 (cen g.x g.p i))) ∧ w'.cell? ⟨w1.heap.size, 1, none⟩ = some ((.int .i64 (cen g.y g.p k))))) := fun w' h => ⟨h, (h.cell (p := ⟨B, 0, none⟩) (by first | exact World.block_lt_of_cell? W _ (show W.cell? ⟨B, 0, none⟩ = some (.slice (some ⟨b, 0, none⟩) es.length cape) by assumption) | go_size)).trans (by assumption), (h.cell (p := ⟨B, 7, none⟩) (by first | exact World.block_lt_of_cell? W _ (show W.cell? ⟨B, 7, none⟩ = some (.slice (some ⟨A, 0, none⟩) l.length cap) by assumption) | go_size)).trans (by assumption), (h.cell (p := ⟨A, (k * g.w + i).toNat, none⟩) (by first | exact World.block_lt_of_cell? W _ (show W.cell? ⟨A, (k * g.w + i).toNat, none⟩ = some ((.int .i64 (m'))) by assumption) | go_size)).trans (by assumption), (h.cell (p := ⟨b, j * 4, none⟩) (by first | exact World.block_lt_of_cell? W _ (show W.cell? ⟨b, j * 4, none⟩ = some ((.int .i64 (ej.ax))) by assumption) | go_size)).trans (by assumption), (h.cell (p := ⟨b, j * 4 + 1, none⟩) (by first | exact World.block_lt_of_cell? W _ (show W.cell? ⟨b, j * 4 + 1, none⟩ = some ((.int .i64 (ej.ay))) by assumption) | go_size)).trans (by assumption), (h.cell (p := ⟨b, j * 4 + 2, none⟩) (by first | exact World.block_lt_of_cell? W _ (show W.cell? ⟨b, j * 4 + 2, none⟩ = some ((.int .i64 (ej.bx))) by assumption) | go_size)).trans (by assumption), (h.cell (p := ⟨b, j * 4 + 3, none⟩) (by first | exact World.block_lt_of_cell? W _ (show W.cell? ⟨b, j * 4 + 3, none⟩ = some ((.int .i64 (ej.bz))) by assumption) | go_size)).trans (by assumption), (h.cell (p := ⟨b, m' * 4, none⟩) (by first | exact World.block_lt_of_cell? W _ (show W.cell? ⟨b, m' * 4, none⟩ = some ((.int .i64 (em.ax))) by assumption) | go_size)).trans (by assumption), (h.cell (p := ⟨b, m' * 4 + 1, none⟩) (by first | exact World.block_lt_of_cell? W _ (show W.cell? ⟨b, m' * 4 + 1, none⟩ = some ((.int .i64 (em.ay))) by assumption) | go_size)).trans (by assumption), (h.cell (p := ⟨b, m' * 4 + 2, none⟩) (by first | exact World.block_lt_of_cell? W _ (show W.cell? ⟨b, m' * 4 + 2, none⟩ = some ((.int .i64 (em.bx))) by assumption) | go_size)).trans (by assumption), (h.cell (p := ⟨b, m' * 4 + 3, none⟩) (by first | exact World.block_lt_of_cell? W _ (show W.cell? ⟨b, m' * 4 + 3, none⟩ = some ((.int .i64 (em.bz))) by assumption) | go_size)).trans (by assumption), (h.cell (p := ⟨w1.heap.size, 0, none⟩) (by first | exact World.block_lt_of_cell? W _ (show W.cell? ⟨w1.heap.size, 0, none⟩ = some ((.int .i64 (cen g.x g.p i))) by assumption) | go_size)).trans (by assumption), (h.cell (p := ⟨w1.heap.size, 1, none⟩) (by first | exact World.block_lt_of_cell? W _ (show W.cell? ⟨w1.heap.size, 1, none⟩ = some ((.int .i64 (cen g.y g.p k))) by assumption) | go_size)).trans (by assumption)⟩
        go_region_held3 (fun w' => Below (W.heap.size) W w' ∧ w'.cell? ⟨B, 0, none⟩ = some (.slice (some ⟨b, 0, none⟩) es.length cape) ∧ w'.cell? ⟨B, 7, none⟩ = some (.slice (some ⟨A, 0, none⟩) l.length cap) ∧ w'.cell? ⟨A, (k * g.w + i).toNat, none⟩ = some ((.int .i64 (m'))) ∧ w'.cell? ⟨b, j * 4, none⟩ = some ((.int .i64 (ej.ax))) ∧ w'.cell? ⟨b, j * 4 + 1, none⟩ = some ((.int .i64 (ej.ay))) ∧ w'.cell? ⟨b, j * 4 + 2, none⟩ = some ((.int .i64 (ej.bx))) ∧ w'.cell? ⟨b, j * 4 + 3, none⟩ = some ((.int .i64 (ej.bz))) ∧ w'.cell? ⟨b, m' * 4, none⟩ = some ((.int .i64 (em.ax))) ∧ w'.cell? ⟨b, m' * 4 + 1, none⟩ = some ((.int .i64 (em.ay))) ∧ w'.cell? ⟨b, m' * 4 + 2, none⟩ = some ((.int .i64 (em.bx))) ∧ w'.cell? ⟨b, m' * 4 + 3, none⟩ = some ((.int .i64 (em.bz))) ∧ w'.cell? ⟨w1.heap.size, 0, none⟩ = some ((.int .i64 (cen g.x g.p i))) ∧ w'.cell? ⟨w1.heap.size, 1, none⟩ = some ((.int .i64 (cen g.y g.p k)))) (exact HS.out _ (by repeat' (first | (with_reducible exact Below.refl _ _) | (with_reducible assumption) | (with_reducible refine below_drewN ?_ _) | (with_reducible refine Below.alloc ?_ ?_ _) | (with_reducible refine Below.drew ?_) | (with_reducible refine Below.setCell ?_ ?_ _) | (with_reducible refine below_var ?_ ?_ (by assumption)) | (with_reducible refine below_own' ?_ (by assumption) (by assumption) ?_ ?_) | go_size))) (first | (go_at_call 16; refine (square_c _ (cen g.x g.p i) (cen g.y g.p k) _ (by first | exact HOJ.out | exact HOM.out) CX.out CY.out).mono ?_; rintro e w' ⟨rfl, hb⟩; obtain ⟨hc, hf, hs⟩ := bcell3 hb; have hz := hb.size; (try simp only [World.size_alloc, World.size_setCell, World.size_drew, World.heap_drewN] at hz); (try have hq0 : W.heap.size < w'.heap.size := by omega); (try have hq1 : W.heap.size + 1 < w'.heap.size := by omega)) | (go_at_call 15; refine (cmp_c _ _ _ _ _ FJ.out.1 FJ.out.num (by have := FJ.out.2.2.1; omega) FJ.out.den FM.out.1 FM.out.num (by have := FM.out.2.2.1; omega) FM.out.den).mono ?_; rintro e w' ⟨rfl, hb⟩; obtain ⟨hc, hf, hs⟩ := bcell3 hb; have hz := hb.size; (try simp only [World.size_alloc, World.size_setCell, World.size_drew, World.heap_drewN] at hz); (try have hq0 : W.heap.size < w'.heap.size := by omega); (try have hq1 : W.heap.size + 1 < w'.heap.size := by omega)))
        clear HS
        all_goals (go_wp2_with fail; go_meet; exact ⟨rfl, (by repeat' (first | (with_reducible exact Below.refl _ _) | (with_reducible assumption) | (with_reducible refine below_drewN ?_ _) | (with_reducible refine Below.alloc ?_ ?_ _) | (with_reducible refine Below.drew ?_) | (with_reducible refine Below.setCell ?_ ?_ _) | (with_reducible refine below_var ?_ ?_ (by assumption)) | (with_reducible refine below_own' ?_ (by assumption) (by assumption) ?_ ?_) | go_size))⟩)
      case rest =>
        obtain ⟨rfl, hb⟩ := hcut
        have HT := Lib.hid (HT.out.below hb)
        have HG2 := Lib.hid (grown_below HG1.out hb)
        have hzx := hb.size
        replace e0 := (hb.cell (p := ⟨B, 0, none⟩) (blt e0)).trans e0
        cases c with
        | false =>
          go_wp2_with fail
          refine bodyPost_end (results_none rfl _ _ _) rfl ?_
          rw [HF.out]
          exact ⟨rfl, HT.out, HG2.out⟩
        | true =>
          replace e7 := (hb.cell (p := ⟨B, 7, none⟩) (blt e7)).trans e7
          replace g3 := (hb.frozen (blt g2)).trans g3
          replace g2 := (hb.cell (blt g2)).trans g2
          go_wp2_with fail
          refine bodyPost_end (results_none rfl _ _ _) rfl ?_
          rw [HF.out]
          exact ⟨rfl, HT.out.set _ _, grown_set HG2.out _ _⟩

end Go.Proofs.Ytadohkidfkbncaa
