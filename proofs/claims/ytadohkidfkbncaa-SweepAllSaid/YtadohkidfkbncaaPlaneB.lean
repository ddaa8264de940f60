/-
  The walks of plane: lines, sides.
-/
import Derived.Test.YtadohkidfkbncaaPlane
namespace Go.Proofs.Ytadohkidfkbncaa
open Go.RowKit
set_option linter.unusedSimpArgs false

set_option maxHeartbeats 1600000 in
theorem line_c (e : Edg) (x y : Int) (w : World) (he : e.ok) (hx : Bd 32768 x) (hy : Bd 32768 y) :
    Calls Try.prog 55 #[.agg #[(.int .i64 (e.ax)), (.int .i64 (e.ay)), (.int .i64 (e.bx)), (.int .i64 (e.bz))], .agg #[(.int .i64 (x)), (.int .i64 (y))]] w fun r w' => r = .returned (.agg #[(.int .i64 ((e.line x y).1)), (.int .i64 ((e.line x y).2))]) ∧ Below w.heap.size w w' := by
  obtain ⟨h1, h2, h3, h4⟩ := he
  have HX := Lib.hid hx
  have HY := Lib.hid hy
  have H1 := Lib.hid h1
  have H2 := Lib.hid h2
  have H3 := Lib.hid h3
  have H4 := Lib.hid h4
  clear hx hy h1 h2 h3 h4
  go_enter Try.func55, Try.ntmps55
  go_upto_region 1 with fail
  refine wp_gen ?_
  intro W hW
  have c0 : W.cell? ⟨w.heap.size, 0, none⟩ = some ((.int .i64 (e.ax))) := by rw [← hW]; simp [go_sem]
  have c1 : W.cell? ⟨w.heap.size, 1, none⟩ = some ((.int .i64 (e.ay))) := by rw [← hW]; simp [go_sem]
  have c2 : W.cell? ⟨w.heap.size, 2, none⟩ = some ((.int .i64 (e.bx))) := by rw [← hW]; simp [go_sem]
  have c3 : W.cell? ⟨w.heap.size, 3, none⟩ = some ((.int .i64 (e.bz))) := by rw [← hW]; simp [go_sem]
  have c4 : W.cell? ⟨w.heap.size + 1, 0, none⟩ = some ((.int .i64 (x))) := by rw [← hW]; simp [go_sem]
  have c5 : W.cell? ⟨w.heap.size + 1, 1, none⟩ = some ((.int .i64 (y))) := by rw [← hW]; simp [go_sem]
  have c6 : W.cell? ⟨w.heap.size + 1 + 1, 0, none⟩ = some ((.int .i64 (0))) := by rw [← hW]; simp [go_sem]
  have c7 : W.cell? ⟨w.heap.size + 1 + 1, 1, none⟩ = some ((.int .i64 (0))) := by rw [← hW]; simp [go_sem]
  have f6 : W.frozen? ⟨w.heap.size + 1 + 1, 0, none⟩ = false := by rw [← hW]; simp [go_sem]
  have f7 : W.frozen? ⟨w.heap.size + 1 + 1, 1, none⟩ = false := by rw [← hW]; simp [go_sem]
  have HB : Below w.heap.size w W := by rw [← hW]; exact (by repeat' (first | (with_reducible exact Below.refl _ _) | (with_reducible assumption) | (with_reducible refine below_drewN ?_ _) | (with_reducible refine Below.alloc ?_ ?_ _) | (with_reducible refine Below.drew ?_) | (with_reducible refine Below.setCell ?_ ?_ _) | (with_reducible refine below_var ?_ ?_ (by assumption)) | (with_reducible refine below_own' ?_ (by assumption) (by assumption) ?_ ?_) | go_size))
  have hzB : w.heap.size + 1 + 1 + 1 ≤ W.heap.size := by rw [← hW]; simp
  clear hW
  go_cut [5, 6] (fun s5 s6 wx => ∃ b5 b6 : Nat, s5 = .pointer (some ⟨b5, 0, none⟩) ∧ s6 = .pointer (some ⟨b6, 0, none⟩) ∧ wx.cell? ⟨b5, 0, none⟩ = some ((.int .i64 (e.bx - e.ax))) ∧ wx.cell? ⟨b5, 1, none⟩ = some ((.int .i64 (e.bz - e.ay))) ∧ wx.cell? ⟨b6, 0, none⟩ = some ((.int .i64 (x - e.ax))) ∧ wx.cell? ⟨b6, 1, none⟩ = some ((.int .i64 (y - e.ay))) ∧ Below W.heap.size W wx)
  case first =>
    have HS : Hid (∀ w', Below (W.heap.size) W w' → (Below (W.heap.size) W w' ∧ w'.cell? ⟨w.heap.size, 0, none⟩ = some ((.int .i64 (e.ax))) ∧ w'.cell? ⟨w.heap.size, 1, none⟩ = some ((.int .i64 (e.ay))) ∧ w'.cell? ⟨w.heap.size, 2, none⟩ = some ((.int .i64 (e.bx))) ∧ w'.cell? ⟨w.heap.size, 3, none⟩ = some ((.int .i64 (e.bz))) ∧ w'.cell? ⟨w.heap.size + 1, 0, none⟩ = some ((.int .i64 (x))) ∧ w'.cell? ⟨w.heap.size + 1, 1, none⟩ = some ((.int .i64 (y))))) := fun w' h => ⟨h, (h.cell (p := ⟨w.heap.size, 0, none⟩) (by first | exact World.block_lt_of_cell? W _ (show W.cell? ⟨w.heap.size, 0, none⟩ = some ((.int .i64 (e.ax))) by assumption) | go_size)).trans (by assumption), (h.cell (p := ⟨w.heap.size, 1, none⟩) (by first | exact World.block_lt_of_cell? W _ (show W.cell? ⟨w.heap.size, 1, none⟩ = some ((.int .i64 (e.ay))) by assumption) | go_size)).trans (by assumption), (h.cell (p := ⟨w.heap.size, 2, none⟩) (by first | exact World.block_lt_of_cell? W _ (show W.cell? ⟨w.heap.size, 2, none⟩ = some ((.int .i64 (e.bx))) by assumption) | go_size)).trans (by assumption), (h.cell (p := ⟨w.heap.size, 3, none⟩) (by first | exact World.block_lt_of_cell? W _ (show W.cell? ⟨w.heap.size, 3, none⟩ = some ((.int .i64 (e.bz))) by assumption) | go_size)).trans (by assumption), (h.cell (p := ⟨w.heap.size + 1, 0, none⟩) (by first | exact World.block_lt_of_cell? W _ (show W.cell? ⟨w.heap.size + 1, 0, none⟩ = some ((.int .i64 (x))) by assumption) | go_size)).trans (by assumption), (h.cell (p := ⟨w.heap.size + 1, 1, none⟩) (by first | exact World.block_lt_of_cell? W _ (show W.cell? ⟨w.heap.size + 1, 1, none⟩ = some ((.int .i64 (y))) by assumption) | go_size)).trans (by assumption)⟩
    go_region_held3 (fun w' => Below (W.heap.size) W w' ∧ w'.cell? ⟨w.heap.size, 0, none⟩ = some ((.int .i64 (e.ax))) ∧ w'.cell? ⟨w.heap.size, 1, none⟩ = some ((.int .i64 (e.ay))) ∧ w'.cell? ⟨w.heap.size, 2, none⟩ = some ((.int .i64 (e.bx))) ∧ w'.cell? ⟨w.heap.size, 3, none⟩ = some ((.int .i64 (e.bz))) ∧ w'.cell? ⟨w.heap.size + 1, 0, none⟩ = some ((.int .i64 (x))) ∧ w'.cell? ⟨w.heap.size + 1, 1, none⟩ = some ((.int .i64 (y)))) (exact HS.out _ (by repeat' (first | (with_reducible exact Below.refl _ _) | (with_reducible assumption) | (with_reducible refine below_drewN ?_ _) | (with_reducible refine Below.alloc ?_ ?_ _) | (with_reducible refine Below.drew ?_) | (with_reducible refine Below.setCell ?_ ?_ _) | (with_reducible refine below_var ?_ ?_ (by assumption)) | (with_reducible refine below_own' ?_ (by assumption) (by assumption) ?_ ?_) | go_size))) (first | (go_at_call 43; refine (sub_c _ _ _ _ _ (Bd.mono (by first | exact H3.out | exact HX.out) (by omega)) (Bd.mono (by first | exact H4.out | exact HY.out) (by omega)) (H1.out.mono (by omega)) (H2.out.mono (by omega))).mono ?_; rintro e w' ⟨rfl, hb⟩; obtain ⟨hc, hf, hs⟩ := bcell3 hb; have hz := hb.size; (try simp only [World.size_alloc, World.size_setCell, World.size_drew, World.heap_drewN] at hz); (try have hq0 : W.heap.size < w'.heap.size := by omega); (try have hq1 : W.heap.size + 1 < w'.heap.size := by omega)))
    clear HS
    all_goals (go_wp2_with fail; go_meet)
    all_goals (refine ⟨_, _, rfl, rfl, ?_, ?_, ?_, ?_, (by repeat' (first | (with_reducible exact Below.refl _ _) | (with_reducible assumption) | (with_reducible refine below_drewN ?_ _) | (with_reducible refine Below.alloc ?_ ?_ _) | (with_reducible refine Below.drew ?_) | (with_reducible refine Below.setCell ?_ ?_ _) | (with_reducible refine below_var ?_ ?_ (by assumption)) | (with_reducible refine below_own' ?_ (by assumption) (by assumption) ?_ ?_) | go_size))⟩ <;> go_simp <;> (refine World.cell?_setCell_same' _ _ _ ?_; go_simp))
  case rest =>
    obtain ⟨W1, hW1⟩ : ∃ W1, W1 = wc := ⟨_, rfl⟩
    subst hW1
    obtain ⟨b5, b6, rfl, rfl, d0, d1, d2, d3, hb⟩ := hcut
    have HBc := below_var HB (by omega) hb
    have hzc : W.heap.size ≤ W1.heap.size := hb.size
    replace f6 := (hb.frozen (World.block_lt_of_cell? _ _ c6)).trans f6
    replace f7 := (hb.frozen (World.block_lt_of_cell? _ _ c7)).trans f7
    replace c2 := (hb.cell (World.block_lt_of_cell? _ _ c2)).trans c2
    replace c3 := (hb.cell (World.block_lt_of_cell? _ _ c3)).trans c3
    replace c4 := (hb.cell (World.block_lt_of_cell? _ _ c4)).trans c4
    replace c5 := (hb.cell (World.block_lt_of_cell? _ _ c5)).trans c5
    replace c6 := (hb.cell (World.block_lt_of_cell? _ _ c6)).trans c6
    replace c7 := (hb.cell (World.block_lt_of_cell? _ _ c7)).trans c7
    clear hb c0 c1 HB
    have B1 := Lib.hid (show Bd 65536 (e.bx - e.ax) from ⟨by have := H1.out.2; have := H3.out.1; omega, by have := H1.out.1; have := H3.out.2; omega⟩)
    have B2 := Lib.hid (show Bd 65536 (e.bz - e.ay) from ⟨by have := H2.out.2; have := H4.out.1; omega, by have := H2.out.1; have := H4.out.2; omega⟩)
    have B3 := Lib.hid (show Bd 65536 (x - e.ax) from ⟨by have := H1.out.2; have := HX.out.1; omega, by have := H1.out.1; have := HX.out.2; omega⟩)
    have B4 := Lib.hid (show Bd 65536 (y - e.ay) from ⟨by have := H2.out.2; have := HY.out.1; omega, by have := H2.out.1; have := HY.out.2; omega⟩)
    go_wp2_with fail
    go_call dot_c _ _ _ _ _ B1.out B2.out B1.out B2.out as r w1 ⟨rfl, hb1⟩
    have hz3 : W1.heap.size ≤ w1.heap.size := hb1.size
    replace f6 := (hb1.frozen (World.block_lt_of_cell? _ _ c6)).trans f6
    replace f7 := (hb1.frozen (World.block_lt_of_cell? _ _ c7)).trans f7
    replace c6 := (hb1.cell (World.block_lt_of_cell? _ _ c6)).trans c6
    replace c7 := (hb1.cell (World.block_lt_of_cell? _ _ c7)).trans c7
    replace d0 := (hb1.cell (World.block_lt_of_cell? _ _ d0)).trans d0
    replace d1 := (hb1.cell (World.block_lt_of_cell? _ _ d1)).trans d1
    replace d2 := (hb1.cell (World.block_lt_of_cell? _ _ d2)).trans d2
    replace d3 := (hb1.cell (World.block_lt_of_cell? _ _ d3)).trans d3
    have hl := Edg.long_bd (e := e) ⟨H1.out, H2.out, H3.out, H4.out⟩
    rw [show (e.bx - e.ax) * (e.bx - e.ax) + (e.bz - e.ay) * (e.bz - e.ay) = e.long from rfl]
    by_cases h1 : e.long = 0
    · have hfin := Lib.hid (show e.line x y = (e.toA x y, 1) from if_pos h1)
      have H0 := Lib.hid h1
      have h1b : (e.long == 0) = true := by simpa using h1
      clear h1
      go_wp2_with fail
      go_call dot_c _ _ _ _ _ B3.out B4.out B3.out B4.out as r w2 ⟨rfl, hb2⟩
      have hz4 : w1.heap.size ≤ w2.heap.size := hb2.size
      replace f6 := (hb2.frozen (World.block_lt_of_cell? _ _ c6)).trans f6
      replace f7 := (hb2.frozen (World.block_lt_of_cell? _ _ c7)).trans f7
      replace c6 := (hb2.cell (World.block_lt_of_cell? _ _ c6)).trans c6
      replace c7 := (hb2.cell (World.block_lt_of_cell? _ _ c7)).trans c7
      go_wp2_with fail
      refine bodyPost_ret (by simp [results, Try.results55, go_sem, c6, c7]; rfl) rfl ?_
      rw [hfin.out]
      exact ⟨rfl, (by repeat' (first | (with_reducible exact Below.refl _ _) | (with_reducible assumption) | (with_reducible refine below_drewN ?_ _) | (with_reducible refine Below.alloc ?_ ?_ _) | (with_reducible refine Below.drew ?_) | (with_reducible refine Below.setCell ?_ ?_ _) | (with_reducible refine below_var ?_ ?_ (by assumption)) | (with_reducible refine below_own' ?_ (by assumption) (by assumption) ?_ ?_) | go_size))⟩
    · have hfin := Lib.hid (show e.line x y = least (e.cross x y * e.cross x y) e.long from if_neg h1)
      have h1b : (e.long == 0) = false := by simpa using h1
      have hl0 := Lib.hid (show 1 ≤ e.long by omega)
      go_wp2_with fail
      go_call cross_c _ _ _ _ _ B1.out B2.out B3.out B4.out as r w2 ⟨rfl, hb2⟩
      have hz4 : w1.heap.size ≤ w2.heap.size := hb2.size
      replace f6 := (hb2.frozen (World.block_lt_of_cell? _ _ c6)).trans f6
      replace f7 := (hb2.frozen (World.block_lt_of_cell? _ _ c7)).trans f7
      replace c6 := (hb2.cell (World.block_lt_of_cell? _ _ c6)).trans c6
      replace c7 := (hb2.cell (World.block_lt_of_cell? _ _ c7)).trans c7
      have hcr := Edg.cross_bd H1.out H2.out H3.out H4.out HX.out HY.out
      obtain ⟨q0, q1⟩ := hcr
      have hl1 := hl.2
      rw [show (e.bx - e.ax) * (y - e.ay) - (e.bz - e.ay) * (x - e.ax) = e.cross x y from rfl]
      go_wp2_with fail
      go_call of_c _ _ _ q0 (by omega) hl0.out (by omega) as r w3 ⟨rfl, hb3⟩
      have hz5 : w2.heap.size ≤ w3.heap.size := hb3.size
      replace f6 := (hb3.frozen (World.block_lt_of_cell? _ _ c6)).trans f6
      replace f7 := (hb3.frozen (World.block_lt_of_cell? _ _ c7)).trans f7
      replace c6 := (hb3.cell (World.block_lt_of_cell? _ _ c6)).trans c6
      replace c7 := (hb3.cell (World.block_lt_of_cell? _ _ c7)).trans c7
      have n6 : w.heap.size + 1 + 1 < w3.heap.size := World.block_lt_of_cell? _ _ c6
      go_wp2_with fail
      refine bodyPost_ret (by simp [results, Try.results55, go_sem, c6, c7, n6]; rfl) rfl ?_
      rw [hfin.out]
      exact ⟨rfl, (by repeat' (first | (with_reducible exact Below.refl _ _) | (with_reducible assumption) | (with_reducible refine below_drewN ?_ _) | (with_reducible refine Below.alloc ?_ ?_ _) | (with_reducible refine Below.drew ?_) | (with_reducible refine Below.setCell ?_ ?_ _) | (with_reducible refine below_var ?_ ?_ (by assumption)) | (with_reducible refine below_own' ?_ (by assumption) (by assumption) ?_ ?_) | go_size))⟩


set_option maxHeartbeats 1600000 in
theorem side_c (e : Edg) (x y : Int) (w : World) (he : e.ok) (hx : Bd 32768 x) (hy : Bd 32768 y) :
    Calls Try.prog 54 #[.agg #[(.int .i64 (e.ax)), (.int .i64 (e.ay)), (.int .i64 (e.bx)), (.int .i64 (e.bz))], .agg #[(.int .i64 (x)), (.int .i64 (y))]] w fun r w' => r = .returned (.int .i64 (e.side x y)) ∧ Below w.heap.size w w' := by
  obtain ⟨h1, h2, h3, h4⟩ := he
  have HX := Lib.hid hx
  have HY := Lib.hid hy
  have H1 := Lib.hid h1
  have H2 := Lib.hid h2
  have H3 := Lib.hid h3
  have H4 := Lib.hid h4
  clear hx hy h1 h2 h3 h4
  have B1 := Lib.hid (show Bd 65536 (e.bx - e.ax) from ⟨by have := H1.out.2; have := H3.out.1; omega, by have := H1.out.1; have := H3.out.2; omega⟩)
  have B2 := Lib.hid (show Bd 65536 (e.bz - e.ay) from ⟨by have := H2.out.2; have := H4.out.1; omega, by have := H2.out.1; have := H4.out.2; omega⟩)
  have B3 := Lib.hid (show Bd 65536 (x - e.ax) from ⟨by have := H1.out.2; have := HX.out.1; omega, by have := H1.out.1; have := HX.out.2; omega⟩)
  have B4 := Lib.hid (show Bd 65536 (y - e.ay) from ⟨by have := H2.out.2; have := HY.out.1; omega, by have := H2.out.1; have := HY.out.2; omega⟩)
  go_enter Try.func54, Try.ntmps54
  go_upto_region 1 with fail
  refine wp_gen ?_
  intro W hW
  have c0 : W.cell? ⟨w.heap.size, 0, none⟩ = some ((.int .i64 (e.ax))) := by rw [← hW]; simp [go_sem]
  have c1 : W.cell? ⟨w.heap.size, 1, none⟩ = some ((.int .i64 (e.ay))) := by rw [← hW]; simp [go_sem]
  have c2 : W.cell? ⟨w.heap.size, 2, none⟩ = some ((.int .i64 (e.bx))) := by rw [← hW]; simp [go_sem]
  have c3 : W.cell? ⟨w.heap.size, 3, none⟩ = some ((.int .i64 (e.bz))) := by rw [← hW]; simp [go_sem]
  have c4 : W.cell? ⟨w.heap.size + 1, 0, none⟩ = some ((.int .i64 (x))) := by rw [← hW]; simp [go_sem]
  have c5 : W.cell? ⟨w.heap.size + 1, 1, none⟩ = some ((.int .i64 (y))) := by rw [← hW]; simp [go_sem]
  have HB : Below w.heap.size w W := by rw [← hW]; exact (by repeat' (first | (with_reducible exact Below.refl _ _) | (with_reducible assumption) | (with_reducible refine below_drewN ?_ _) | (with_reducible refine Below.alloc ?_ ?_ _) | (with_reducible refine Below.drew ?_) | (with_reducible refine Below.setCell ?_ ?_ _) | (with_reducible refine below_var ?_ ?_ (by assumption)) | (with_reducible refine below_own' ?_ (by assumption) (by assumption) ?_ ?_) | go_size))
  have hzB : w.heap.size ≤ W.heap.size := HB.size
  clear hW
  go_cut [5] (fun s5 wx => s5 = (.int .i64 (e.cross x y)) ∧ Below W.heap.size W wx)
  case first =>
    have HS : Hid (∀ w', Below (W.heap.size) W w' → (Below (W.heap.size) W w' ∧ w'.cell? ⟨w.heap.size, 0, none⟩ = some ((.int .i64 (e.ax))) ∧ w'.cell? ⟨w.heap.size, 1, none⟩ = some ((.int .i64 (e.ay))) ∧ w'.cell? ⟨w.heap.size, 2, none⟩ = some ((.int .i64 (e.bx))) ∧ w'.cell? ⟨w.heap.size, 3, none⟩ = some ((.int .i64 (e.bz))) ∧ w'.cell? ⟨w.heap.size + 1, 0, none⟩ = some ((.int .i64 (x))) ∧ w'.cell? ⟨w.heap.size + 1, 1, none⟩ = some ((.int .i64 (y))))) := fun w' h => ⟨h, (h.cell (p := ⟨w.heap.size, 0, none⟩) (by first | exact World.block_lt_of_cell? W _ (show W.cell? ⟨w.heap.size, 0, none⟩ = some ((.int .i64 (e.ax))) by assumption) | go_size)).trans (by assumption), (h.cell (p := ⟨w.heap.size, 1, none⟩) (by first | exact World.block_lt_of_cell? W _ (show W.cell? ⟨w.heap.size, 1, none⟩ = some ((.int .i64 (e.ay))) by assumption) | go_size)).trans (by assumption), (h.cell (p := ⟨w.heap.size, 2, none⟩) (by first | exact World.block_lt_of_cell? W _ (show W.cell? ⟨w.heap.size, 2, none⟩ = some ((.int .i64 (e.bx))) by assumption) | go_size)).trans (by assumption), (h.cell (p := ⟨w.heap.size, 3, none⟩) (by first | exact World.block_lt_of_cell? W _ (show W.cell? ⟨w.heap.size, 3, none⟩ = some ((.int .i64 (e.bz))) by assumption) | go_size)).trans (by assumption), (h.cell (p := ⟨w.heap.size + 1, 0, none⟩) (by first | exact World.block_lt_of_cell? W _ (show W.cell? ⟨w.heap.size + 1, 0, none⟩ = some ((.int .i64 (x))) by assumption) | go_size)).trans (by assumption), (h.cell (p := ⟨w.heap.size + 1, 1, none⟩) (by first | exact World.block_lt_of_cell? W _ (show W.cell? ⟨w.heap.size + 1, 1, none⟩ = some ((.int .i64 (y))) by assumption) | go_size)).trans (by assumption)⟩
    go_region_held3 (fun w' => Below (W.heap.size) W w' ∧ w'.cell? ⟨w.heap.size, 0, none⟩ = some ((.int .i64 (e.ax))) ∧ w'.cell? ⟨w.heap.size, 1, none⟩ = some ((.int .i64 (e.ay))) ∧ w'.cell? ⟨w.heap.size, 2, none⟩ = some ((.int .i64 (e.bx))) ∧ w'.cell? ⟨w.heap.size, 3, none⟩ = some ((.int .i64 (e.bz))) ∧ w'.cell? ⟨w.heap.size + 1, 0, none⟩ = some ((.int .i64 (x))) ∧ w'.cell? ⟨w.heap.size + 1, 1, none⟩ = some ((.int .i64 (y)))) (exact HS.out _ (by repeat' (first | (with_reducible exact Below.refl _ _) | (with_reducible assumption) | (with_reducible refine below_drewN ?_ _) | (with_reducible refine Below.alloc ?_ ?_ _) | (with_reducible refine Below.drew ?_) | (with_reducible refine Below.setCell ?_ ?_ _) | (with_reducible refine below_var ?_ ?_ (by assumption)) | (with_reducible refine below_own' ?_ (by assumption) (by assumption) ?_ ?_) | go_size))) (first | (go_at_call 43; refine (sub_c _ _ _ _ _ (Bd.mono (by first | exact H3.out | exact HX.out) (by omega)) (Bd.mono (by first | exact H4.out | exact HY.out) (by omega)) (H1.out.mono (by omega)) (H2.out.mono (by omega))).mono ?_; rintro e w' ⟨rfl, hb⟩; obtain ⟨hc, hf, hs⟩ := bcell3 hb; have hz := hb.size; (try simp only [World.size_alloc, World.size_setCell, World.size_drew, World.heap_drewN] at hz); (try have hq0 : W.heap.size < w'.heap.size := by omega); (try have hq1 : W.heap.size + 1 < w'.heap.size := by omega)) | (go_at_call 45; refine (cross_c _ _ _ _ _ B1.out B2.out B3.out B4.out).mono ?_; rintro e w' ⟨rfl, hb⟩; obtain ⟨hc, hf, hs⟩ := bcell3 hb; have hz := hb.size; (try simp only [World.size_alloc, World.size_setCell, World.size_drew, World.heap_drewN] at hz); (try have hq0 : W.heap.size < w'.heap.size := by omega); (try have hq1 : W.heap.size + 1 < w'.heap.size := by omega)))
    clear HS
    all_goals (go_wp2_with fail; go_meet; exact ⟨rfl, (by repeat' (first | (with_reducible exact Below.refl _ _) | (with_reducible assumption) | (with_reducible refine below_drewN ?_ _) | (with_reducible refine Below.alloc ?_ ?_ _) | (with_reducible refine Below.drew ?_) | (with_reducible refine Below.setCell ?_ ?_ _) | (with_reducible refine below_var ?_ ?_ (by assumption)) | (with_reducible refine below_own' ?_ (by assumption) (by assumption) ?_ ?_) | go_size))⟩)
  case rest =>
    obtain ⟨rfl, hb⟩ := hcut
    have hz2 : W.heap.size ≤ wc.heap.size := hb.size
    by_cases h1 : 0 < e.cross x y
    · have hfin := Lib.hid (show e.side x y = 1 from if_pos h1)
      go_wp2_with fail
      go_ret
      rw [hfin.out]
      exact ⟨rfl, (by repeat' (first | (with_reducible exact Below.refl _ _) | (with_reducible assumption) | (with_reducible refine below_drewN ?_ _) | (with_reducible refine Below.alloc ?_ ?_ _) | (with_reducible refine Below.drew ?_) | (with_reducible refine Below.setCell ?_ ?_ _) | (with_reducible refine below_var ?_ ?_ (by assumption)) | (with_reducible refine below_own' ?_ (by assumption) (by assumption) ?_ ?_) | go_size))⟩
    · by_cases h2 : e.cross x y < 0
      · have hfin := Lib.hid (show e.side x y = -1 from (if_neg h1).trans (if_pos h2))
        go_wp2_with fail
        go_ret
        rw [hfin.out]
        exact ⟨rfl, (by repeat' (first | (with_reducible exact Below.refl _ _) | (with_reducible assumption) | (with_reducible refine below_drewN ?_ _) | (with_reducible refine Below.alloc ?_ ?_ _) | (with_reducible refine Below.drew ?_) | (with_reducible refine Below.setCell ?_ ?_ _) | (with_reducible refine below_var ?_ ?_ (by assumption)) | (with_reducible refine below_own' ?_ (by assumption) (by assumption) ?_ ?_) | go_size))⟩
      · have hfin := Lib.hid (show e.side x y = 0 from (if_neg h1).trans (if_neg h2))
        go_wp2_with fail
        go_ret
        rw [hfin.out]
        exact ⟨rfl, (by repeat' (first | (with_reducible exact Below.refl _ _) | (with_reducible assumption) | (with_reducible refine below_drewN ?_ _) | (with_reducible refine Below.alloc ?_ ?_ _) | (with_reducible refine Below.drew ?_) | (with_reducible refine Below.setCell ?_ ?_ _) | (with_reducible refine below_var ?_ ?_ (by assumption)) | (with_reducible refine below_own' ?_ (by assumption) (by assumption) ?_ ?_) | go_size))⟩

end Go.Proofs.Ytadohkidfkbncaa
