/-
  The walks of dist.Eight, and of sdf: texels, rows, fields.
-/
import Derived.Test.YtadohkidfkbncaaDist
namespace Go.Proofs.Ytadohkidfkbncaa
open Go.RowKit
set_option linter.unusedSimpArgs false

theorem bestIx_pos (es : List Edg) (x y : Int) : ∀ i : Nat, 0 ≤ bestIx allT es x y (i + 1)
  | 0 => by simp [bestIx, allT]
  | i + 1 => by
    have := bestIx_pos es x y i
    rw [bestIx]
    split
    · omega
    · exact this

/-- The nearest edge's square; eight times the distance. -/
def nearSq (es : List Edg) (x y : Int) : Int × Int := bestSq es x y (bestIx allT es x y es.length)
def eightE (es : List Edg) (x y : Int) : Int := if es.length = 0 then -1 else isqrt ((nearSq es x y).1 * 64 / (nearSq es x y).2)

set_option maxHeartbeats 800000 in
theorem eight_c (v : Value) (es : List Edg) (x y : Int) (w : World) (he : EdgesAt w v es) (hx : Bd 32768 x) (hy : Bd 32768 y) :
    Calls Try.prog 59 #[v, .agg #[(.int .i64 (x)), (.int .i64 (y))]] w fun r w' => r = .returned (.int .i64 (eightE es x y)) ∧ Below w.heap.size w w' := by
  have HX := Lib.hid hx
  have HY := Lib.hid hy
  have HE := Lib.hid he
  have HO := Lib.hid (show ∀ e ∈ es, e.ok by obtain ⟨_, _, _, _, _, _, h, _⟩ := he; exact h)
  clear hx hy he
  by_cases h0 : es.length = 0
  · have hfin := Lib.hid (show eightE es x y = -1 from if_pos h0)
    have hneg : bestIx allT es x y es.length < 0 := by rw [h0]; simp [bestIx]
    go_enter Try.func59, Try.ntmps59
    go_wp2_with fail
    go_call near_c v es x y _ (HE.out.carry (by repeat' (first | (with_reducible exact Below.refl _ _) | (with_reducible assumption) | (with_reducible refine below_drewN ?_ _) | (with_reducible refine Below.alloc ?_ ?_ _) | (with_reducible refine Below.drew ?_) | (with_reducible refine Below.setCell ?_ ?_ _) | (with_reducible refine below_var ?_ ?_ (by assumption)) | (with_reducible refine below_own' ?_ (by assumption) (by assumption) ?_ ?_) | go_size))) HX.out HY.out as r w1 ⟨rfl, hb1⟩
    have HB : Below w.heap.size w w1 := (by repeat' (first | (with_reducible exact Below.refl _ _) | (with_reducible assumption) | (with_reducible refine below_drewN ?_ _) | (with_reducible refine Below.alloc ?_ ?_ _) | (with_reducible refine Below.drew ?_) | (with_reducible refine Below.setCell ?_ ?_ _) | (with_reducible refine below_var ?_ ?_ (by assumption)) | (with_reducible refine below_own' ?_ (by assumption) (by assumption) ?_ ?_) | go_size))
    have hz := HB.size
    go_wp2_with fail
    go_ret
    rw [hfin.out]
    exact ⟨rfl, (by repeat' (first | (with_reducible exact Below.refl _ _) | (with_reducible assumption) | (with_reducible refine below_drewN ?_ _) | (with_reducible refine Below.alloc ?_ ?_ _) | (with_reducible refine Below.drew ?_) | (with_reducible refine Below.setCell ?_ ?_ _) | (with_reducible refine below_var ?_ ?_ (by assumption)) | (with_reducible refine below_own' ?_ (by assumption) (by assumption) ?_ ?_) | go_size))⟩
  · have hfin := Lib.hid (show eightE es x y = isqrt ((nearSq es x y).1 * 64 / (nearSq es x y).2) from if_neg h0)
    obtain ⟨m, hm⟩ : ∃ m, es.length = m + 1 := ⟨es.length - 1, by omega⟩
    have hpos : 0 ≤ bestIx allT es x y es.length := by rw [hm]; exact bestIx_pos es x y m
    have hlt := (bestIx_bd allT es x y es.length).2
    have HF := Lib.hid (show Fine (nearSq es x y) from bestSq_fine HO.out HX.out HY.out hpos hlt)
    clear hm h0
    go_enter Try.func59, Try.ntmps59
    go_wp2_with fail
    go_call near_c v es x y _ (HE.out.carry (by repeat' (first | (with_reducible exact Below.refl _ _) | (with_reducible assumption) | (with_reducible refine below_drewN ?_ _) | (with_reducible refine Below.alloc ?_ ?_ _) | (with_reducible refine Below.drew ?_) | (with_reducible refine Below.setCell ?_ ?_ _) | (with_reducible refine below_var ?_ ?_ (by assumption)) | (with_reducible refine below_own' ?_ (by assumption) (by assumption) ?_ ?_) | go_size))) HX.out HY.out as r w1 ⟨rfl, hb1⟩
    have HB : Below w.heap.size w w1 := (by repeat' (first | (with_reducible exact Below.refl _ _) | (with_reducible assumption) | (with_reducible refine below_drewN ?_ _) | (with_reducible refine Below.alloc ?_ ?_ _) | (with_reducible refine Below.drew ?_) | (with_reducible refine Below.setCell ?_ ?_ _) | (with_reducible refine below_var ?_ ?_ (by assumption)) | (with_reducible refine below_own' ?_ (by assumption) (by assumption) ?_ ?_) | go_size))
    have hz := HB.size
    rw [show bestSq es x y (bestIx allT es x y es.length) = nearSq es x y from rfl]
    go_wp2_with fail
    go_call scaled_c _ _ _ HF.out.1 HF.out.num HF.out.2.2.1 HF.out.den HF.out.scaled as r w2 ⟨rfl, hb2⟩
    have hz2 := hb2.size
    go_wp2_with fail
    go_ret
    rw [hfin.out]
    exact ⟨rfl, (by repeat' (first | (with_reducible exact Below.refl _ _) | (with_reducible assumption) | (with_reducible refine below_drewN ?_ _) | (with_reducible refine Below.alloc ?_ ?_ _) | (with_reducible refine Below.drew ?_) | (with_reducible refine Below.setCell ?_ ?_ _) | (with_reducible refine below_var ?_ ?_ (by assumption)) | (with_reducible refine below_own' ?_ (by assumption) (by assumption) ?_ ?_) | go_size))⟩

/-- What a texel holds. -/
def texE (es : List Edg) (g : Grd) (i k : Int) : Int :=
  if es.length = 0 then code g.s (-1) (256 * g.s) else code g.s (signE es (cen g.x g.p i) (cen g.y g.p k)) (eightE es (cen g.x g.p i) (cen g.y g.p k))

theorem signE_bd (es : List Edg) (x y : Int) : -1 ≤ signE es x y ∧ signE es x y ≤ 1 := by
  unfold signE
  split
  · omega
  · split <;> omega

theorem isqrt_le {n m : Int} (h : n ≤ m) (h0 : 0 ≤ m) : isqrt n ≤ m := by
  refine Int.le_trans (isqrt_mono h) ?_
  unfold isqrt
  have := isqrtN_spec m.toNat
  have h2 : isqrtN m.toNat ≤ isqrtN m.toNat * isqrtN m.toNat := by
    rcases Nat.eq_zero_or_pos (isqrtN m.toNat) with h | h
    · rw [h]; exact Nat.zero_le _
    · exact Nat.le_mul_of_pos_left _ h
  omega

theorem Fine.eight {f : Int × Int} (h : Fine f) : isqrt (f.1 * 64 / f.2) ≤ 4611686018427387904 := isqrt_le h.scaled (by omega)

set_option maxHeartbeats 800000 in
theorem texel_c (v : Value) (es : List Edg) (g : Grd) (i k : Int) (w : World) (he : EdgesAt w v es) (hg : g.ok) (i0 : 0 ≤ i) (i1 : i ≤ 24) (k0 : 0 ≤ k) (k1 : k ≤ 24) :
    Calls Try.prog 30 #[v, .agg #[(.int .i64 (g.x)), (.int .i64 (g.y)), (.int .i64 (g.p)), (.int .i64 (g.w)), (.int .i64 (g.h)), (.int .i64 (g.s))], (.int .i64 (i)), (.int .i64 (k))] w fun r w' => r = .returned (.int .u8 (texE es g i k)) ∧ Below w.heap.size w w' := by
  have HE := Lib.hid he
  obtain ⟨gx, gy, ⟨p0, p1⟩, _, _, s0, s1⟩ := hg
  have GX := Lib.hid gx
  have GY := Lib.hid gy
  have CX := Lib.hid (cen_bd gx ⟨p0, p1⟩ ⟨i0, i1⟩)
  have CY := Lib.hid (cen_bd gy ⟨p0, p1⟩ ⟨k0, k1⟩)
  have HO := Lib.hid (show ∀ e ∈ es, e.ok by obtain ⟨_, _, _, _, _, _, h, _⟩ := he; exact h)
  clear gx gy he
  have p0' : 0 ≤ g.p := by omega
  go_enter Try.func30, Try.ntmps30
  go_wp2_with fail
  go_call centre_c g i k _ (GX.out.mono (by omega)) (GY.out.mono (by omega)) p0' (by omega) i0 (by omega) k0 (by omega) as r w1 ⟨rfl, hb1⟩
  have c0 : w1.cell? ⟨w.heap.size, 0, none⟩ = some ((.int .i64 (g.x))) := (hb1.cell (p := ⟨_, 0, none⟩) (by simp)).trans (by simp [go_sem])
  have c1 : w1.cell? ⟨w.heap.size, 1, none⟩ = some ((.int .i64 (g.y))) := (hb1.cell (p := ⟨_, 1, none⟩) (by simp)).trans (by simp [go_sem])
  have c2 : w1.cell? ⟨w.heap.size, 2, none⟩ = some ((.int .i64 (g.p))) := (hb1.cell (p := ⟨_, 2, none⟩) (by simp)).trans (by simp [go_sem])
  have c3 : w1.cell? ⟨w.heap.size, 3, none⟩ = some ((.int .i64 (g.w))) := (hb1.cell (p := ⟨_, 3, none⟩) (by simp)).trans (by simp [go_sem])
  have c4 : w1.cell? ⟨w.heap.size, 4, none⟩ = some ((.int .i64 (g.h))) := (hb1.cell (p := ⟨_, 4, none⟩) (by simp)).trans (by simp [go_sem])
  have c5 : w1.cell? ⟨w.heap.size, 5, none⟩ = some ((.int .i64 (g.s))) := (hb1.cell (p := ⟨_, 5, none⟩) (by simp)).trans (by simp [go_sem])
  have HB : Below w.heap.size w w1 := (by repeat' (first | (with_reducible exact Below.refl _ _) | (with_reducible assumption) | (with_reducible refine below_drewN ?_ _) | (with_reducible refine Below.alloc ?_ ?_ _) | (with_reducible refine Below.drew ?_) | (with_reducible refine Below.setCell ?_ ?_ _) | (with_reducible refine below_var ?_ ?_ (by assumption)) | (with_reducible refine below_own' ?_ (by assumption) (by assumption) ?_ ?_) | go_size))
  have hz1 := HB.size
  have n0 := blt c0
  go_wp2_with fail
  go_call eight_c v es _ _ _ (HE.out.carry (by repeat' (first | (with_reducible exact Below.refl _ _) | (with_reducible assumption) | (with_reducible refine below_drewN ?_ _) | (with_reducible refine Below.alloc ?_ ?_ _) | (with_reducible refine Below.drew ?_) | (with_reducible refine Below.setCell ?_ ?_ _) | (with_reducible refine below_var ?_ ?_ (by assumption)) | (with_reducible refine below_own' ?_ (by assumption) (by assumption) ?_ ?_) | go_size))) CX.out CY.out as r w2 ⟨rfl, hb2⟩
  have d0 : w2.cell? ⟨w1.heap.size, 0, none⟩ = some ((.int .i64 (cen g.x g.p i))) := (hb2.cell (p := ⟨_, 0, none⟩) (by simp)).trans (by simp [go_sem])
  have d1 : w2.cell? ⟨w1.heap.size, 1, none⟩ = some ((.int .i64 (cen g.y g.p k))) := (hb2.cell (p := ⟨_, 1, none⟩) (by simp)).trans (by simp [go_sem])
  have hk2 : Below w1.heap.size w1 w2 := (by repeat' (first | (with_reducible exact Below.refl _ _) | (with_reducible assumption) | (with_reducible refine below_drewN ?_ _) | (with_reducible refine Below.alloc ?_ ?_ _) | (with_reducible refine Below.drew ?_) | (with_reducible refine Below.setCell ?_ ?_ _) | (with_reducible refine below_var ?_ ?_ (by assumption)) | (with_reducible refine below_own' ?_ (by assumption) (by assumption) ?_ ?_) | go_size))
  replace c0 := (hk2.cell (World.block_lt_of_cell? _ _ c0)).trans c0
  replace c1 := (hk2.cell (World.block_lt_of_cell? _ _ c1)).trans c1
  replace c2 := (hk2.cell (World.block_lt_of_cell? _ _ c2)).trans c2
  replace c3 := (hk2.cell (World.block_lt_of_cell? _ _ c3)).trans c3
  replace c4 := (hk2.cell (World.block_lt_of_cell? _ _ c4)).trans c4
  replace c5 := (hk2.cell (World.block_lt_of_cell? _ _ c5)).trans c5
  have HB2 : Below w.heap.size w w2 := HB.trans (hk2.mono (by omega))
  have hz2 : w1.heap.size ≤ w2.heap.size := hk2.size
  clear hb1 hb2 hk2 HB
  by_cases h0 : es.length = 0
  · have hfin := Lib.hid (show texE es g i k = code g.s (-1) (256 * g.s) from if_pos h0)
    have h8 : eightE es (cen g.x g.p i) (cen g.y g.p k) < 0 := by unfold eightE; rw [if_pos h0]; omega
    clear h0
    go_wp2_with fail
    go_call code_c g (-1) (256 * g.s) _ s0 s1 (by omega) (by omega) (by omega) (by omega) as r w3 ⟨rfl, hb3⟩
    have hz3 := hb3.size
    go_wp2_with fail
    go_ret
    rw [hfin.out]
    exact ⟨rfl, (by repeat' (first | (with_reducible exact Below.refl _ _) | (with_reducible assumption) | (with_reducible refine below_drewN ?_ _) | (with_reducible refine Below.alloc ?_ ?_ _) | (with_reducible refine Below.drew ?_) | (with_reducible refine Below.setCell ?_ ?_ _) | (with_reducible refine below_var ?_ ?_ (by assumption)) | (with_reducible refine below_own' ?_ (by assumption) (by assumption) ?_ ?_) | go_size))⟩
  · have hfin := Lib.hid (show texE es g i k = code g.s (signE es (cen g.x g.p i) (cen g.y g.p k)) (eightE es (cen g.x g.p i) (cen g.y g.p k)) from if_neg h0)
    have h8 := (show eightE es (cen g.x g.p i) (cen g.y g.p k) = isqrt ((nearSq es (cen g.x g.p i) (cen g.y g.p k)).1 * 64 / (nearSq es (cen g.x g.p i) (cen g.y g.p k)).2) from if_neg h0)
    obtain ⟨m, hm⟩ : ∃ m, es.length = m + 1 := ⟨es.length - 1, by omega⟩
    have hpos : 0 ≤ bestIx allT es (cen g.x g.p i) (cen g.y g.p k) es.length := by rw [hm]; exact bestIx_pos es _ _ m
    have hF : Fine (nearSq es (cen g.x g.p i) (cen g.y g.p k)) := bestSq_fine HO.out CX.out CY.out hpos (bestIx_bd allT es _ _ es.length).2
    have e0 : 0 ≤ eightE es (cen g.x g.p i) (cen g.y g.p k) := by rw [h8]; exact isqrt_nonneg _
    have e1 : eightE es (cen g.x g.p i) (cen g.y g.p k) ≤ 4611686018427387904 := by rw [h8]; exact hF.eight
    obtain ⟨sb0, sb1⟩ := signE_bd es (cen g.x g.p i) (cen g.y g.p k)
    clear h0 h8 hm hpos hF
    go_wp2_with fail
    go_cut [8] (fun s8 wx => s8 = .int .u8 (texE es g i k) ∧ Below w2.heap.size w2 wx)
    case first =>
      have HS : Hid (∀ w', Below (w2.heap.size) w2 w' → (Below (w2.heap.size) w2 w' ∧ w'.cell? ⟨w.heap.size, 0, none⟩ = some ((.int .i64 (g.x))) ∧ w'.cell? ⟨w.heap.size, 1, none⟩ = some ((.int .i64 (g.y))) ∧ w'.cell? ⟨w.heap.size, 2, none⟩ = some ((.int .i64 (g.p))) ∧ w'.cell? ⟨w.heap.size, 3, none⟩ = some ((.int .i64 (g.w))) ∧ w'.cell? ⟨w.heap.size, 4, none⟩ = some ((.int .i64 (g.h))) ∧ w'.cell? ⟨w.heap.size, 5, none⟩ = some ((.int .i64 (g.s))) ∧ w'.cell? ⟨w1.heap.size, 0, none⟩ = some ((.int .i64 (cen g.x g.p i))) ∧ w'.cell? ⟨w1.heap.size, 1, none⟩ = some ((.int .i64 (cen g.y g.p k))))) := fun w' h => ⟨h, (h.cell (p := ⟨w.heap.size, 0, none⟩) (by first | exact World.block_lt_of_cell? w2 _ (show w2.cell? ⟨w.heap.size, 0, none⟩ = some ((.int .i64 (g.x))) by assumption) | go_size)).trans (by assumption), (h.cell (p := ⟨w.heap.size, 1, none⟩) (by first | exact World.block_lt_of_cell? w2 _ (show w2.cell? ⟨w.heap.size, 1, none⟩ = some ((.int .i64 (g.y))) by assumption) | go_size)).trans (by assumption), (h.cell (p := ⟨w.heap.size, 2, none⟩) (by first | exact World.block_lt_of_cell? w2 _ (show w2.cell? ⟨w.heap.size, 2, none⟩ = some ((.int .i64 (g.p))) by assumption) | go_size)).trans (by assumption), (h.cell (p := ⟨w.heap.size, 3, none⟩) (by first | exact World.block_lt_of_cell? w2 _ (show w2.cell? ⟨w.heap.size, 3, none⟩ = some ((.int .i64 (g.w))) by assumption) | go_size)).trans (by assumption), (h.cell (p := ⟨w.heap.size, 4, none⟩) (by first | exact World.block_lt_of_cell? w2 _ (show w2.cell? ⟨w.heap.size, 4, none⟩ = some ((.int .i64 (g.h))) by assumption) | go_size)).trans (by assumption), (h.cell (p := ⟨w.heap.size, 5, none⟩) (by first | exact World.block_lt_of_cell? w2 _ (show w2.cell? ⟨w.heap.size, 5, none⟩ = some ((.int .i64 (g.s))) by assumption) | go_size)).trans (by assumption), (h.cell (p := ⟨w1.heap.size, 0, none⟩) (by first | exact World.block_lt_of_cell? w2 _ (show w2.cell? ⟨w1.heap.size, 0, none⟩ = some ((.int .i64 (cen g.x g.p i))) by assumption) | go_size)).trans (by assumption), (h.cell (p := ⟨w1.heap.size, 1, none⟩) (by first | exact World.block_lt_of_cell? w2 _ (show w2.cell? ⟨w1.heap.size, 1, none⟩ = some ((.int .i64 (cen g.y g.p k))) by assumption) | go_size)).trans (by assumption)⟩
      go_region_held3 (fun w' => Below (w2.heap.size) w2 w' ∧ w'.cell? ⟨w.heap.size, 0, none⟩ = some ((.int .i64 (g.x))) ∧ w'.cell? ⟨w.heap.size, 1, none⟩ = some ((.int .i64 (g.y))) ∧ w'.cell? ⟨w.heap.size, 2, none⟩ = some ((.int .i64 (g.p))) ∧ w'.cell? ⟨w.heap.size, 3, none⟩ = some ((.int .i64 (g.w))) ∧ w'.cell? ⟨w.heap.size, 4, none⟩ = some ((.int .i64 (g.h))) ∧ w'.cell? ⟨w.heap.size, 5, none⟩ = some ((.int .i64 (g.s))) ∧ w'.cell? ⟨w1.heap.size, 0, none⟩ = some ((.int .i64 (cen g.x g.p i))) ∧ w'.cell? ⟨w1.heap.size, 1, none⟩ = some ((.int .i64 (cen g.y g.p k)))) (exact HS.out _ (by repeat' (first | (with_reducible exact Below.refl _ _) | (with_reducible assumption) | (with_reducible refine below_drewN ?_ _) | (with_reducible refine Below.alloc ?_ ?_ _) | (with_reducible refine Below.drew ?_) | (with_reducible refine Below.setCell ?_ ?_ _) | (with_reducible refine below_var ?_ ?_ (by assumption)) | (with_reducible refine below_own' ?_ (by assumption) (by assumption) ?_ ?_) | go_size))) (first | (go_at_call 48; refine (sign_c v es (cen g.x g.p i) (cen g.y g.p k) _ (HE.out.carry (by repeat' (first | (with_reducible exact Below.refl _ _) | (with_reducible assumption) | (with_reducible refine below_drewN ?_ _) | (with_reducible refine Below.alloc ?_ ?_ _) | (with_reducible refine Below.drew ?_) | (with_reducible refine Below.setCell ?_ ?_ _) | (with_reducible refine below_var ?_ ?_ (by assumption)) | (with_reducible refine below_own' ?_ (by assumption) (by assumption) ?_ ?_) | go_size))) CX.out CY.out).mono ?_; rintro e w' ⟨rfl, hb⟩; obtain ⟨hc, hf, hs⟩ := bcell3 hb; have hz := hb.size; (try simp only [World.size_alloc, World.size_setCell, World.size_drew, World.heap_drewN] at hz); (try have hq0 : w2.heap.size < w'.heap.size := by omega); (try have hq1 : w2.heap.size + 1 < w'.heap.size := by omega)) | (go_at_call 31; refine (code_c g (signE es (cen g.x g.p i) (cen g.y g.p k)) (eightE es (cen g.x g.p i) (cen g.y g.p k)) _ s0 s1 sb0 sb1 e0 e1).mono ?_; rintro e w' ⟨rfl, hb⟩; obtain ⟨hc, hf, hs⟩ := bcell3 hb; have hz := hb.size; (try simp only [World.size_alloc, World.size_setCell, World.size_drew, World.heap_drewN] at hz); (try have hq0 : w2.heap.size < w'.heap.size := by omega); (try have hq1 : w2.heap.size + 1 < w'.heap.size := by omega)))
      clear HS
      all_goals (go_wp2_with fail; go_meet; exact ⟨by rw [hfin.out], (by repeat' (first | (with_reducible exact Below.refl _ _) | (with_reducible assumption) | (with_reducible refine below_drewN ?_ _) | (with_reducible refine Below.alloc ?_ ?_ _) | (with_reducible refine Below.drew ?_) | (with_reducible refine Below.setCell ?_ ?_ _) | (with_reducible refine below_var ?_ ?_ (by assumption)) | (with_reducible refine below_own' ?_ (by assumption) (by assumption) ?_ ?_) | go_size))⟩)
    case rest =>
      obtain ⟨rfl, hb⟩ := hcut
      have hz3 := hb.size
      go_wp2_with fail
      go_ret
      exact ⟨rfl, (by repeat' (first | (with_reducible exact Below.refl _ _) | (with_reducible assumption) | (with_reducible refine below_drewN ?_ _) | (with_reducible refine Below.alloc ?_ ?_ _) | (with_reducible refine Below.drew ?_) | (with_reducible refine Below.setCell ?_ ?_ _) | (with_reducible refine below_var ?_ ?_ (by assumption)) | (with_reducible refine below_own' ?_ (by assumption) (by assumption) ?_ ?_) | go_size))⟩

end Go.Proofs.Ytadohkidfkbncaa
