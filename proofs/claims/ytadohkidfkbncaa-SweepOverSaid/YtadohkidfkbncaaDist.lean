/-
  The walks of dist: signs, the nearest edge, eight times a distance.
-/
import Derived.Test.YtadohkidfkbncaaWind
import Derived.Test.YtadohkidfkbncaaNear
namespace Go.Proofs.Ytadohkidfkbncaa
open Go.RowKit
set_option linter.unusedSimpArgs false

def signE (es : List Edg) (x y : Int) : Int := if onE es x y = true then 0 else if numE es x y ≠ 0 then 1 else -1

set_option maxHeartbeats 800000 in
theorem sign_c (v : Value) (es : List Edg) (x y : Int) (w : World) (he : EdgesAt w v es) (hx : Bd 32768 x) (hy : Bd 32768 y) :
    Calls Try.prog 48 #[v, .agg #[(.int .i64 (x)), (.int .i64 (y))]] w fun r w' => r = .returned (.int .i64 (signE es x y)) ∧ Below w.heap.size w w' := by
  have HX := Lib.hid hx
  have HY := Lib.hid hy
  have HE := Lib.hid he
  clear hx hy he
  have pre : ∀ c : Bool, onE es x y = c → Calls Try.prog 48 #[v, .agg #[(.int .i64 (x)), (.int .i64 (y))]] w fun r w' => r = .returned (.int .i64 (signE es x y)) ∧ Below w.heap.size w w' := by
    intro c hc
    have HC := Lib.hid hc
    clear hc
    go_enter Try.func48, Try.ntmps48
    go_wp2_with fail
    go_call on_c v es x y _ (HE.out.carry (by repeat' (first | (with_reducible exact Below.refl _ _) | (with_reducible assumption) | (with_reducible refine below_drewN ?_ _) | (with_reducible refine Below.alloc ?_ ?_ _) | (with_reducible refine Below.drew ?_) | (with_reducible refine Below.setCell ?_ ?_ _) | (with_reducible refine below_var ?_ ?_ (by assumption)) | (with_reducible refine below_own' ?_ (by assumption) (by assumption) ?_ ?_) | go_size))) HX.out HY.out as r w1 ⟨rfl, hb1⟩
    have c4 : w1.cell? ⟨w.heap.size, 0, none⟩ = some ((.int .i64 (x))) := (hb1.cell (p := ⟨_, 0, none⟩) (by simp)).trans (by simp [go_sem])
    have c5 : w1.cell? ⟨w.heap.size, 1, none⟩ = some ((.int .i64 (y))) := (hb1.cell (p := ⟨_, 1, none⟩) (by simp)).trans (by simp [go_sem])
    have HB : Below w.heap.size w w1 := (by repeat' (first | (with_reducible exact Below.refl _ _) | (with_reducible assumption) | (with_reducible refine below_drewN ?_ _) | (with_reducible refine Below.alloc ?_ ?_ _) | (with_reducible refine Below.drew ?_) | (with_reducible refine Below.setCell ?_ ?_ _) | (with_reducible refine below_var ?_ ?_ (by assumption)) | (with_reducible refine below_own' ?_ (by assumption) (by assumption) ?_ ?_) | go_size))
    have hz := HB.size
    rw [HC.out]
    cases c with
    | true =>
      have hfin := Lib.hid (show signE es x y = 0 from if_pos HC.out)
      go_wp2_with fail
      go_ret
      rw [hfin.out]
      exact ⟨rfl, (by repeat' (first | (with_reducible exact Below.refl _ _) | (with_reducible assumption) | (with_reducible refine below_drewN ?_ _) | (with_reducible refine Below.alloc ?_ ?_ _) | (with_reducible refine Below.drew ?_) | (with_reducible refine Below.setCell ?_ ?_ _) | (with_reducible refine below_var ?_ ?_ (by assumption)) | (with_reducible refine below_own' ?_ (by assumption) (by assumption) ?_ ?_) | go_size))⟩
    | false =>
      by_cases hn : numE es x y = 0
      · have hfin := Lib.hid (show signE es x y = -1 from (if_neg (by rw [HC.out]; simp)).trans (if_neg (by simp [hn])))
        have hn2 : (numE es x y != 0) = false := by simp [hn]
        clear hn
        go_wp2_with fail
        go_call number_c v es x y _ (HE.out.carry HB) HX.out HY.out as r w2 ⟨rfl, hb2⟩
        have hz2 := hb2.size
        go_wp2_with fail
        go_ret
        rw [hfin.out]
        exact ⟨rfl, (by repeat' (first | (with_reducible exact Below.refl _ _) | (with_reducible assumption) | (with_reducible refine below_drewN ?_ _) | (with_reducible refine Below.alloc ?_ ?_ _) | (with_reducible refine Below.drew ?_) | (with_reducible refine Below.setCell ?_ ?_ _) | (with_reducible refine below_var ?_ ?_ (by assumption)) | (with_reducible refine below_own' ?_ (by assumption) (by assumption) ?_ ?_) | go_size))⟩
      · have hfin := Lib.hid (show signE es x y = 1 from (if_neg (by rw [HC.out]; simp)).trans (if_pos hn))
        have hn2 : (numE es x y != 0) = true := by simp [hn]
        clear hn
        go_wp2_with fail
        go_call number_c v es x y _ (HE.out.carry HB) HX.out HY.out as r w2 ⟨rfl, hb2⟩
        have hz2 := hb2.size
        go_wp2_with fail
        go_ret
        rw [hfin.out]
        exact ⟨rfl, (by repeat' (first | (with_reducible exact Below.refl _ _) | (with_reducible assumption) | (with_reducible refine below_drewN ?_ _) | (with_reducible refine Below.alloc ?_ ?_ _) | (with_reducible refine Below.drew ?_) | (with_reducible refine Below.setCell ?_ ?_ _) | (with_reducible refine below_var ?_ ?_ (by assumption)) | (with_reducible refine below_own' ?_ (by assumption) (by assumption) ?_ ?_) | go_size))⟩
  exact pre _ rfl

/-- The square at a place; nought, if there is none. -/
def bestSq (es : List Edg) (x y k : Int) : Int × Int := if k < 0 then (0, 0) else sqAt es x y k

theorem sqAt_of {es : List Edg} {x y : Int} {i : Nat} {e : Edg} (h : es[i]? = some e) : sqAt es x y i = e.sq x y := by
  unfold sqAt
  rw [Int.toNat_natCast, h]; rfl

theorem bestSq_fine {es : List Edg} {x y k : Int} (hok : ∀ e ∈ es, e.ok) (hx : Bd 32768 x) (hy : Bd 32768 y) (h0 : 0 ≤ k) (h1 : k < es.length) : Fine (bestSq es x y k) := by
  unfold bestSq
  rw [if_neg (by omega)]
  obtain ⟨i, rfl⟩ := Int.eq_ofNat_of_zero_le h0
  obtain ⟨e, he, hm⟩ := get_of_lt (show i < es.length by omega)
  rw [sqAt_of he]
  exact Edg.sq_fine (hok e hm) hx hy

def allT : Nat → Bool := fun _ => true

set_option maxHeartbeats 1600000 in
theorem near_c (v : Value) (es : List Edg) (x y : Int) (w : World) (he : EdgesAt w v es) (hx : Bd 32768 x) (hy : Bd 32768 y) :
    Calls Try.prog 74 #[v, .agg #[(.int .i64 (x)), (.int .i64 (y))]] w fun r w' => r = .returned (.tuple #[.agg #[(.int .i64 ((bestSq es x y (bestIx allT es x y es.length)).1)), (.int .i64 ((bestSq es x y (bestIx allT es x y es.length)).2))], (.int .i64 (bestIx allT es x y es.length))]) ∧ Below w.heap.size w w' := by
  obtain ⟨b, cap, a, rfl, hl, ha, hok, hE⟩ := he
  have HX := Lib.hid hx
  have HY := Lib.hid hy
  have HA := Lib.hid ha
  have HO := Lib.hid hok
  clear hx hy ha hok
  go_enter Try.func74, Try.ntmps74
  go_wp2_with fail
  refine wp_gen ?_
  intro W hW
  have c4 : W.cell? ⟨w.heap.size, 0, none⟩ = some ((.int .i64 (x))) := by rw [← hW]; simp [go_sem]
  have c5 : W.cell? ⟨w.heap.size, 1, none⟩ = some ((.int .i64 (y))) := by rw [← hW]; simp [go_sem]
  have c6 : W.cell? ⟨w.heap.size + 1, 0, none⟩ = some ((.int .i64 (0))) := by rw [← hW]; simp [go_sem]
  have c7 : W.cell? ⟨w.heap.size + 1, 1, none⟩ = some ((.int .i64 (0))) := by rw [← hW]; simp [go_sem]
  have f6 : W.frozen? ⟨w.heap.size + 1, 0, none⟩ = false := by rw [← hW]; simp [go_sem]
  have f7 : W.frozen? ⟨w.heap.size + 1, 1, none⟩ = false := by rw [← hW]; simp [go_sem]
  have b0 : W.cell? ⟨w.heap.size + 1 + 1, 0, none⟩ = some ((.int .i64 (0))) := by rw [← hW]; simp [go_sem]
  have b1 : W.cell? ⟨w.heap.size + 1 + 1, 1, none⟩ = some ((.int .i64 (0))) := by rw [← hW]; simp [go_sem]
  have g0 : W.frozen? ⟨w.heap.size + 1 + 1, 0, none⟩ = false := by rw [← hW]; simp [go_sem]
  have g1 : W.frozen? ⟨w.heap.size + 1 + 1, 1, none⟩ = false := by rw [← hW]; simp [go_sem]
  have HB : Below w.heap.size w W := by rw [← hW]; exact (by repeat' (first | (with_reducible exact Below.refl _ _) | (with_reducible assumption) | (with_reducible refine below_drewN ?_ _) | (with_reducible refine Below.alloc ?_ ?_ _) | (with_reducible refine Below.drew ?_) | (with_reducible refine Below.setCell ?_ ?_ _) | (with_reducible refine below_var ?_ ?_ (by assumption)) | (with_reducible refine below_own' ?_ (by assumption) (by assumption) ?_ ?_) | go_size))
  have hzB : w.heap.size + 1 + 1 + 1 ≤ W.heap.size := by rw [← hW]; simp
  clear hW
  go_loopw [7, 14] (fun at' k wr => ∃ i : Nat, i ≤ es.length ∧ k = (.int .i64 (i)) ∧ at' = (.int .i64 (bestIx allT es x y i)) ∧ Below (w.heap.size + 1 + 1) W wr ∧ w.heap.size + 1 + 1 + 1 ≤ wr.heap.size ∧
      wr.cell? ⟨w.heap.size + 1 + 1, 0, none⟩ = some ((.int .i64 ((bestSq es x y (bestIx allT es x y i)).1))) ∧ wr.cell? ⟨w.heap.size + 1 + 1, 1, none⟩ = some ((.int .i64 ((bestSq es x y (bestIx allT es x y i)).2))) ∧
      wr.frozen? ⟨w.heap.size + 1 + 1, 0, none⟩ = false ∧ wr.frozen? ⟨w.heap.size + 1 + 1, 1, none⟩ = false) (fun _ k wr => es.length - (intOf k).toNat)
  case atStart => exact ⟨0, by omega, rfl, rfl, Below.refl _ _, hzB, b0, b1, g0, g1⟩
  case round =>
    obtain ⟨i, hi, rfl, rfl, hB, hz1, b0, b1, g0, g1⟩ := hrel
    have hBw : Below w.heap.size w wr := HB.trans (hB.mono (by omega))
    replace c4 := (hB.cell (p := ⟨w.heap.size, 0, none⟩) (by simp; omega)).trans c4
    replace c5 := (hB.cell (p := ⟨w.heap.size, 1, none⟩) (by simp; omega)).trans c5
    replace f6 := (hB.frozen (p := ⟨w.heap.size + 1, 0, none⟩) (by simp)).trans f6
    replace f7 := (hB.frozen (p := ⟨w.heap.size + 1, 1, none⟩) (by simp)).trans f7
    replace c6 := (hB.cell (p := ⟨w.heap.size + 1, 0, none⟩) (by simp)).trans c6
    replace c7 := (hB.cell (p := ⟨w.heap.size + 1, 1, none⟩) (by simp)).trans c7
    have n4 := blt c4
    have n6 := blt c6
    have n0 := blt b0
    obtain ⟨x0, x1⟩ := bestIx_bd allT es x y i
    by_cases h : i < es.length
    · obtain ⟨e, hei, hem⟩ := get_of_lt h
      obtain ⟨e0, e1, e2, e3⟩ := hE.carry hBw i e hei
      have hane := HA.out (ne_nil_of_lt h)
      subst hane
      have HS := Lib.hid (sqAt_of (x := x) (y := y) hei)
      have HEO := Lib.hid (HO.out e hem)
      have HF := Lib.hid (Edg.sq_fine HEO.out HX.out HY.out)
      clear hei hem
      go_wp2_with fail
      go_call square_c e x y _ HEO.out HX.out HY.out as r w1 ⟨rfl, hb1⟩
      have hk1 : Below wr.heap.size wr w1 := (by repeat' (first | (with_reducible exact Below.refl _ _) | (with_reducible assumption) | (with_reducible refine below_drewN ?_ _) | (with_reducible refine Below.alloc ?_ ?_ _) | (with_reducible refine Below.drew ?_) | (with_reducible refine Below.setCell ?_ ?_ _) | (with_reducible refine below_var ?_ ?_ (by assumption)) | (with_reducible refine below_own' ?_ (by assumption) (by assumption) ?_ ?_) | go_size))
      replace g0 := (hk1.frozen (World.block_lt_of_cell? _ _ b0)).trans g0
      replace g1 := (hk1.frozen (World.block_lt_of_cell? _ _ b1)).trans g1
      replace f6 := (hk1.frozen (World.block_lt_of_cell? _ _ c6)).trans f6
      replace f7 := (hk1.frozen (World.block_lt_of_cell? _ _ c7)).trans f7
      replace b0 := (hk1.cell (World.block_lt_of_cell? _ _ b0)).trans b0
      replace b1 := (hk1.cell (World.block_lt_of_cell? _ _ b1)).trans b1
      replace c6 := (hk1.cell (World.block_lt_of_cell? _ _ c6)).trans c6
      replace c7 := (hk1.cell (World.block_lt_of_cell? _ _ c7)).trans c7
      have hz2 : wr.heap.size ≤ w1.heap.size := hk1.size
      have n0' := blt b0
      by_cases hneg : bestIx allT es x y i < 0
      · have HI := Lib.hid (show bestIx allT es x y (i + 1) = i from if_pos ⟨rfl, .inl hneg⟩)
        have HQ := Lib.hid (show bestSq es x y (bestIx allT es x y (i + 1)) = e.sq x y by rw [HI.out]; unfold bestSq; rw [if_neg (by omega)]; exact HS.out)
        go_wp2_with fail
        go_roundw
        case rel => exact ⟨i + 1, by omega, by go_num, by rw [HI.out], (by repeat' (first | (with_reducible exact Below.refl _ _) | (with_reducible assumption) | (with_reducible refine below_drewN ?_ _) | (with_reducible refine Below.alloc ?_ ?_ _) | (with_reducible refine Below.drew ?_) | (with_reducible refine Below.setCell ?_ ?_ _) | (with_reducible refine below_var ?_ ?_ (by assumption)) | (with_reducible refine below_own' ?_ (by assumption) (by assumption) ?_ ?_) | go_size)), by go_size, by rw [HQ.out]; go_simp <;> (refine World.cell?_setCell_same' _ _ _ ?_; go_simp), by rw [HQ.out]; go_simp <;> (refine World.cell?_setCell_same' _ _ _ ?_; go_simp), by go_simp, by go_simp⟩
        case measure => simp [intOf]; omega
      · have HN := Lib.hid (bestSq_fine HO.out HX.out HY.out (show 0 ≤ bestIx allT es x y i by omega) (by omega))
        have HK := Lib.hid (show bestSq es x y (bestIx allT es x y i) = sqAt es x y (bestIx allT es x y i) from if_neg hneg)
        by_cases hlt : fle (bestSq es x y (bestIx allT es x y i)) (e.sq x y)
        · have HI := Lib.hid (show bestIx allT es x y (i + 1) = bestIx allT es x y i from if_neg (by rw [HS.out, ← HK.out]; rintro ⟨_, h | h⟩; exact hneg h; exact h hlt))
          have HC := Lib.hid (show ¬ cmpI ((e.sq x y).1 * (bestSq es x y (bestIx allT es x y i)).2) ((bestSq es x y (bestIx allT es x y i)).1 * (e.sq x y).2) < 0 by unfold fle at hlt; unfold cmpI; rw [if_neg (by omega)]; split <;> omega)
          clear hlt
          go_wp2_with fail
          go_call cmp_c _ _ _ _ _ HF.out.1 HF.out.num (by have := HF.out.2.2.1; omega) HF.out.den HN.out.1 HN.out.num (by have := HN.out.2.2.1; omega) HN.out.den as r w2 ⟨rfl, hb2⟩
          have hk2 : Below w1.heap.size w1 w2 := (by repeat' (first | (with_reducible exact Below.refl _ _) | (with_reducible assumption) | (with_reducible refine below_drewN ?_ _) | (with_reducible refine Below.alloc ?_ ?_ _) | (with_reducible refine Below.drew ?_) | (with_reducible refine Below.setCell ?_ ?_ _) | (with_reducible refine below_var ?_ ?_ (by assumption)) | (with_reducible refine below_own' ?_ (by assumption) (by assumption) ?_ ?_) | go_size))
          replace g0 := (hk2.frozen (World.block_lt_of_cell? _ _ b0)).trans g0
          replace g1 := (hk2.frozen (World.block_lt_of_cell? _ _ b1)).trans g1
          replace f6 := (hk2.frozen (World.block_lt_of_cell? _ _ c6)).trans f6
          replace f7 := (hk2.frozen (World.block_lt_of_cell? _ _ c7)).trans f7
          replace b0 := (hk2.cell (World.block_lt_of_cell? _ _ b0)).trans b0
          replace b1 := (hk2.cell (World.block_lt_of_cell? _ _ b1)).trans b1
          replace c6 := (hk2.cell (World.block_lt_of_cell? _ _ c6)).trans c6
          replace c7 := (hk2.cell (World.block_lt_of_cell? _ _ c7)).trans c7
          have hz3 : w1.heap.size ≤ w2.heap.size := hk2.size
          have hc := HC.out
          go_wp2_with fail
          go_roundw
          case rel => exact ⟨i + 1, by omega, by go_num, by rw [HI.out], (by repeat' (first | (with_reducible exact Below.refl _ _) | (with_reducible assumption) | (with_reducible refine below_drewN ?_ _) | (with_reducible refine Below.alloc ?_ ?_ _) | (with_reducible refine Below.drew ?_) | (with_reducible refine Below.setCell ?_ ?_ _) | (with_reducible refine below_var ?_ ?_ (by assumption)) | (with_reducible refine below_own' ?_ (by assumption) (by assumption) ?_ ?_) | go_size)), by go_size, by rw [HI.out]; exact b0, by rw [HI.out]; exact b1, g0, g1⟩
          case measure => simp [intOf]; omega
        · have HI := Lib.hid (show bestIx allT es x y (i + 1) = i from if_pos ⟨rfl, .inr (by rw [HS.out, ← HK.out]; exact hlt)⟩)
          have HQ := Lib.hid (show bestSq es x y (bestIx allT es x y (i + 1)) = e.sq x y by rw [HI.out]; unfold bestSq; rw [if_neg (by omega)]; exact HS.out)
          have HC := Lib.hid (show cmpI ((e.sq x y).1 * (bestSq es x y (bestIx allT es x y i)).2) ((bestSq es x y (bestIx allT es x y i)).1 * (e.sq x y).2) < 0 by unfold fle at hlt; unfold cmpI; rw [if_pos (by omega)]; omega)
          clear hlt
          go_wp2_with fail
          go_call cmp_c _ _ _ _ _ HF.out.1 HF.out.num (by have := HF.out.2.2.1; omega) HF.out.den HN.out.1 HN.out.num (by have := HN.out.2.2.1; omega) HN.out.den as r w2 ⟨rfl, hb2⟩
          have d0 : w2.cell? ⟨w1.heap.size, 0, none⟩ = some ((.int .i64 ((e.sq x y).1))) := (hb2.cell (p := ⟨_, 0, none⟩) (by simp)).trans (by simp [go_sem])
          have d1 : w2.cell? ⟨w1.heap.size, 1, none⟩ = some ((.int .i64 ((e.sq x y).2))) := (hb2.cell (p := ⟨_, 1, none⟩) (by simp)).trans (by simp [go_sem])
          have hk2 : Below w1.heap.size w1 w2 := (by repeat' (first | (with_reducible exact Below.refl _ _) | (with_reducible assumption) | (with_reducible refine below_drewN ?_ _) | (with_reducible refine Below.alloc ?_ ?_ _) | (with_reducible refine Below.drew ?_) | (with_reducible refine Below.setCell ?_ ?_ _) | (with_reducible refine below_var ?_ ?_ (by assumption)) | (with_reducible refine below_own' ?_ (by assumption) (by assumption) ?_ ?_) | go_size))
          replace g0 := (hk2.frozen (World.block_lt_of_cell? _ _ b0)).trans g0
          replace g1 := (hk2.frozen (World.block_lt_of_cell? _ _ b1)).trans g1
          replace f6 := (hk2.frozen (World.block_lt_of_cell? _ _ c6)).trans f6
          replace f7 := (hk2.frozen (World.block_lt_of_cell? _ _ c7)).trans f7
          replace b0 := (hk2.cell (World.block_lt_of_cell? _ _ b0)).trans b0
          replace b1 := (hk2.cell (World.block_lt_of_cell? _ _ b1)).trans b1
          replace c6 := (hk2.cell (World.block_lt_of_cell? _ _ c6)).trans c6
          replace c7 := (hk2.cell (World.block_lt_of_cell? _ _ c7)).trans c7
          have hz3 : w1.heap.size ≤ w2.heap.size := hk2.size
          have hc := HC.out
          go_wp2_with fail
          go_roundw
          case rel => exact ⟨i + 1, by omega, by go_num, by rw [HI.out], (by repeat' (first | (with_reducible exact Below.refl _ _) | (with_reducible assumption) | (with_reducible refine below_drewN ?_ _) | (with_reducible refine Below.alloc ?_ ?_ _) | (with_reducible refine Below.drew ?_) | (with_reducible refine Below.setCell ?_ ?_ _) | (with_reducible refine below_var ?_ ?_ (by assumption)) | (with_reducible refine below_own' ?_ (by assumption) (by assumption) ?_ ?_) | go_size)), by go_size, by rw [HQ.out]; go_simp <;> (refine World.cell?_setCell_same' _ _ _ ?_; go_simp), by rw [HQ.out]; go_simp <;> (refine World.cell?_setCell_same' _ _ _ ?_; go_simp), by go_simp, by go_simp⟩
          case measure => simp [intOf]; omega
    · have HI := Lib.hid (show bestIx allT es x y es.length = bestIx allT es x y i by rw [show es.length = i by omega])
      go_wp2_with fail
      refine bodyPost_ret (by simp [results, Try.results74, go_sem, c6, c7]; rfl) rfl ?_
      rw [HI.out]
      exact ⟨rfl, (by repeat' (first | (with_reducible exact Below.refl _ _) | (with_reducible assumption) | (with_reducible refine below_drewN ?_ _) | (with_reducible refine Below.alloc ?_ ?_ _) | (with_reducible refine Below.drew ?_) | (with_reducible refine Below.setCell ?_ ?_ _) | (with_reducible refine below_var ?_ ?_ (by assumption)) | (with_reducible refine below_own' ?_ (by assumption) (by assumption) ?_ ?_) | go_size))⟩

end Go.Proofs.Ytadohkidfkbncaa
