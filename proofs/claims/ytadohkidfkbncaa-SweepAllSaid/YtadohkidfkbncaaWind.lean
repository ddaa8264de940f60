/-
  The walks of wind and dist: round, on, nearest.
-/
import Derived.Test.YtadohkidfkbncaaPlaneB
import Derived.Test.YtadohkidfkbncaaGrid
import Derived.Test.YtadohkidfkbncaaMem
namespace Go.Proofs.Ytadohkidfkbncaa
open Go.RowKit
set_option linter.unusedSimpArgs false

theorem field_frac0 (p q : Value) (w : World) : (Instr.field 38 (.agg #[p, q]) 0).run Try.prog w = .ok p w := by kernel_rfl

def onE (es : List Edg) (x y : Int) : Bool := es.any fun e => (e.sq x y).1 == 0

set_option maxHeartbeats 800000 in
theorem on_c (v : Value) (es : List Edg) (x y : Int) (w : World) (he : EdgesAt w v es) (hx : Bd 32768 x) (hy : Bd 32768 y) :
    Calls Try.prog 66 #[v, .agg #[(.int .i64 (x)), (.int .i64 (y))]] w fun r w' => r = .returned (.bool (onE es x y)) ∧ Below w.heap.size w w' := by
  obtain ⟨b, cap, a, rfl, hl, ha, hok, hE⟩ := he
  have HX := Lib.hid hx
  have HY := Lib.hid hy
  have HA := Lib.hid ha
  have HO := Lib.hid hok
  clear hx hy ha hok
  have hfl := field_frac0
  go_enter Try.func66, Try.ntmps66
  go_wp2_with fail
  refine wp_gen ?_
  intro W hW
  have c4 : W.cell? ⟨w.heap.size, 0, none⟩ = some ((.int .i64 (x))) := by rw [← hW]; simp [go_sem]
  have c5 : W.cell? ⟨w.heap.size, 1, none⟩ = some ((.int .i64 (y))) := by rw [← hW]; simp [go_sem]
  have HB : Below w.heap.size w W := by rw [← hW]; exact (by repeat' (first | (with_reducible exact Below.refl _ _) | (with_reducible assumption) | (with_reducible refine below_drewN ?_ _) | (with_reducible refine Below.alloc ?_ ?_ _) | (with_reducible refine Below.drew ?_) | (with_reducible refine Below.setCell ?_ ?_ _) | (with_reducible refine below_var ?_ ?_ (by assumption)) | (with_reducible refine below_own' ?_ (by assumption) (by assumption) ?_ ?_) | go_size))
  have hzB : w.heap.size ≤ W.heap.size := HB.size
  replace hE := hE.carry HB
  clear hW
  go_loopw [9] (fun k wr => ∃ i : Nat, i ≤ es.length ∧ k = (.int .i64 (i)) ∧ onE (es.take i) x y = false ∧ Below W.heap.size W wr) (fun k wr => es.length - (intOf k).toNat)
  case atStart => exact ⟨0, by omega, rfl, rfl, Below.refl _ _⟩
  case round =>
    obtain ⟨i, hi, rfl, hany, hB⟩ := hrel
    have hz1 : W.heap.size ≤ wr.heap.size := hB.size
    have HAny := Lib.hid hany
    clear hany
    replace c4 := (hB.cell (World.block_lt_of_cell? _ _ c4)).trans c4
    replace c5 := (hB.cell (World.block_lt_of_cell? _ _ c5)).trans c5
    have n4 := blt c4
    by_cases h : i < es.length
    · obtain ⟨e, hei, hem⟩ := get_of_lt h
      obtain ⟨c0, c1, c2, c3⟩ := hE.carry hB i e hei
      have hane := HA.out (ne_nil_of_lt h)
      subst hane
      have HT := Lib.hid (take_snoc' hei)
      have HE := Lib.hid (HO.out e hem)
      clear hei hem
      go_wp2_with fail
      go_call square_c e x y _ HE.out HX.out HY.out as r w1 ⟨rfl, hb1⟩
      by_cases hq : (e.sq x y).1 = 0
      · have hq2 : ((e.sq x y).1 == 0) = true := by simpa using hq
        have HQ := Lib.hid hq
        clear hq
        have hfin : onE es x y = true := by
          have h1 : (es.take (i + 1)).any (fun e => (e.sq x y).1 == 0) = true := by rw [HT.out, List.any_append]; simp [hq2]
          rw [← List.take_append_drop (i + 1) es]
          unfold onE
          rw [List.any_append, h1]; rfl
        have HF := Lib.hid hfin
        clear hfin
        go_wp2_with fail
        go_ret
        rw [HF.out]
        exact ⟨rfl, (by repeat' (first | (with_reducible exact Below.refl _ _) | (with_reducible assumption) | (with_reducible refine below_drewN ?_ _) | (with_reducible refine Below.alloc ?_ ?_ _) | (with_reducible refine Below.drew ?_) | (with_reducible refine Below.setCell ?_ ?_ _) | (with_reducible refine below_var ?_ ?_ (by assumption)) | (with_reducible refine below_own' ?_ (by assumption) (by assumption) ?_ ?_) | go_size))⟩
      · have hq2 : ((e.sq x y).1 == 0) = false := by simpa using hq
        have HQ := Lib.hid hq
        clear hq
        go_wp2_with fail
        go_roundw
        case rel => exact ⟨i + 1, by omega, by go_num, by rw [HT.out]; unfold onE at *; rw [List.any_append, HAny.out]; simp [hq2], (by repeat' (first | (with_reducible exact Below.refl _ _) | (with_reducible assumption) | (with_reducible refine below_drewN ?_ _) | (with_reducible refine Below.alloc ?_ ?_ _) | (with_reducible refine Below.drew ?_) | (with_reducible refine Below.setCell ?_ ?_ _) | (with_reducible refine below_var ?_ ?_ (by assumption)) | (with_reducible refine below_own' ?_ (by assumption) (by assumption) ?_ ?_) | go_size))⟩
        case measure => simp [intOf]; omega
    · have hfin : onE es x y = false := by rw [← take_all (show es.length ≤ i by omega)]; exact HAny.out
      have HF := Lib.hid hfin
      clear hfin
      go_wp2_with fail
      go_ret
      rw [HF.out]
      exact ⟨rfl, (by repeat' (first | (with_reducible exact Below.refl _ _) | (with_reducible assumption) | (with_reducible refine below_drewN ?_ _) | (with_reducible refine Below.alloc ?_ ?_ _) | (with_reducible refine Below.drew ?_) | (with_reducible refine Below.setCell ?_ ?_ _) | (with_reducible refine below_var ?_ ?_ (by assumption)) | (with_reducible refine below_own' ?_ (by assumption) (by assumption) ?_ ?_) | go_size))⟩

/-- What an edge tells of how often edges go round a point. -/
def rndE (e : Edg) (x y : Int) : Int :=
  if e.ay ≤ y ∧ y < e.bz ∧ 0 < e.side x y then 1 else if e.bz ≤ y ∧ y < e.ay ∧ e.side x y < 0 then -1 else 0

def numE (es : List Edg) (x y : Int) : Int := (es.map fun e => rndE e x y).sum

theorem rndE_bd (e : Edg) (x y : Int) : -1 ≤ rndE e x y ∧ rndE e x y ≤ 1 := by
  unfold rndE
  split
  · omega
  · split <;> omega

theorem numE_snoc (es : List Edg) (e : Edg) (x y : Int) : numE (es ++ [e]) x y = numE es x y + rndE e x y := by
  unfold numE
  simp

theorem numE_bd (es : List Edg) (x y : Int) : -(es.length : Int) ≤ numE es x y ∧ numE es x y ≤ es.length := by
  induction es with
  | nil => simp [numE]
  | cons e es ih =>
    have := rndE_bd e x y
    have h : numE (e :: es) x y = rndE e x y + numE es x y := by simp [numE]
    rw [h, List.length_cons]
    omega

set_option maxHeartbeats 1600000 in
theorem number_c (v : Value) (es : List Edg) (x y : Int) (w : World) (he : EdgesAt w v es) (hx : Bd 32768 x) (hy : Bd 32768 y) :
    Calls Try.prog 67 #[v, .agg #[(.int .i64 (x)), (.int .i64 (y))]] w fun r w' => r = .returned (.int .i64 (numE es x y)) ∧ Below w.heap.size w w' := by
  obtain ⟨b, cap, a, rfl, hl, ha, hok, hE⟩ := he
  have HX := Lib.hid hx
  have HY := Lib.hid hy
  have HA := Lib.hid ha
  have HO := Lib.hid hok
  clear hx hy ha hok
  go_enter Try.func67, Try.ntmps67
  go_wp2_with fail
  refine wp_gen ?_
  intro W hW
  have c4 : W.cell? ⟨w.heap.size, 0, none⟩ = some ((.int .i64 (x))) := by rw [← hW]; simp [go_sem]
  have c5 : W.cell? ⟨w.heap.size, 1, none⟩ = some ((.int .i64 (y))) := by rw [← hW]; simp [go_sem]
  have HB : Below w.heap.size w W := by rw [← hW]; exact (by repeat' (first | (with_reducible exact Below.refl _ _) | (with_reducible assumption) | (with_reducible refine below_drewN ?_ _) | (with_reducible refine Below.alloc ?_ ?_ _) | (with_reducible refine Below.drew ?_) | (with_reducible refine Below.setCell ?_ ?_ _) | (with_reducible refine below_var ?_ ?_ (by assumption)) | (with_reducible refine below_own' ?_ (by assumption) (by assumption) ?_ ?_) | go_size))
  have hzB : w.heap.size ≤ W.heap.size := HB.size
  replace hE := hE.carry HB
  clear hW
  go_loopw [5, 10] (fun n k wr => ∃ i : Nat, i ≤ es.length ∧ k = (.int .i64 (i)) ∧ n = (.int .i64 (numE (es.take i) x y)) ∧ Below W.heap.size W wr) (fun _ k wr => es.length - (intOf k).toNat)
  case atStart => exact ⟨0, by omega, rfl, rfl, Below.refl _ _⟩
  case round =>
    obtain ⟨i, hi, rfl, rfl, hB⟩ := hrel
    have hz1 : W.heap.size ≤ wr.heap.size := hB.size
    replace c4 := (hB.cell (World.block_lt_of_cell? _ _ c4)).trans c4
    replace c5 := (hB.cell (World.block_lt_of_cell? _ _ c5)).trans c5
    have n4 := blt c4
    by_cases h : i < es.length
    · obtain ⟨e, hei, hem⟩ := get_of_lt h
      obtain ⟨c0, c1, c2, c3⟩ := hE.carry hB i e hei
      have hane := HA.out (ne_nil_of_lt h)
      subst hane
      have hT := take_snoc' hei
      have HN := Lib.hid (show numE (es.take (i + 1)) x y = numE (es.take i) x y + rndE e x y by rw [hT, numE_snoc])
      have HE := Lib.hid (HO.out e hem)
      obtain ⟨nb1, nb2⟩ := numE_bd (es.take i) x y
      have hlen : (es.take i).length ≤ i := List.length_take_le _ _
      clear hei hem hT
      by_cases h1 : e.ay ≤ y
      · by_cases h2 : y < e.bz
        · by_cases h3 : 0 < e.side x y
          · have HR := Lib.hid (show rndE e x y = 1 from if_pos ⟨h1, h2, h3⟩)
            go_wp2_with fail
            go_call side_c e x y _ HE.out HX.out HY.out as r w1 ⟨rfl, hb1⟩
            have hk1 : Below wr.heap.size wr w1 := (by repeat' (first | (with_reducible exact Below.refl _ _) | (with_reducible assumption) | (with_reducible refine below_drewN ?_ _) | (with_reducible refine Below.alloc ?_ ?_ _) | (with_reducible refine Below.drew ?_) | (with_reducible refine Below.setCell ?_ ?_ _) | (with_reducible refine below_var ?_ ?_ (by assumption)) | (with_reducible refine below_own' ?_ (by assumption) (by assumption) ?_ ?_) | go_size))
            replace c4 := (hk1.cell (World.block_lt_of_cell? _ _ c4)).trans c4
            replace c5 := (hk1.cell (World.block_lt_of_cell? _ _ c5)).trans c5
            have hzz := hk1.size
            go_wp2_with fail
            go_roundw
            case rel => exact ⟨i + 1, by omega, by go_num, by rw [HN.out, HR.out], (by repeat' (first | (with_reducible exact Below.refl _ _) | (with_reducible assumption) | (with_reducible refine below_drewN ?_ _) | (with_reducible refine Below.alloc ?_ ?_ _) | (with_reducible refine Below.drew ?_) | (with_reducible refine Below.setCell ?_ ?_ _) | (with_reducible refine below_var ?_ ?_ (by assumption)) | (with_reducible refine below_own' ?_ (by assumption) (by assumption) ?_ ?_) | go_size))⟩
            case measure => simp [intOf]; omega
          · have HR := Lib.hid (show rndE e x y = 0 from (if_neg (by omega)).trans (if_neg (by omega)))
            go_wp2_with fail
            go_call side_c e x y _ HE.out HX.out HY.out as r w1 ⟨rfl, hb1⟩
            have d1 : w1.cell? ⟨wr.heap.size, 1, none⟩ = some ((.int .i64 (e.ay))) := (hb1.cell (p := ⟨_, 1, none⟩) (by simp)).trans (by simp [go_sem])
            have d3 : w1.cell? ⟨wr.heap.size, 3, none⟩ = some ((.int .i64 (e.bz))) := (hb1.cell (p := ⟨_, 3, none⟩) (by simp)).trans (by simp [go_sem])
            have hk1 : Below wr.heap.size wr w1 := (by repeat' (first | (with_reducible exact Below.refl _ _) | (with_reducible assumption) | (with_reducible refine below_drewN ?_ _) | (with_reducible refine Below.alloc ?_ ?_ _) | (with_reducible refine Below.drew ?_) | (with_reducible refine Below.setCell ?_ ?_ _) | (with_reducible refine below_var ?_ ?_ (by assumption)) | (with_reducible refine below_own' ?_ (by assumption) (by assumption) ?_ ?_) | go_size))
            replace c4 := (hk1.cell (World.block_lt_of_cell? _ _ c4)).trans c4
            replace c5 := (hk1.cell (World.block_lt_of_cell? _ _ c5)).trans c5
            have hzz := hk1.size
            go_wp2_with fail
            go_roundw
            case rel => exact ⟨i + 1, by omega, by go_num, by rw [HN.out, HR.out]; go_num, (by repeat' (first | (with_reducible exact Below.refl _ _) | (with_reducible assumption) | (with_reducible refine below_drewN ?_ _) | (with_reducible refine Below.alloc ?_ ?_ _) | (with_reducible refine Below.drew ?_) | (with_reducible refine Below.setCell ?_ ?_ _) | (with_reducible refine below_var ?_ ?_ (by assumption)) | (with_reducible refine below_own' ?_ (by assumption) (by assumption) ?_ ?_) | go_size))⟩
            case measure => simp [intOf]; omega
        · have HR := Lib.hid (show rndE e x y = 0 from (if_neg (by omega)).trans (if_neg (by omega)))
          go_wp2_with fail
          go_roundw
          case rel => exact ⟨i + 1, by omega, by go_num, by rw [HN.out, HR.out]; go_num, (by repeat' (first | (with_reducible exact Below.refl _ _) | (with_reducible assumption) | (with_reducible refine below_drewN ?_ _) | (with_reducible refine Below.alloc ?_ ?_ _) | (with_reducible refine Below.drew ?_) | (with_reducible refine Below.setCell ?_ ?_ _) | (with_reducible refine below_var ?_ ?_ (by assumption)) | (with_reducible refine below_own' ?_ (by assumption) (by assumption) ?_ ?_) | go_size))⟩
          case measure => simp [intOf]; omega
      · by_cases h4 : e.bz ≤ y
        · by_cases h5 : e.side x y < 0
          · have HR := Lib.hid (show rndE e x y = -1 from (if_neg (by omega)).trans (if_pos ⟨h4, by omega, h5⟩))
            go_wp2_with fail
            go_call side_c e x y _ HE.out HX.out HY.out as r w1 ⟨rfl, hb1⟩
            have d1 : w1.cell? ⟨wr.heap.size, 1, none⟩ = some ((.int .i64 (e.ay))) := (hb1.cell (p := ⟨_, 1, none⟩) (by simp)).trans (by simp [go_sem])
            have d3 : w1.cell? ⟨wr.heap.size, 3, none⟩ = some ((.int .i64 (e.bz))) := (hb1.cell (p := ⟨_, 3, none⟩) (by simp)).trans (by simp [go_sem])
            have hk1 : Below wr.heap.size wr w1 := (by repeat' (first | (with_reducible exact Below.refl _ _) | (with_reducible assumption) | (with_reducible refine below_drewN ?_ _) | (with_reducible refine Below.alloc ?_ ?_ _) | (with_reducible refine Below.drew ?_) | (with_reducible refine Below.setCell ?_ ?_ _) | (with_reducible refine below_var ?_ ?_ (by assumption)) | (with_reducible refine below_own' ?_ (by assumption) (by assumption) ?_ ?_) | go_size))
            replace c4 := (hk1.cell (World.block_lt_of_cell? _ _ c4)).trans c4
            replace c5 := (hk1.cell (World.block_lt_of_cell? _ _ c5)).trans c5
            have hzz := hk1.size
            go_wp2_with fail
            go_roundw
            case rel => exact ⟨i + 1, by omega, by go_num, by rw [HN.out, HR.out, Int.sub_eq_add_neg], (by repeat' (first | (with_reducible exact Below.refl _ _) | (with_reducible assumption) | (with_reducible refine below_drewN ?_ _) | (with_reducible refine Below.alloc ?_ ?_ _) | (with_reducible refine Below.drew ?_) | (with_reducible refine Below.setCell ?_ ?_ _) | (with_reducible refine below_var ?_ ?_ (by assumption)) | (with_reducible refine below_own' ?_ (by assumption) (by assumption) ?_ ?_) | go_size))⟩
            case measure => simp [intOf]; omega
          · have HR := Lib.hid (show rndE e x y = 0 from (if_neg (by omega)).trans (if_neg (by omega)))
            go_wp2_with fail
            go_call side_c e x y _ HE.out HX.out HY.out as r w1 ⟨rfl, hb1⟩
            have d1 : w1.cell? ⟨wr.heap.size, 1, none⟩ = some ((.int .i64 (e.ay))) := (hb1.cell (p := ⟨_, 1, none⟩) (by simp)).trans (by simp [go_sem])
            have d3 : w1.cell? ⟨wr.heap.size, 3, none⟩ = some ((.int .i64 (e.bz))) := (hb1.cell (p := ⟨_, 3, none⟩) (by simp)).trans (by simp [go_sem])
            have hk1 : Below wr.heap.size wr w1 := (by repeat' (first | (with_reducible exact Below.refl _ _) | (with_reducible assumption) | (with_reducible refine below_drewN ?_ _) | (with_reducible refine Below.alloc ?_ ?_ _) | (with_reducible refine Below.drew ?_) | (with_reducible refine Below.setCell ?_ ?_ _) | (with_reducible refine below_var ?_ ?_ (by assumption)) | (with_reducible refine below_own' ?_ (by assumption) (by assumption) ?_ ?_) | go_size))
            replace c4 := (hk1.cell (World.block_lt_of_cell? _ _ c4)).trans c4
            replace c5 := (hk1.cell (World.block_lt_of_cell? _ _ c5)).trans c5
            have hzz := hk1.size
            go_wp2_with fail
            go_roundw
            case rel => exact ⟨i + 1, by omega, by go_num, by rw [HN.out, HR.out]; go_num, (by repeat' (first | (with_reducible exact Below.refl _ _) | (with_reducible assumption) | (with_reducible refine below_drewN ?_ _) | (with_reducible refine Below.alloc ?_ ?_ _) | (with_reducible refine Below.drew ?_) | (with_reducible refine Below.setCell ?_ ?_ _) | (with_reducible refine below_var ?_ ?_ (by assumption)) | (with_reducible refine below_own' ?_ (by assumption) (by assumption) ?_ ?_) | go_size))⟩
            case measure => simp [intOf]; omega
        · have HR := Lib.hid (show rndE e x y = 0 from (if_neg (by omega)).trans (if_neg (by omega)))
          go_wp2_with fail
          go_roundw
          case rel => exact ⟨i + 1, by omega, by go_num, by rw [HN.out, HR.out]; go_num, (by repeat' (first | (with_reducible exact Below.refl _ _) | (with_reducible assumption) | (with_reducible refine below_drewN ?_ _) | (with_reducible refine Below.alloc ?_ ?_ _) | (with_reducible refine Below.drew ?_) | (with_reducible refine Below.setCell ?_ ?_ _) | (with_reducible refine below_var ?_ ?_ (by assumption)) | (with_reducible refine below_own' ?_ (by assumption) (by assumption) ?_ ?_) | go_size))⟩
          case measure => simp [intOf]; omega
    · have hfin : numE es x y = numE (es.take i) x y := by rw [take_all (show es.length ≤ i by omega)]
      have HF := Lib.hid hfin
      clear hfin
      go_wp2_with fail
      go_ret
      rw [HF.out]
      exact ⟨rfl, (by repeat' (first | (with_reducible exact Below.refl _ _) | (with_reducible assumption) | (with_reducible refine below_drewN ?_ _) | (with_reducible refine Below.alloc ?_ ?_ _) | (with_reducible refine Below.drew ?_) | (with_reducible refine Below.setCell ?_ ?_ _) | (with_reducible refine below_var ?_ ?_ (by assumption)) | (with_reducible refine below_own' ?_ (by assumption) (by assumption) ?_ ?_) | go_size))⟩

end Go.Proofs.Ytadohkidfkbncaa
