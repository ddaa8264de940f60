/-
  The walk of sdf.Make.
-/
import Derived.Test.YtadohkidfkbncaaRow
import Derived.Deep.AppendLies
import Derived.Deep.RegionLaw
namespace Go.Proofs.Ytadohkidfkbncaa
open Go.RowKit
set_option linter.unusedSimpArgs false

/-- The texels of a field, as far as one has come. -/
def fieldTo (es : List Edg) (g : Grd) (k : Nat) : List Value := (List.range k).flatMap fun (j : Nat) => rowE es g j
def fieldE (es : List Edg) (g : Grd) : List Value := fieldTo es g g.h.toNat

theorem fieldTo_succ (es : List Edg) (g : Grd) (k : Nat) : fieldTo es g (k + 1) = fieldTo es g k ++ rowE es g k := by
  unfold fieldTo
  rw [List.range_succ, List.flatMap_append]; simp

theorem rowE_len (es : List Edg) (g : Grd) (k : Int) : (rowE es g k).length = g.w.toNat := rowTo_len _ _ _ _
theorem fieldTo_len (es : List Edg) (g : Grd) (k : Nat) : (fieldTo es g k).length = k * g.w.toNat := by
  induction k with
  | zero => simp [fieldTo]
  | succ k ih => rw [fieldTo_succ, List.length_append, ih, rowE_len, Nat.succ_mul]

theorem rowE_one (es : List Edg) (g : Grd) (k : Int) : ∀ u ∈ rowE es g k, u.oneCell' = true := by
  intro u hu
  unfold rowE rowTo at hu
  obtain ⟨j, _, rfl⟩ := List.mem_map.1 hu
  rfl

theorem grown_far {w w1 : World} {B : Nat} {e : TypeId} {sz : Nat} {v : Value} {n : Nat} {xs : List Value} (hg : w.grownBy w1 v.ownBlock) (ho : w.ownsRow B e sz v n xs) :
    (∀ b o, b < B → b < w.heap.size → w1.cell? ⟨b, o, none⟩ = w.cell? ⟨b, o, none⟩) ∧ (∀ b o, b < B → b < w.heap.size → w1.frozen? ⟨b, o, none⟩ = w.frozen? ⟨b, o, none⟩) :=
  ⟨fun b o h1 h2 => hg.cell_far ⟨b, o, none⟩ h2 (fun e => by have := (ho.lt _ e.symm).1; simp at this; omega), fun b o h1 h2 => hg.frozen_far ⟨b, o, none⟩ h2 (fun e => by have := (ho.lt _ e.symm).1; simp at this; omega)⟩

set_option maxHeartbeats 1600000 in
theorem make_c (v : Value) (es : List Edg) (g : Grd) (w : World) (he : EdgesAt w v es) (hg : g.ok) :
    Calls Try.prog 19 #[v, .agg #[(.int .i64 (g.x)), (.int .i64 (g.y)), (.int .i64 (g.p)), (.int .i64 (g.w)), (.int .i64 (g.h)), (.int .i64 (g.s))]] w fun r w' => (∃ u, r = .returned (.tuple #[.agg #[(.int .i64 (g.w)), (.int .i64 (g.h)), u], (.int .i64 (0))]) ∧ w'.ownsRow w.heap.size 5 1 u (g.h.toNat * g.w.toNat) (fieldE es g)) ∧ Below w.heap.size w w' := by
  have HE := Lib.hid he
  have HG := Lib.hid hg
  obtain ⟨_, _, _, ⟨u0, u1⟩, ⟨v0, v1⟩, _, _⟩ := hg
  clear he
  obtain ⟨i0, hi, hz0, hz1, hz2⟩ := info_parts info_u8
  go_enter Try.func19, Try.ntmps19
  go_wp2_with fail
  go_call check_c g _ HG.out as r w1 ⟨rfl, hb1⟩
  have c0 : w1.cell? ⟨w.heap.size, 0, none⟩ = some ((.int .i64 (g.x))) := (hb1.cell (p := ⟨_, 0, none⟩) (by simp; omega)).trans (by simp [go_sem])
  have c1 : w1.cell? ⟨w.heap.size, 1, none⟩ = some ((.int .i64 (g.y))) := (hb1.cell (p := ⟨_, 1, none⟩) (by simp; omega)).trans (by simp [go_sem])
  have c2 : w1.cell? ⟨w.heap.size, 2, none⟩ = some ((.int .i64 (g.p))) := (hb1.cell (p := ⟨_, 2, none⟩) (by simp; omega)).trans (by simp [go_sem])
  have c3 : w1.cell? ⟨w.heap.size, 3, none⟩ = some ((.int .i64 (g.w))) := (hb1.cell (p := ⟨_, 3, none⟩) (by simp; omega)).trans (by simp [go_sem])
  have c4 : w1.cell? ⟨w.heap.size, 4, none⟩ = some ((.int .i64 (g.h))) := (hb1.cell (p := ⟨_, 4, none⟩) (by simp; omega)).trans (by simp [go_sem])
  have c5 : w1.cell? ⟨w.heap.size, 5, none⟩ = some ((.int .i64 (g.s))) := (hb1.cell (p := ⟨_, 5, none⟩) (by simp; omega)).trans (by simp [go_sem])
  have r0 : w1.cell? ⟨w.heap.size + 1, 0, none⟩ = some ((.int .i64 (0))) := (hb1.cell (p := ⟨_, 0, none⟩) (by simp)).trans (by simp [go_sem])
  have r1 : w1.cell? ⟨w.heap.size + 1, 1, none⟩ = some ((.int .i64 (0))) := (hb1.cell (p := ⟨_, 1, none⟩) (by simp)).trans (by simp [go_sem])
  have r2 : w1.cell? ⟨w.heap.size + 1, 2, none⟩ = some (.slice none 0 0) := (hb1.cell (p := ⟨_, 2, none⟩) (by simp)).trans (by simp [go_sem])
  have f0 : w1.frozen? ⟨w.heap.size + 1, 0, none⟩ = false := (hb1.frozen (p := ⟨_, 0, none⟩) (by simp)).trans (by simp [go_sem])
  have f1 : w1.frozen? ⟨w.heap.size + 1, 1, none⟩ = false := (hb1.frozen (p := ⟨_, 1, none⟩) (by simp)).trans (by simp [go_sem])
  have f2 : w1.frozen? ⟨w.heap.size + 1, 2, none⟩ = false := (hb1.frozen (p := ⟨_, 2, none⟩) (by simp)).trans (by simp [go_sem])
  have HB : Below w.heap.size w w1 := (by repeat' (first | (with_reducible exact Below.refl _ _) | (with_reducible assumption) | (with_reducible refine below_drewN ?_ _) | (with_reducible refine Below.alloc ?_ ?_ _) | (with_reducible refine Below.drew ?_) | (with_reducible refine Below.setCell ?_ ?_ _) | (with_reducible refine below_var ?_ ?_ (by assumption)) | (with_reducible refine below_own' ?_ (by assumption) (by assumption) ?_ ?_) | go_size))
  have n0 := blt c0
  have n1 := blt r0
  clear hb1
  go_wp2_with fail
  refine wp_gen ?_
  intro W hW
  have hk : Below w1.heap.size w1 W := by rw [← hW]; exact (by repeat' (first | (with_reducible exact Below.refl _ _) | (with_reducible assumption) | (with_reducible refine below_drewN ?_ _) | (with_reducible refine Below.alloc ?_ ?_ _) | (with_reducible refine Below.drew ?_) | (with_reducible refine Below.setCell ?_ ?_ _) | (with_reducible refine below_var ?_ ?_ (by assumption)) | (with_reducible refine below_own' ?_ (by assumption) (by assumption) ?_ ?_) | go_size))
  replace f0 := (hk.frozen (World.block_lt_of_cell? _ _ r0)).trans f0
  replace f1 := (hk.frozen (World.block_lt_of_cell? _ _ r1)).trans f1
  replace f2 := (hk.frozen (World.block_lt_of_cell? _ _ r2)).trans f2
  replace c0 := (hk.cell (World.block_lt_of_cell? _ _ c0)).trans c0
  replace c1 := (hk.cell (World.block_lt_of_cell? _ _ c1)).trans c1
  replace c2 := (hk.cell (World.block_lt_of_cell? _ _ c2)).trans c2
  replace c3 := (hk.cell (World.block_lt_of_cell? _ _ c3)).trans c3
  replace c4 := (hk.cell (World.block_lt_of_cell? _ _ c4)).trans c4
  replace c5 := (hk.cell (World.block_lt_of_cell? _ _ c5)).trans c5
  replace r0 := (hk.cell (World.block_lt_of_cell? _ _ r0)).trans r0
  replace r1 := (hk.cell (World.block_lt_of_cell? _ _ r1)).trans r1
  replace r2 := (hk.cell (World.block_lt_of_cell? _ _ r2)).trans r2
  have hzW : w1.heap.size + 1 ≤ W.heap.size := by rw [← hW]; simp
  have HBW : Below w.heap.size w W := HB.trans (hk.mono (by omega))
  have t0 : W.cell? ⟨w1.heap.size, 0, none⟩ = some ((.int .i64 (g.w))) := by rw [← hW]; simp [go_sem]
  have t1 : W.cell? ⟨w1.heap.size, 1, none⟩ = some ((.int .i64 (g.h))) := by rw [← hW]; simp [go_sem]
  have t2 : W.cell? ⟨w1.heap.size, 2, none⟩ = some (.slice none 0 0) := by rw [← hW]; simp [go_sem]
  have q0 : W.frozen? ⟨w1.heap.size, 0, none⟩ = false := by rw [← hW]; simp [go_sem]
  have q1 : W.frozen? ⟨w1.heap.size, 1, none⟩ = false := by rw [← hW]; simp [go_sem]
  have q2 : W.frozen? ⟨w1.heap.size, 2, none⟩ = false := by rw [← hW]; simp [go_sem]
  clear hW hk HB
  go_loopw [8] (fun k wr => ∃ (j : Nat) (u : Value), (j : Int) ≤ g.h ∧ k = (.int .i64 (j)) ∧ Below w1.heap.size W wr ∧ w1.heap.size + 1 ≤ wr.heap.size ∧
      wr.cell? ⟨w1.heap.size, 0, none⟩ = some (.int .i64 (g.w)) ∧ wr.cell? ⟨w1.heap.size, 1, none⟩ = some (.int .i64 (g.h)) ∧ wr.cell? ⟨w1.heap.size, 2, none⟩ = some u ∧
      wr.frozen? ⟨w1.heap.size, 2, none⟩ = false ∧ wr.ownsRow (w1.heap.size + 1) 5 1 u (j * g.w.toNat) (fieldTo es g j)) (fun k wr => (g.h - intOf k).toNat)
  case atStart => exact ⟨0, _, by omega, rfl, Below.refl _ _, hzW, t0, t1, t2, q2, by simpa [fieldTo] using World.ownsRow_nil _ _ _ _⟩
  case round =>
    obtain ⟨j, u, hj, rfl, hB, hz, t0, t1, t2, q2, hown⟩ := hrel
    have k0 : wr.cell? ⟨w.heap.size, 0, none⟩ = some ((.int .i64 (g.x))) := (hB.cell (p := ⟨w.heap.size, 0, none⟩) (by simp; omega)).trans c0
    have k1 : wr.cell? ⟨w.heap.size, 1, none⟩ = some ((.int .i64 (g.y))) := (hB.cell (p := ⟨w.heap.size, 1, none⟩) (by simp; omega)).trans c1
    have k2 : wr.cell? ⟨w.heap.size, 2, none⟩ = some ((.int .i64 (g.p))) := (hB.cell (p := ⟨w.heap.size, 2, none⟩) (by simp; omega)).trans c2
    have k3 : wr.cell? ⟨w.heap.size, 3, none⟩ = some ((.int .i64 (g.w))) := (hB.cell (p := ⟨w.heap.size, 3, none⟩) (by simp; omega)).trans c3
    have k4 : wr.cell? ⟨w.heap.size, 4, none⟩ = some ((.int .i64 (g.h))) := (hB.cell (p := ⟨w.heap.size, 4, none⟩) (by simp; omega)).trans c4
    have k5 : wr.cell? ⟨w.heap.size, 5, none⟩ = some ((.int .i64 (g.s))) := (hB.cell (p := ⟨w.heap.size, 5, none⟩) (by simp; omega)).trans c5
    clear c0 c1 c2 c3 c4 c5
    have hBw : Below w.heap.size w wr := HBW.trans (hB.mono (by omega))
    have nk := blt k0
    have nt := blt t0
    by_cases h : (j : Int) < g.h
    · have hw1 : Hid (1 ≤ g.w.toNat ∧ g.w.toNat ≤ 24 ∧ j ≤ 24) := show _ ∧ _ by omega
      have HL := Lib.hid (fieldTo_succ es g j)
      have HJW := Lib.hid (show j * g.w.toNat + g.w.toNat ≤ 1000 by have := Nat.mul_le_mul hw1.out.2.2 hw1.out.2.1; have := hw1.out.2.1; omega)
      go_upto_region 8 with fail
      go_region_law (first
        | (go_simp; go_at_call 49; refine (row_c v es g j _ (HE.out.carry (by repeat' (first | (with_reducible exact Below.refl _ _) | (with_reducible assumption) | (with_reducible refine below_drewN ?_ _) | (with_reducible refine Below.alloc ?_ ?_ _) | (with_reducible refine Below.drew ?_) | (with_reducible refine Below.setCell ?_ ?_ _) | (with_reducible refine below_var ?_ ?_ (by assumption)) | (with_reducible refine below_own' ?_ (by assumption) (by assumption) ?_ ?_) | go_size))) HG.out (by omega) (by omega)).mono ?_; rintro e w' ⟨⟨ur, rfl, ho⟩, hb⟩; obtain ⟨hc, hf, hs⟩ := bcell3 hb; have hz := hb.size; simp only [World.size_drew] at hz; have e0 : w'.cell? ⟨w1.heap.size, 2, none⟩ = some u := (hc _ _ (by simp only [World.size_drew]; omega)).trans t2; have e0f : w'.frozen? ⟨w1.heap.size, 2, none⟩ = false := (hf _ _ (by simp only [World.size_drew]; omega)).trans q2; have e0a : w'.cell? ⟨w1.heap.size, 0, none⟩ = some (.int .i64 (g.w)) := (hc _ _ (by simp only [World.size_drew]; omega)).trans t0; have e0b : w'.cell? ⟨w1.heap.size, 1, none⟩ = some (.int .i64 (g.h)) := (hc _ _ (by simp only [World.size_drew]; omega)).trans t1; clear hc hf hs; obtain ⟨gb, cp, rfl, hgb, hlt⟩ := ho.form (by have := hw1.out; omega); have hown1 := ownsRow_below (show World.ownsRow wr.drew (w1.heap.size + 1) 5 1 u (j * g.w.toNat) (fieldTo es g j) from hown) hb)
        | (refine step_append_lies _ rfl _ _ 45 rfl (w1.heap.size + 1) 5 i0 (.int .u8 0) 1 1 Try.underlying45 hi hz0 hz1 hz2 rfl (by decide) u (j * g.w.toNat) (fieldTo es g j) rfl hown1 ⟨gb, 0, none⟩ g.w.toNat cp (rowE es g j) rfl (by simp [rowE_len]) (ho.cells rfl) (rowE_one es g j) (by have := hw1.out; omega) (by have := HJW.out; unfold maxLen; omega) (by have := HJW.out; omega) (by omega) _ rfl ?_; intro ga cap wa hown2 hgrow hat hlta; have hzg := hgrow.size; obtain ⟨hc', hf'⟩ := grown_far hgrow hown1; have nlt : w1.heap.size < w'.heap.size := (by omega); have e2 : wa.cell? ⟨w1.heap.size, 2, none⟩ = some u := (hc' _ _ (by omega) nlt).trans e0; have e2f : wa.frozen? ⟨w1.heap.size, 2, none⟩ = false := (hf' _ _ (by omega) nlt).trans e0f; have e2a : wa.cell? ⟨w1.heap.size, 0, none⟩ = some (.int .i64 (g.w)) := (hc' _ _ (by omega) nlt).trans e0a; have e2b : wa.cell? ⟨w1.heap.size, 1, none⟩ = some (.int .i64 (g.h)) := (hc' _ _ (by omega) nlt).trans e0b; clear hc' hf'))
      all_goals
        go_wp2_with fail
        go_roundw
        case rel => exact ⟨j + 1, .slice (some ⟨ga, 0, none⟩) (j * g.w.toNat + g.w.toNat) cap, by omega, by go_num, (by repeat' (first | (with_reducible exact Below.refl _ _) | (with_reducible assumption) | (with_reducible refine below_drewN ?_ _) | (with_reducible refine Below.alloc ?_ ?_ _) | (with_reducible refine Below.drew ?_) | (with_reducible refine Below.setCell ?_ ?_ _) | (with_reducible refine below_var ?_ ?_ (by assumption)) | (with_reducible refine below_own' ?_ (by assumption) (by assumption) ?_ ?_) | go_size)), by simp; omega, by go_simp, by go_simp, by go_simp, by go_simp, by rw [Nat.succ_mul, HL.out]; exact ownsRow_setCell_below hown2 (by simp) _⟩
        case measure => simp [intOf]; omega
    · have HJ := Lib.hid (show j = g.h.toNat by omega)
      have m0 : wr.cell? ⟨w.heap.size + 1, 0, none⟩ = some ((.int .i64 (0))) := (hB.cell (p := ⟨w.heap.size + 1, 0, none⟩) (by simp; omega)).trans r0
      have m1 : wr.cell? ⟨w.heap.size + 1, 1, none⟩ = some ((.int .i64 (0))) := (hB.cell (p := ⟨w.heap.size + 1, 1, none⟩) (by simp; omega)).trans r1
      have m2 : wr.cell? ⟨w.heap.size + 1, 2, none⟩ = some (.slice none 0 0) := (hB.cell (p := ⟨w.heap.size + 1, 2, none⟩) (by simp; omega)).trans r2
      have l0 : wr.frozen? ⟨w.heap.size + 1, 0, none⟩ = false := (hB.frozen (p := ⟨w.heap.size + 1, 0, none⟩) (by simp; omega)).trans f0
      have l1 : wr.frozen? ⟨w.heap.size + 1, 1, none⟩ = false := (hB.frozen (p := ⟨w.heap.size + 1, 1, none⟩) (by simp; omega)).trans f1
      have l2 : wr.frozen? ⟨w.heap.size + 1, 2, none⟩ = false := (hB.frozen (p := ⟨w.heap.size + 1, 2, none⟩) (by simp; omega)).trans f2
      have nm := blt m0
      obtain ⟨gu, cu, rfl, _, _⟩ := hown.form (Nat.mul_pos (by omega) (by omega))
      go_wp2_with fail
      refine bodyPost_ret (by simp [results, Try.results19, go_sem, m0, m1, m2]; rfl) rfl ?_
      refine ⟨⟨_, rfl, ?_⟩, (by repeat' (first | (with_reducible exact Below.refl _ _) | (with_reducible assumption) | (with_reducible refine below_drewN ?_ _) | (with_reducible refine Below.alloc ?_ ?_ _) | (with_reducible refine Below.drew ?_) | (with_reducible refine Below.setCell ?_ ?_ _) | (with_reducible refine below_var ?_ ?_ (by assumption)) | (with_reducible refine below_own' ?_ (by assumption) (by assumption) ?_ ?_) | go_size))⟩
      unfold fieldE
      rw [← HJ.out]
      exact own_down (ownsRow_setCell_below (ownsRow_setCell_below (ownsRow_setCell_below hown (by simp; omega) _) (by simp; omega) _) (by simp; omega) _) (by omega)

end Go.Proofs.Ytadohkidfkbncaa
