/-
  The walks of sdf: rows, fields.
-/
import Derived.Test.YtadohkidfkbncaaSdf
namespace Go.Proofs.Ytadohkidfkbncaa
open Go.RowKit
set_option linter.unusedSimpArgs false

theorem info_u8 : (Try.prog.info? 5).map (fun i => (i.zero, i.size, i.bytes)) = some (some (.int .u8 0), 1, 1) := by kernel_rfl

/-- The texels of a row, as far as one has come. -/
def rowTo (es : List Edg) (g : Grd) (k : Int) (i : Nat) : List Value := (List.range i).map fun (j : Nat) => Value.int .u8 (texE es g j k)
def rowE (es : List Edg) (g : Grd) (k : Int) : List Value := rowTo es g k g.w.toNat

theorem rowTo_succ (es : List Edg) (g : Grd) (k : Int) (i : Nat) : rowTo es g k (i + 1) = rowTo es g k i ++ [Value.int .u8 (texE es g i k)] := by
  unfold rowTo
  rw [List.range_succ, List.map_append]; rfl

theorem rowTo_len (es : List Edg) (g : Grd) (k : Int) (i : Nat) : (rowTo es g k i).length = i := by simp [rowTo]

set_option maxHeartbeats 800000 in
theorem row_c (v : Value) (es : List Edg) (g : Grd) (k : Int) (w : World) (he : EdgesAt w v es) (hg : g.ok) (k0 : 0 ≤ k) (k1 : k ≤ 24) :
    Calls Try.prog 49 #[v, .agg #[(.int .i64 (g.x)), (.int .i64 (g.y)), (.int .i64 (g.p)), (.int .i64 (g.w)), (.int .i64 (g.h)), (.int .i64 (g.s))], (.int .i64 (k))] w fun r w' => (∃ u, r = .returned u ∧ w'.ownsRow w.heap.size 5 1 u g.w.toNat (rowE es g k)) ∧ Below w.heap.size w w' := by
  have HE := Lib.hid he
  have HG := Lib.hid hg
  obtain ⟨_, _, _, ⟨u0, u1⟩, _, _, _⟩ := hg
  clear he
  obtain ⟨n, hn⟩ := Int.eq_ofNat_of_zero_le (show 0 ≤ g.w by omega)
  have HN := Lib.hid hn
  obtain ⟨i0, hi, hz0, hz1, hz2⟩ := info_parts info_u8
  clear hn
  go_enter Try.func49, Try.ntmps49
  go_wp2_with fail
  refine wp_gen ?_
  intro W hW
  have c0 : W.cell? ⟨w.heap.size, 0, none⟩ = some ((.int .i64 (g.x))) := by rw [← hW]; simp [go_sem]
  have c1 : W.cell? ⟨w.heap.size, 1, none⟩ = some ((.int .i64 (g.y))) := by rw [← hW]; simp [go_sem]
  have c2 : W.cell? ⟨w.heap.size, 2, none⟩ = some ((.int .i64 (g.p))) := by rw [← hW]; simp [go_sem]
  have c3 : W.cell? ⟨w.heap.size, 3, none⟩ = some ((.int .i64 (g.w))) := by rw [← hW]; simp [go_sem]
  have c4 : W.cell? ⟨w.heap.size, 4, none⟩ = some ((.int .i64 (g.h))) := by rw [← hW]; simp [go_sem]
  have c5 : W.cell? ⟨w.heap.size, 5, none⟩ = some ((.int .i64 (g.s))) := by rw [← hW]; simp [go_sem]
  have HB : Below w.heap.size w W := by rw [← hW]; exact (by repeat' (first | (with_reducible exact Below.refl _ _) | (with_reducible assumption) | (with_reducible refine below_drewN ?_ _) | (with_reducible refine Below.alloc ?_ ?_ _) | (with_reducible refine Below.drew ?_) | (with_reducible refine Below.setCell ?_ ?_ _) | (with_reducible refine below_var ?_ ?_ (by assumption)) | (with_reducible refine below_own' ?_ (by assumption) (by assumption) ?_ ?_) | go_size))
  have hzB : w.heap.size ≤ W.heap.size := HB.size
  clear hW
  go_loopw [7, 8] (fun o i wr => ∃ j : Nat, (j : Int) ≤ g.w ∧ i = (.int .i64 (j)) ∧ wr.ownsRow W.heap.size 5 1 o j (rowTo es g k j) ∧ Below W.heap.size W wr) (fun _ i wr => (g.w - intOf i).toNat)
  case atStart => exact ⟨0, by omega, rfl, World.ownsRow_nil _ _ _ _, Below.refl _ _⟩
  case round =>
    obtain ⟨j, hj, rfl, hown, hB⟩ := hrel
    replace c0 := (hB.cell (World.block_lt_of_cell? _ _ c0)).trans c0
    replace c1 := (hB.cell (World.block_lt_of_cell? _ _ c1)).trans c1
    replace c2 := (hB.cell (World.block_lt_of_cell? _ _ c2)).trans c2
    replace c3 := (hB.cell (World.block_lt_of_cell? _ _ c3)).trans c3
    replace c4 := (hB.cell (World.block_lt_of_cell? _ _ c4)).trans c4
    replace c5 := (hB.cell (World.block_lt_of_cell? _ _ c5)).trans c5
    have hz1' : W.heap.size ≤ wr.heap.size := hB.size
    have n0 := blt c0
    by_cases h : (j : Int) < g.w
    · go_wp2_with fail
      go_call texel_c v es g j k _ (HE.out.carry (HB.trans (hB.mono hzB))) HG.out (by omega) (by omega) k0 k1 as r w1 ⟨rfl, hb1⟩
      have hz3 : wr.heap.size ≤ w1.heap.size := hb1.size
      have hown1 := World.ownsRow.alloc (ownsRow_below hown hb1) (.cells #[.int .u8 (texE es g j k)] 5)
      go_wp2_with (at_builtin; go_must (refine wpList_append_own _ rfl _ _ 45 rfl W.heap.size 5 i0 (.int .u8 0) 1 1 Try.underlying45 hi hz0 hz1 hz2 rfl (by decide) _ j (rowTo es g k j) rfl hown1 ⟨w1.heap.size, 0, none⟩ 1 1 [.int .u8 (texE es g j k)] rfl rfl (cell_one_new _ _ _) ?c2 ?c3 ?c4 ?c5 ?_))
      case c2 => intro u hu; simp at hu; subst hu; rfl
      case c3 => unfold maxLen; omega
      case c4 => omega
      case c5 => simp; omega
      intro v' w2 hown2 hgrow _
      have hB2 : Below W.heap.size W w2 := below_own (by repeat' (first | (with_reducible exact Below.refl _ _) | (with_reducible assumption) | (with_reducible refine below_drewN ?_ _) | (with_reducible refine Below.alloc ?_ ?_ _) | (with_reducible refine Below.drew ?_) | (with_reducible refine Below.setCell ?_ ?_ _) | (with_reducible refine below_var ?_ ?_ (by assumption)) | (with_reducible refine below_own' ?_ (by assumption) (by assumption) ?_ ?_) | go_size)) hgrow (by simp; omega) hown1
      rw [← rowTo_succ] at hown2
      clear hgrow hown1
      go_wp2_with fail
      go_roundw
      case rel => exact ⟨j + 1, by omega, by go_num, hown2, hB2⟩
      case measure => simp [intOf]; omega
    · have HJ := Lib.hid (show j = g.w.toNat by omega)
      go_wp2_with fail
      go_ret
      refine ⟨⟨_, rfl, ?_⟩, (by repeat' (first | (with_reducible exact Below.refl _ _) | (with_reducible assumption) | (with_reducible refine below_drewN ?_ _) | (with_reducible refine Below.alloc ?_ ?_ _) | (with_reducible refine Below.drew ?_) | (with_reducible refine Below.setCell ?_ ?_ _) | (with_reducible refine below_var ?_ ?_ (by assumption)) | (with_reducible refine below_own' ?_ (by assumption) (by assumption) ?_ ?_) | go_size))⟩
      unfold rowE
      rw [← HJ.out]
      exact own_down hown hzB

end Go.Proofs.Ytadohkidfkbncaa
