/-
  The walk of the examples of sweep.
-/
import Derived.Test.YtadohkidfkbncaaSwpM
namespace Go.Proofs.Ytadohkidfkbncaa
open Go.RowKit
set_option linter.unusedSimpArgs false

def esA : List Edg := [⟨0, 0, 320, 0⟩, ⟨320, 0, 0, 320⟩, ⟨0, 320, 0, 0⟩]
def gA : Grd := ⟨-2, -2, 2, 4, 4, 8⟩
theorem gA_ok : gA.ok := by
  refine ⟨⟨?_, ?_⟩, ⟨?_, ?_⟩, ⟨?_, ?_⟩, ⟨?_, ?_⟩, ⟨?_, ?_⟩, ?_, ?_⟩ <;> decide
theorem knA : knownE esA gA = [0, 0, 0, 0, 2, 0, 0, 0, 2, 2, 1, 1, 2, 2, 1, 1] := by kernel_rfl
theorem sgA : signE esA 32 32 = 1 := by kernel_rfl
theorem sqA : sqAt esA 32 32 0 = (1024, 1) := by kernel_rfl
theorem txA : swTex esA gA (knownE esA gA) (1, 1) = 143 := by
  have h : getI (knownE esA gA) (ixOf gA 1 1) = 0 := by rw [knA]; kernel_rfl
  have hc : cen gA.x gA.p 1 = 32 := by kernel_rfl
  have hd : cen gA.y gA.p 1 = 32 := by kernel_rfl
  have hi : isqrt (((1024, 1) : Int × Int).1 * 64 / ((1024, 1) : Int × Int).2) = 256 := isqrt_eq (by decide) (by decide) (by decide) (by decide)
  unfold swTex
  simp only
  rw [h, if_neg (by omega), hc, hd, sgA, sqA, hi]
  exact (by kernel_rfl : code 8 1 256 = 143)

theorem calls_gen {P : Program} {f : FuncId} {args : Array Value} {R : Ending → World → Prop} {w : World} (h : ∀ W, w = W → Calls P f args W R) : Calls P f args w R := h w rfl

theorem edgesAt_nil (w : World) : EdgesAt w (.slice none 0 0) [] := ⟨0, 0, none, rfl, by simp, fun h => absurd rfl h, (fun e he => by cases he), (fun i g hi => by simp at hi)⟩

theorem slice_edge3 (a b c d e f g h i j k l : Value) (w : World) : (Instr.buildSlice 26 3 #[(0, .agg #[a, b, c, d]), (1, .agg #[e, f, g, h]), (2, .agg #[i, j, k, l])]).run Try.prog w = .ok (.slice (some ⟨w.heap.size, 0, none⟩) 3 3) (w.alloc (.cells #[a, b, c, d, e, f, g, h, i, j, k, l] 41)) := by kernel_rfl
theorem build_pt0 (w : World) : (Instr.build 34 #[]).run Try.prog w = .ok (.agg #[(.int .i64 (0)), (.int .i64 (0))]) w := by kernel_rfl
theorem build_ptX (x : Int) (w : World) : (Instr.build 34 #[(0, (.int .i64 (x)))]).run Try.prog w = .ok (.agg #[(.int .i64 (x)), (.int .i64 (0))]) w := by kernel_rfl
theorem build_ptY (x : Int) (w : World) : (Instr.build 34 #[(1, (.int .i64 (x)))]).run Try.prog w = .ok (.agg #[(.int .i64 (0)), (.int .i64 (x))]) w := by kernel_rfl
theorem build_grid (a b c d e f : Int) (w : World) : (Instr.build 29 #[(0, (.int .i64 (a))), (1, (.int .i64 (b))), (2, (.int .i64 (c))), (3, (.int .i64 (d))), (4, (.int .i64 (e))), (5, (.int .i64 (f)))]).run Try.prog w = .ok (.agg #[(.int .i64 (a)), (.int .i64 (b)), (.int .i64 (c)), (.int .i64 (d)), (.int .i64 (e)), (.int .i64 (f))]) w := by kernel_rfl

theorem cellA : (swCells esA gA (knownE esA gA) (txTo gA_ok (txN gA)))[5]? = some (.int .u8 143) := by
  have h1 : (List.range (txN gA))[5]? = some 5 := by kernel_rfl
  have h2 : (txOf gA_ok 5).1 = (1, 1) := by
    have := txOf_at gA_ok (i := 1) (k := 1) (by decide) (by decide)
    exact this
  unfold swCells txTo
  rw [List.getElem?_map, List.getElem?_map, h1]
  simp only [Option.map_some, h2, txA]

set_option maxRecDepth 100000 in
set_option maxHeartbeats 1600000 in
theorem awakeS_c (w : World) : Calls Try.prog 10 #[] w fun r w' => r = .returned (.bool true) ∧ Below w.heap.size w w' := by
  have b1 := build_pt0
  have b2 := build_ptX
  have b3 := build_ptY
  have b4 := build_edge
  have b5 := slice_edge3
  have b6 := build_grid
  go_enter Try.func10, Try.ntmps10
  go_wp2_with fail
  refine calls_gen ?_
  intro W hW
  have hE : EdgesAt W (.slice (some ⟨w.heap.size, 0, none⟩) 3 3) esA := by
    refine ⟨w.heap.size, 3, _, rfl, by decide, fun _ => rfl, ?_, ?_⟩
    · intro e he
      simp only [esA, List.mem_cons, List.not_mem_nil, or_false] at he
      rcases he with rfl | rfl | rfl <;> (refine ⟨⟨?_, ?_⟩, ⟨?_, ?_⟩, ⟨?_, ?_⟩, ?_, ?_⟩ <;> decide)
    · intro i e hi
      match i, hi with
      | 0, hi => cases hi; rw [← hW]; simp [go_sem]
      | 1, hi => cases hi; rw [← hW]; simp [go_sem]
      | 2, hi => cases hi; rw [← hW]; simp [go_sem]
      | _ + 3, hi => simp [esA] at hi
  have HB : Below w.heap.size w W := by rw [← hW]; exact (by repeat' (first | (with_reducible exact Below.refl _ _) | (with_reducible assumption) | (with_reducible refine below_drewN ?_ _) | (with_reducible refine Below.alloc ?_ ?_ _) | (with_reducible refine Below.drew ?_) | (with_reducible refine Below.setCell ?_ ?_ _) | (with_reducible refine below_var ?_ ?_ (by assumption)) | (with_reducible refine below_own' ?_ (by assumption) (by assumption) ?_ ?_) | go_size))
  have c0 : W.cell? ⟨w.heap.size + 1, 0, none⟩ = some ((.int .i64 (-2))) := by rw [← hW]; simp [go_sem]
  have c1 : W.cell? ⟨w.heap.size + 1, 1, none⟩ = some ((.int .i64 (-2))) := by rw [← hW]; simp [go_sem]
  have c2 : W.cell? ⟨w.heap.size + 1, 2, none⟩ = some ((.int .i64 (2))) := by rw [← hW]; simp [go_sem]
  have c3 : W.cell? ⟨w.heap.size + 1, 3, none⟩ = some ((.int .i64 (4))) := by rw [← hW]; simp [go_sem]
  have c4 : W.cell? ⟨w.heap.size + 1, 4, none⟩ = some ((.int .i64 (4))) := by rw [← hW]; simp [go_sem]
  have c5 : W.cell? ⟨w.heap.size + 1, 5, none⟩ = some ((.int .i64 (8))) := by rw [← hW]; simp [go_sem]
  have HE := Lib.hid hE
  clear hW hE b1 b2 b3 b4 b5 b6
  refine (swmake_c (g := gA) HE.out gA_ok).mono ?_
  rintro e1 w1 ⟨⟨u, rfl, hO⟩, hb1⟩
  have hsz : txN gA = 16 := by kernel_rfl
  obtain ⟨gb, cap, rfl, hgb, hglt⟩ := hO.form (by rw [hsz]; decide)
  have u5 := hO.cells (g := gb) rfl 5 _ cellA
  rw [show ((⟨gb, 0, none⟩ : Addr).add 5) = ⟨gb, 5, none⟩ from rfl] at u5
  rw [hsz]
  have hkW : Below W.heap.size W w1 := hb1
  replace c0 := (hkW.cell (World.block_lt_of_cell? _ _ c0)).trans c0
  replace c1 := (hkW.cell (World.block_lt_of_cell? _ _ c1)).trans c1
  replace c2 := (hkW.cell (World.block_lt_of_cell? _ _ c2)).trans c2
  replace c3 := (hkW.cell (World.block_lt_of_cell? _ _ c3)).trans c3
  replace c4 := (hkW.cell (World.block_lt_of_cell? _ _ c4)).trans c4
  replace c5 := (hkW.cell (World.block_lt_of_cell? _ _ c5)).trans c5
  have HB1 : Below w.heap.size w w1 := HB.trans (hkW.mono HB.size)
  have nc := blt c0
  have HE1 := Lib.hid (HE.out.carry hkW)
  clear hO hb1 hsz HE
  go_wp2_with fail
  refine calls_gen ?_
  intro W2 hW2
  have hk2 : Below w1.heap.size w1 W2 := by rw [← hW2]; exact (by repeat' (first | (with_reducible exact Below.refl _ _) | (with_reducible assumption) | (with_reducible refine below_drewN ?_ _) | (with_reducible refine Below.alloc ?_ ?_ _) | (with_reducible refine Below.drew ?_) | (with_reducible refine Below.setCell ?_ ?_ _) | (with_reducible refine below_var ?_ ?_ (by assumption)) | (with_reducible refine below_own' ?_ (by assumption) (by assumption) ?_ ?_) | go_size))
  have f2 : W2.cell? ⟨w1.heap.size, 2, none⟩ = some (.slice (some ⟨gb, 0, none⟩) 16 cap) := by rw [← hW2]; simp [go_sem]
  replace c0 := (hk2.cell (World.block_lt_of_cell? _ _ c0)).trans c0
  replace c1 := (hk2.cell (World.block_lt_of_cell? _ _ c1)).trans c1
  replace c2 := (hk2.cell (World.block_lt_of_cell? _ _ c2)).trans c2
  replace c3 := (hk2.cell (World.block_lt_of_cell? _ _ c3)).trans c3
  replace c4 := (hk2.cell (World.block_lt_of_cell? _ _ c4)).trans c4
  replace c5 := (hk2.cell (World.block_lt_of_cell? _ _ c5)).trans c5
  replace u5 := (hk2.cell (World.block_lt_of_cell? _ _ u5)).trans u5
  have HB2 : Below w.heap.size w W2 := HB1.trans (hk2.mono HB1.size)
  clear hW2
  refine (known_c (g := gA) (HE1.out.carry hk2) gA_ok).mono ?_
  rintro e2 w3 ⟨⟨u2, rfl, hI⟩, hb3⟩
  obtain ⟨A, capA, rfl, _, hcA⟩ := hI
  have l0 := hcA 0 0 (by rw [knA]; rfl)
  have hlen : (knownE esA gA).length = 16 := by rw [knA]; rfl
  rw [hlen]
  have hk3 : Below W2.heap.size W2 w3 := hb3
  replace c0 := (hk3.cell (World.block_lt_of_cell? _ _ c0)).trans c0
  replace c1 := (hk3.cell (World.block_lt_of_cell? _ _ c1)).trans c1
  replace c2 := (hk3.cell (World.block_lt_of_cell? _ _ c2)).trans c2
  replace c3 := (hk3.cell (World.block_lt_of_cell? _ _ c3)).trans c3
  replace c4 := (hk3.cell (World.block_lt_of_cell? _ _ c4)).trans c4
  replace c5 := (hk3.cell (World.block_lt_of_cell? _ _ c5)).trans c5
  replace u5 := (hk3.cell (World.block_lt_of_cell? _ _ u5)).trans u5
  replace f2 := (hk3.cell (World.block_lt_of_cell? _ _ f2)).trans f2
  have HB3 : Below w.heap.size w w3 := HB2.trans (hk3.mono HB2.size)
  have n1 := blt f2
  have n2 := blt c0
  have n3 := blt l0
  have n4 := blt u5
  clear hb3 hcA hlen HE1
  go_wp2_with fail
  refine (known_c (g := gA) (edgesAt_nil w3) gA_ok).mono ?_
  rintro e4 w5 ⟨⟨u6, rfl, hI⟩, hb5⟩
  obtain ⟨A2, capA2, rfl, _, hcA2⟩ := hI
  have hlen : (knownE [] gA).length = 16 := by rw [knownE_len]; rfl
  rw [hlen]
  clear hcA2 hlen
  go_wp2_with fail
  go_ret
  exact ⟨rfl, HB3.trans (hb5.mono HB3.size)⟩

end Go.Proofs.Ytadohkidfkbncaa
