/-
  The third law of package 13.
-/
import Derived.Test.YtadohkidfkbncaaLawS
import Derived.Test.YtadohkidfkbncaaSwpO
namespace Go.Proofs.Ytadohkidfkbncaa
open Go.RowKit
set_option linter.unusedSimpArgs false
attribute [local go_sem ↓] Go.wp_at_zero Go.wp_at_succ

/-- An own row of one-celled values: its slice, its cells. -/
theorem own_row {w : World} {K : Nat} {T : TypeId} {u : Value} {n : Nat} {xs : List Value} (h : w.ownsRow K T 1 u n xs) (hn : 0 < n) : ∃ G cap, u = .slice (some ⟨G, 0, none⟩) n cap ∧ ∀ (j : Nat) (y : Value), xs[j]? = some y → w.cell? ⟨G, j, none⟩ = some y := by
  rcases h.2 with ⟨_, h0⟩ | ⟨g, cap, cur, rfl, hB, hg, hrest⟩
  · omega
  · refine ⟨g, cap, rfl, fun j y hj => ?_⟩
    have := h.cells (g := g) rfl j y hj
    rwa [show ((⟨g, 0, none⟩ : Addr).add j) = ⟨g, j, none⟩ by unfold Addr.add; split <;> simp_all] at this

set_option maxRecDepth 100000 in
set_option maxHeartbeats 16000000 in
theorem sweepOver_c {w : World} {v : Value} {dss : List (List Dt)} {s : Spc} (h : RowsAt w v dss) (hs : s.ok) :
    Calls Try.prog 5 #[v, s.val] w fun r w' => r = .returned (.bool true) ∧ Below w.heap.size w w' := by
  have HR := Lib.hid h
  have HS := Lib.hid hs
  unfold Spc.val
  clear h hs
  go_enter Try.func5, Try.ntmps5
  go_wp2_with fail
  go_call awakeS_c _ as r w1 ⟨rfl, hb1⟩
  have HB1 : Below w.heap.size w w1 := (by repeat' (first | (with_reducible exact Below.refl _ _) | (with_reducible assumption) | (with_reducible refine below_drewN ?_ _) | (with_reducible refine Below.alloc ?_ ?_ _) | (with_reducible refine Below.drew ?_) | (with_reducible refine Below.setCell ?_ ?_ _) | (with_reducible refine below_var ?_ ?_ (by assumption)) | (with_reducible refine below_own' ?_ (by assumption) (by assumption) ?_ ?_) | go_size))
  have s0 : w1.cell? ⟨w.heap.size, 0, none⟩ = some (.int .u8 s.x) := (hb1.cell (p := ⟨_, 0, none⟩) (by simp)).trans (by simp [go_sem])
  have s1 : w1.cell? ⟨w.heap.size, 1, none⟩ = some (.int .u8 s.y) := (hb1.cell (p := ⟨_, 1, none⟩) (by simp)).trans (by simp [go_sem])
  have s2 : w1.cell? ⟨w.heap.size, 2, none⟩ = some (.int .u8 s.p) := (hb1.cell (p := ⟨_, 2, none⟩) (by simp)).trans (by simp [go_sem])
  have s3 : w1.cell? ⟨w.heap.size, 3, none⟩ = some (.int .u8 s.u) := (hb1.cell (p := ⟨_, 3, none⟩) (by simp)).trans (by simp [go_sem])
  have s4 : w1.cell? ⟨w.heap.size, 4, none⟩ = some (.int .u8 s.v) := (hb1.cell (p := ⟨_, 4, none⟩) (by simp)).trans (by simp [go_sem])
  have s5 : w1.cell? ⟨w.heap.size, 5, none⟩ = some (.int .u8 s.s) := (hb1.cell (p := ⟨_, 5, none⟩) (by simp)).trans (by simp [go_sem])
  clear hb1
  go_wp2_with fail
  go_call glyph_c (HR.out.carry HB1) as r w2 ⟨⟨ve, rfl, hE⟩, hb2⟩
  have HE := Lib.hid hE
  replace s0 := (hb2.cell (World.block_lt_of_cell? _ _ s0)).trans s0
  replace s1 := (hb2.cell (World.block_lt_of_cell? _ _ s1)).trans s1
  replace s2 := (hb2.cell (World.block_lt_of_cell? _ _ s2)).trans s2
  replace s3 := (hb2.cell (World.block_lt_of_cell? _ _ s3)).trans s3
  replace s4 := (hb2.cell (World.block_lt_of_cell? _ _ s4)).trans s4
  replace s5 := (hb2.cell (World.block_lt_of_cell? _ _ s5)).trans s5
  have HB2 : Below w.heap.size w w2 := HB1.trans (hb2.mono HB1.size)
  obtain ⟨es, hes⟩ : ∃ es, es = glyphE dss := ⟨_, rfl⟩
  rw [← hes] at HE
  clear hE hb2 hes
  go_wp2_with fail
  go_call spc_c HS.out _ as r w3 ⟨rfl, hb3⟩
  have HE := Lib.hid (HE.out.carry hb3)
  have HB3 : Below w.heap.size w w3 := HB2.trans (hb3.mono HB2.size)
  have HG := Lib.hid (Spc.grd_ok HS.out)
  obtain ⟨g, hgg⟩ : ∃ g, g = s.grd := ⟨_, rfl⟩
  rw [← hgg] at HG ⊢
  clear hb3 hgg
  go_wp2_with fail
  refine calls_gen ?_
  intro W4 hW4
  have hk4 : Below w3.heap.size w3 W4 := by rw [← hW4]; exact (by repeat' (first | (with_reducible exact Below.refl _ _) | (with_reducible assumption) | (with_reducible refine below_drewN ?_ _) | (with_reducible refine Below.alloc ?_ ?_ _) | (with_reducible refine Below.drew ?_) | (with_reducible refine Below.setCell ?_ ?_ _) | (with_reducible refine below_var ?_ ?_ (by assumption)) | (with_reducible refine below_own' ?_ (by assumption) (by assumption) ?_ ?_) | go_size))
  have c0 : W4.cell? ⟨w3.heap.size, 0, none⟩ = some ((.int .i64 (g.x))) := by rw [← hW4]; simp [go_sem]
  have c1 : W4.cell? ⟨w3.heap.size, 1, none⟩ = some ((.int .i64 (g.y))) := by rw [← hW4]; simp [go_sem]
  have c2 : W4.cell? ⟨w3.heap.size, 2, none⟩ = some ((.int .i64 (g.p))) := by rw [← hW4]; simp [go_sem]
  have c3 : W4.cell? ⟨w3.heap.size, 3, none⟩ = some ((.int .i64 (g.w))) := by rw [← hW4]; simp [go_sem]
  have c4 : W4.cell? ⟨w3.heap.size, 4, none⟩ = some ((.int .i64 (g.h))) := by rw [← hW4]; simp [go_sem]
  have c5 : W4.cell? ⟨w3.heap.size, 5, none⟩ = some ((.int .i64 (g.s))) := by rw [← hW4]; simp [go_sem]
  have HB4 : Below w.heap.size w W4 := HB3.trans (hk4.mono HB3.size)
  have HE := Lib.hid (HE.out.carry hk4)
  clear hW4 hk4
  have hN : 0 < txN g := by
    obtain ⟨a1, _⟩ := HG.out.2.2.2.1
    obtain ⟨a2, _⟩ := HG.out.2.2.2.2.1
    exact Nat.mul_pos (by omega) (by omega)
  have hNc := txN_le HG.out
  have HN := Lib.hid hN
  clear hN
  refine (swmake_c HE.out HG.out).mono ?_
  rintro e5 w5 ⟨⟨ua, rfl, hua⟩, hb5⟩
  obtain ⟨GA, capA, rfl, hA⟩ := own_row hua HN.out
  have HA := Lib.hid hA
  replace c0 := (hb5.cell (World.block_lt_of_cell? _ _ c0)).trans c0
  replace c1 := (hb5.cell (World.block_lt_of_cell? _ _ c1)).trans c1
  replace c2 := (hb5.cell (World.block_lt_of_cell? _ _ c2)).trans c2
  replace c3 := (hb5.cell (World.block_lt_of_cell? _ _ c3)).trans c3
  replace c4 := (hb5.cell (World.block_lt_of_cell? _ _ c4)).trans c4
  replace c5 := (hb5.cell (World.block_lt_of_cell? _ _ c5)).trans c5
  have HB5 : Below w.heap.size w w5 := HB4.trans (hb5.mono HB4.size)
  have HE := Lib.hid (HE.out.carry hb5)
  clear hua hA hb5
  have HOK := Lib.hid (show ∀ e ∈ es, e.ok by obtain ⟨_, _, _, _, _, _, h, _⟩ := HE.out; exact h)
  go_upto_region 6 with fail
  refine wp_gen ?_
  intro W6 hW6
  have hk6 : Below w5.heap.size w5 W6 := by rw [← hW6]; exact (by repeat' (first | (with_reducible exact Below.refl _ _) | (with_reducible assumption) | (with_reducible refine below_drewN ?_ _) | (with_reducible refine Below.alloc ?_ ?_ _) | (with_reducible refine Below.drew ?_) | (with_reducible refine Below.setCell ?_ ?_ _) | (with_reducible refine below_var ?_ ?_ (by assumption)) | (with_reducible refine below_own' ?_ (by assumption) (by assumption) ?_ ?_) | go_size))
  have a2 : W6.cell? ⟨w5.heap.size, 2, none⟩ = some (.slice (some ⟨GA, 0, none⟩) (txN g) capA) := by rw [← hW6]; simp [go_sem]
  replace c0 := (hk6.cell (World.block_lt_of_cell? _ _ c0)).trans c0
  replace c1 := (hk6.cell (World.block_lt_of_cell? _ _ c1)).trans c1
  replace c2 := (hk6.cell (World.block_lt_of_cell? _ _ c2)).trans c2
  replace c3 := (hk6.cell (World.block_lt_of_cell? _ _ c3)).trans c3
  replace c4 := (hk6.cell (World.block_lt_of_cell? _ _ c4)).trans c4
  replace c5 := (hk6.cell (World.block_lt_of_cell? _ _ c5)).trans c5
  have HB6 : Below w.heap.size w W6 := HB5.trans (hk6.mono HB5.size)
  have HE := Lib.hid (HE.out.carry hk6)
  have HK6 := Lib.hid hk6
  clear hk6 hW6
  go_wp2_with fail
  refine (make_c _ _ _ _ HE.out HG.out).mono ?_
  rintro e7 w7 ⟨⟨ub, rfl, hub⟩, hb7⟩
  obtain ⟨GB, capB, rfl, hB⟩ := own_row hub (show 0 < g.h.toNat * g.w.toNat from HN.out)
  rw [show g.h.toNat * g.w.toNat = txN g from rfl]
  have HB := Lib.hid hB
  have HK7 := Lib.hid (HK6.out.trans (hb7.mono HK6.out.size))
  replace a2 := (hb7.cell (World.block_lt_of_cell? _ _ a2)).trans a2
  have HB7 : Below w.heap.size w w7 := HB6.trans (hb7.mono HB6.size)
  clear hub hB hb7 HK6 c0 c1 c2 c3 c4 c5 HE
  go_upto_region 7 with fail
  refine wp_gen ?_
  intro W8 hW8
  have hk8 : Below w7.heap.size w7 W8 := by rw [← hW8]; exact (by repeat' (first | (with_reducible exact Below.refl _ _) | (with_reducible assumption) | (with_reducible refine below_drewN ?_ _) | (with_reducible refine Below.alloc ?_ ?_ _) | (with_reducible refine Below.drew ?_) | (with_reducible refine Below.setCell ?_ ?_ _) | (with_reducible refine below_var ?_ ?_ (by assumption)) | (with_reducible refine below_own' ?_ (by assumption) (by assumption) ?_ ?_) | go_size))
  have b2 : W8.cell? ⟨w7.heap.size, 2, none⟩ = some (.slice (some ⟨GB, 0, none⟩) (txN g) capB) := by rw [← hW8]; simp [go_sem]
  replace a2 := (hk8.cell (World.block_lt_of_cell? _ _ a2)).trans a2
  have HB8 : Below w.heap.size w W8 := HB7.trans (hk8.mono HB7.size)
  have HK8 := Lib.hid (HK7.out.trans (hk8.mono HK7.out.size))
  have HJ8 := Lib.hid hk8
  have nA := blt a2
  have nB := blt b2
  clear hW8 hk8 HK7
  go_wp2_with fail
  go_loopw [50] (fun k wr => ∃ n : Nat, n ≤ txN g ∧ k = (.int .i64 (n)) ∧ Below W8.heap.size W8 wr) (fun k wr => txN g - (intOf k).toNat)
  case atStart => exact ⟨0, by omega, rfl, Below.refl _ _⟩
  case round =>
    obtain ⟨n, hn, rfl, hB⟩ := hrel
    replace a2 := (hB.cell (World.block_lt_of_cell? _ _ a2)).trans a2
    replace b2 := (hB.cell (World.block_lt_of_cell? _ _ b2)).trans b2
    by_cases hlt : n < txN g
    · obtain ⟨sg, a, b, h1, h2, h3, h4, h5, h6, h7⟩ := over_at HG.out HOK.out hlt
      have da := HA.out n _ h1
      have db := HB.out n _ h2
      replace da := (HK8.out.cell (blt da)).trans da
      replace db := (HJ8.out.cell (blt db)).trans db
      replace da := (hB.cell (World.block_lt_of_cell? _ _ da)).trans da
      replace db := (hB.cell (World.block_lt_of_cell? _ _ db)).trans db
      obtain ⟨A, hAe⟩ : ∃ A, A = sg * a := ⟨_, rfl⟩
      obtain ⟨B, hBe⟩ : ∃ B, B = sg * b := ⟨_, rfl⟩
      rw [← hAe] at da
      rw [← hBe] at db
      have hc : (A = 0 ∧ B = 0) ∨ (0 < A ∧ B = 0) ∨ (A < 0 ∧ B = 0) ∨ (0 < A ∧ 0 < B ∧ B ≤ A) ∨ (A < 0 ∧ B < 0 ∧ A ≤ B) := by
        rcases (show sg = -1 ∨ sg = 0 ∨ sg = 1 by omega) with rfl | rfl | rfl <;> omega
      have hr : -127 ≤ A ∧ A ≤ 127 ∧ -127 ≤ B ∧ B ≤ 127 := by
        rcases (show sg = -1 ∨ sg = 0 ∨ sg = 1 by omega) with rfl | rfl | rfl <;> omega
      obtain ⟨X, hX⟩ : ∃ X, X = 128 + A := ⟨_, rfl⟩
      obtain ⟨Y, hY⟩ : ∃ Y, Y = 128 + B := ⟨_, rfl⟩
      rw [← hX] at da
      rw [← hY] at db
      have n0 : (0 : Int) ≤ (n : Int) := by omega
      have n1 : (n : Int) < (txN g : Int) := by omega
      have x1 : IntKind.i64.wrap (X - 128) = A := by rw [show X - 128 = A by omega]; exact IntWalk.i64_in _ (by omega)
      have y1 : IntKind.i64.wrap (Y - 128) = B := by rw [show Y - 128 = B by omega]; exact IntWalk.i64_in _ (by omega)
      have x0 : 0 ≤ X ∧ X ≤ 255 := by omega
      have y0 : 0 ≤ Y ∧ Y ≤ 255 := by omega
      obtain ⟨x2, x3⟩ := x0
      obtain ⟨y2, y3⟩ := y0
      clear h1 h2 h3 h4 h5 h6 h7 hAe hBe hX hY
      go_upto_region 12 with fail
      go_quiet (fail)
      clear da db x1 y1 x2 x3 y2 y3 n0 n1
      obtain ⟨r1, r2, r3, r4⟩ := hr
      have v1 : IntKind.i64.wrap (-A) = -A := IntWalk.i64_in _ (by omega)
      have v2 : IntKind.i64.wrap (-B) = -B := IntWalk.i64_in _ (by omega)
      rcases hc with ⟨rfl, rfl⟩ | ⟨k1, rfl⟩ | ⟨k1, rfl⟩ | ⟨k1, k2, k3⟩ | ⟨k1, k2, k3⟩
      all_goals
        go_wp2_with fail
        go_roundw
        case rel => exact ⟨n + 1, by omega, by go_num, below_drewN hB _⟩
        case measure => simp [intOf]; omega
    · go_wp2_with fail
      go_ret
      exact ⟨rfl, HB8.trans (hB.mono HB8.size)⟩

end Go.Proofs.Ytadohkidfkbncaa
