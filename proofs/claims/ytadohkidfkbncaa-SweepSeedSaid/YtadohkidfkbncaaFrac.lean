/-
  The walks of root: fractions, scaled roots, floors.
-/
import Derived.Test.YtadohkidfkbncaaDiv
namespace Go.Proofs.Ytadohkidfkbncaa
open Go.RowKit
set_option linter.unusedSimpArgs false

set_option maxHeartbeats 800000 in
theorem of_c (n d : Int) (w : World) (n0 : 0 ≤ n) (n1 : n ≤ 9223372036854775807) (d0 : 1 ≤ d) (d1 : d ≤ 9223372036854775807) :
    Calls Try.prog 46 #[.int .i64 n, .int .i64 d] w fun e w' => e = .returned (.tuple #[.agg #[.int .i64 (n / Int.gcd n d), .int .i64 (d / Int.gcd n d)], .int .i64 0]) ∧ Below w.heap.size w w' := by
  have hg0 : (0 : Int) < (Int.gcd n d : Int) := by
    have := Int.gcd_pos_of_ne_zero_right n (show d ≠ 0 by omega)
    omega
  have hg1 : (Int.gcd n d : Int) ≤ 9223372036854775807 := by
    have := Int.le_of_dvd (show 0 < d by omega) (Int.gcd_dvd_right n d)
    omega
  go_enter Try.func46, Try.ntmps46
  go_wp2_with fail
  go_loopw [6, 7] (fun a b wr => ∃ (x y : Int) (k : Nat), a = .int .i64 x ∧ b = .int .i64 y ∧ GcdInv n d x y ∧ wr = (w.alloc (.cells #[.int .i64 0, .int .i64 0] 38)).drewN k) (fun a b wr => (intOf b).toNat)
  case atStart => exact ⟨n, d, 0, rfl, rfl, ⟨n0, n1, by omega, d1, rfl⟩, rfl⟩
  case round =>
    obtain ⟨x, y, k, rfl, rfl, hI, rfl⟩ := hrel
    have HI := Lib.hid hI
    obtain ⟨x0, x1, y0, y1, _⟩ := hI
    by_cases hy : 0 < y
    · have HS := Lib.hid (HI.out.step hy)
      have m0 := Int.emod_nonneg x (show y ≠ 0 by omega)
      have m1 := Int.emod_lt_of_pos x hy
      have hne : (y != 0) = true := by simp; omega
      go_wp2_with fail
      go_quiet (fail)
      go_wp2_with fail
      go_roundw
      case rel => exact ⟨_, _, _, rfl, rfl, HS.out, World.drewN_drewN _ _ _⟩
      case measure => simp [intOf]; omega
    · have hL := HI.out.last (by omega)
      have hz : y = 0 := by omega
      subst hz
      have HL := Lib.hid hL
      have x2 : 0 < x := by rw [hL]; exact hg0
      clear hL hg0 hg1
      go_wp2_with fail
      go_region
      go_wp2_with fail
      go_returns
      rw [HL.out]
      exact ⟨rfl, (by repeat' (first | (with_reducible exact Below.refl _ _) | (with_reducible assumption) | (with_reducible refine below_drewN ?_ _) | (with_reducible refine Below.alloc ?_ ?_ _) | (with_reducible refine Below.drew ?_) | (with_reducible refine Below.setCell ?_ ?_ _) | (with_reducible refine below_var ?_ ?_ (by assumption)) | (with_reducible refine below_own' ?_ (by assumption) (by assumption) ?_ ?_) | go_size))⟩


theorem floor_c (a b : Int) (w : World) (a0 : -4611686018427387904 ≤ a) (a1 : a ≤ 4611686018427387904) (b0 : 1 ≤ b) (b1 : b ≤ 9223372036854775807) :
    Calls Try.prog 17 #[(.int .i64 (a)), (.int .i64 (b))] w fun e w' => e = .returned (.int .i64 (a / b)) ∧ w = w' := by
  have hb : a / b ≤ 4611686018427387904 ∧ -4611686018427387904 ≤ a / b := by
    constructor
    · rcases Int.lt_or_le a 0 with h | h
      · have := Int.ediv_neg_of_neg_of_pos h (show 0 < b by omega); omega
      · exact Int.le_trans (Int.ediv_le_self b h) a1
    · rw [Int.le_ediv_iff_mul_le (by omega)]
      have : 4611686018427387904 * 1 ≤ 4611686018427387904 * b := Int.mul_le_mul_of_nonneg_left b0 (by omega)
      omega
  by_cases h : a.tmod b < 0
  · have e := floor_neg b0 h
    have E := Lib.hid e
    have t1 : -9223372036854775808 ≤ a.tdiv b - 1 := by omega
    have t2 : a.tdiv b - 1 ≤ 9223372036854775807 := by omega
    clear e hb
    go_enter Try.func17, Try.ntmps17
    go_wp2_with fail
    go_ret
    rw [← E.out]
    exact ⟨rfl, rfl⟩
  · have E := Lib.hid (floor_pos (a := a) (b := b) (by omega))
    clear hb
    go_enter Try.func17, Try.ntmps17
    go_wp2_with fail
    go_ret
    rw [← E.out]
    exact ⟨rfl, rfl⟩


set_option maxHeartbeats 800000 in
/-- Eight times a root, rounded down. -/
theorem scaled_c (n d : Int) (w : World) (n0 : 0 ≤ n) (n1 : n ≤ 9223372036854775807) (d0 : 1 ≤ d) (d1 : d ≤ 9223372036854775807) (hq : n * 64 / d ≤ 4611686018427387904) :
    Calls Try.prog 32 #[.agg #[(.int .i64 (n)), (.int .i64 (d))], (.int .i64 (8))] w fun e w' => e = .returned (.int .i64 (isqrt (n * 64 / d))) ∧ Below w.heap.size w w' := by
  have hlt := hi_lt (show 0 ≤ n * 64 by omega) d0 hq
  have q0 : 0 ≤ n * 64 / d := Int.ediv_nonneg (by omega) (by omega)
  have E := Lib.hid (show n * 64 / 18446744073709551616 * 18446744073709551616 + n * 64 % 18446744073709551616 = n * 64 by omega)
  go_enter Try.func32, Try.ntmps32
  go_wp2_with fail
  refine wp_gen ?_
  intro W hW
  have c0 : W.cell? ⟨w.heap.size, 0, none⟩ = some ((.int .i64 (n))) := by rw [← hW]; simp [go_sem]
  have c1 : W.cell? ⟨w.heap.size, 1, none⟩ = some ((.int .i64 (d))) := by rw [← hW]; simp [go_sem]
  have HB : Below w.heap.size w W := by rw [← hW]; exact (by repeat' (first | (with_reducible exact Below.refl _ _) | (with_reducible assumption) | (with_reducible refine below_drewN ?_ _) | (with_reducible refine Below.alloc ?_ ?_ _) | (with_reducible refine Below.drew ?_) | (with_reducible refine Below.setCell ?_ ?_ _) | (with_reducible refine below_var ?_ ?_ (by assumption)) | (with_reducible refine below_own' ?_ (by assumption) (by assumption) ?_ ?_) | go_size))
  have hzB := HB.size
  clear hW
  have e1 : IntKind.u64.wrap n = n := u64_in _ n0 (by omega)
  have e2 : IntKind.u64.wrap d = d := u64_in _ (by omega) (by omega)
  have e3 : IntKind.u64.wrap (IntKind.i64.wrap 64) = 64 := by rfl
  have HS : Hid (∀ w', Below (W.heap.size) W w' → (Below (W.heap.size) W w' ∧ w'.cell? ⟨w.heap.size, 0, none⟩ = some ((.int .i64 (n))) ∧ w'.cell? ⟨w.heap.size, 1, none⟩ = some ((.int .i64 (d))))) := fun w' h => ⟨h, (h.cell (p := ⟨w.heap.size, 0, none⟩) (by first | exact World.block_lt_of_cell? W _ (show W.cell? ⟨w.heap.size, 0, none⟩ = some ((.int .i64 (n))) by assumption) | go_size)).trans (by assumption), (h.cell (p := ⟨w.heap.size, 1, none⟩) (by first | exact World.block_lt_of_cell? W _ (show W.cell? ⟨w.heap.size, 1, none⟩ = some ((.int .i64 (d))) by assumption) | go_size)).trans (by assumption)⟩
  go_region_held3 (fun w' => Below (W.heap.size) W w' ∧ w'.cell? ⟨w.heap.size, 0, none⟩ = some ((.int .i64 (n))) ∧ w'.cell? ⟨w.heap.size, 1, none⟩ = some ((.int .i64 (d)))) (exact HS.out _ (by repeat' (first | (with_reducible exact Below.refl _ _) | (with_reducible assumption) | (with_reducible refine below_drewN ?_ _) | (with_reducible refine Below.alloc ?_ ?_ _) | (with_reducible refine Below.drew ?_) | (with_reducible refine Below.setCell ?_ ?_ _) | (with_reducible refine below_var ?_ ?_ (by assumption)) | (with_reducible refine below_own' ?_ (by assumption) (by assumption) ?_ ?_) | go_size))) (first | (go_at_call 60; refine (mul_c n 64 _ n0 (by omega) (by omega) (by omega)).mono ?_; rintro e w' ⟨rfl, hb⟩; obtain ⟨hc, hf, hs⟩ := bcell3 hb; have hz := hb.size; (try simp only [World.size_alloc, World.size_setCell, World.size_drew, World.heap_drewN] at hz); (try have hq0 : W.heap.size < w'.heap.size := by omega); (try have hq1 : W.heap.size + 1 < w'.heap.size := by omega)) | (go_at_call 61; refine (div_c (n * 64 / 18446744073709551616) (n * 64 % 18446744073709551616) d _ (by omega) hlt (by omega) (by omega) d0 (by omega)).mono ?_; rintro e w' ⟨rfl, hb⟩; obtain ⟨hc, hf, hs⟩ := bcell3 hb; have hz := hb.size; (try simp only [World.size_alloc, World.size_setCell, World.size_drew, World.heap_drewN] at hz); (try have hq0 : W.heap.size < w'.heap.size := by omega); (try have hq1 : W.heap.size + 1 < w'.heap.size := by omega)))
  clear HS
  clear e1 e2 e3
  rw [E.out]
  go_wp2_with fail
  go_call sqrt_c (n * 64 / d) _ (by omega) as e w3 ⟨rfl, rfl⟩
  go_wp2_with fail
  go_ret
  exact ⟨rfl, (by repeat' (first | (with_reducible exact Below.refl _ _) | (with_reducible assumption) | (with_reducible refine below_drewN ?_ _) | (with_reducible refine Below.alloc ?_ ?_ _) | (with_reducible refine Below.drew ?_) | (with_reducible refine Below.setCell ?_ ?_ _) | (with_reducible refine below_var ?_ ?_ (by assumption)) | (with_reducible refine below_own' ?_ (by assumption) (by assumption) ?_ ?_) | go_size))⟩

end Go.Proofs.Ytadohkidfkbncaa
