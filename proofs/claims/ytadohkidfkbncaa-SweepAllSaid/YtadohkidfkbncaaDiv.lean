/-
  The walk of wide's division, bit by bit; the scaled root.
-/
import Derived.Test.YtadohkidfkbncaaNum
namespace Go.Proofs.Ytadohkidfkbncaa
open Go.RowKit
set_option linter.unusedSimpArgs false

set_option maxHeartbeats 800000 in
theorem div_c (a b d : Int) (w : World) (a0 : 0 ≤ a) (a1 : a < d) (b0 : 0 ≤ b) (b1 : b ≤ 18446744073709551615) (d0 : 1 ≤ d) (d1 : d ≤ 18446744073709551615) :
    Calls Try.prog 61 #[.agg #[.int .u64 a, .int .u64 b], .int .u64 d] w fun e w' => e = .returned (.tuple #[.int .u64 ((a * 18446744073709551616 + b) / d), .int .u64 ((a * 18446744073709551616 + b) % d), .int .i64 0]) ∧ Below w.heap.size w w' := by
  go_enter Try.func61, Try.ntmps61
  go_wp2_with fail
  go_loop [7, 8, 9] (fun o r k => ∃ (i : Nat) (out rest : Int), i ≤ 64 ∧ o = .int .u64 out ∧ r = .int .u64 rest ∧ k = .int .i64 ((i : Int) - 1) ∧ DivInv (a * 18446744073709551616 + b) d i out rest) (fun o r k => (intOf k + 1).toNat)
  case atStart => exact ⟨64, _, _, by omega, rfl, rfl, by rfl, DivInv.start a0 a1 b0 b1⟩
  case round =>
    obtain ⟨i, out, rest, hi, rfl, rfl, rfl, hI⟩ := hrel
    obtain ⟨r0, r1, q, hq, q0, q1⟩ := hI.bounds a0 a1 b0 b1
    have HI := Lib.hid hI
    clear hI
    by_cases h : 0 < i
    · obtain ⟨k, rfl⟩ : ∃ k, i = k + 1 := ⟨i - 1, by omega⟩
      have hst := HI.out.step d0 (by omega)
      have bk : 0 ≤ b / 2 ^ k := Int.ediv_nonneg b0 (Int.le_of_lt (Int.pow_pos (by omega)))
      have bk1 : b / 2 ^ k ≤ 18446744073709551615 := Int.le_trans (Int.ediv_le_self _ b0) b1
      have hor := or_shift rest (b / 2 ^ k) bk bk1
      have htop := or_top q k q0 (by omega) q1
      rw [← hq] at htop
      have Htop := Lib.hid htop
      have Hor := Lib.hid hor
      have Hst := Lib.hid hst
      clear hq q0 q1 htop hst bk bk1
      by_cases ht : 9223372036854775808 ≤ rest
      · clear hor
        go_wp2_with fail
        go_round
        case rel =>
          refine ⟨k, _, _, by omega, rfl, rfl, by rfl, ?_⟩
          rw [Htop.out, Hor.out]
          have e : IntKind.u64.wrap (rest * 2 % 18446744073709551616 + b / 2 ^ k % 2 - d) = 2 * rest + b / 2 ^ k % 2 - d := by
            rw [IntKind.wrap_u64]
            omega
          rw [e]
          exact Hst.out.1 (by omega)
        case measure => simp [intOf]
      · have e1 : IntKind.u64.wrap (rest * 2) = rest * 2 := u64_in _ (by omega) (by omega)
        rw [e1, show rest * 2 % 18446744073709551616 = rest * 2 from by omega] at hor
        clear e1
        by_cases hd : d ≤ rest * 2 + b / 2 ^ k % 2
        · have hd2 : d ≤ bits .or .u64 (rest * 2) (bits .and .u64 (b / 2 ^ k) 1) := by rw [hor]; exact hd
          have hd3 : bits .or .u64 (rest * 2) (bits .and .u64 (b / 2 ^ k) 1) ≤ 18446744073709551615 := by rw [hor]; omega
          have Hor2 := Lib.hid hor
          clear hor
          go_wp2_with fail
          go_round
          case rel =>
            refine ⟨k, _, _, by omega, rfl, rfl, by rfl, ?_⟩
            rw [Htop.out, Hor2.out, show rest * 2 + b / 2 ^ k % 2 - d = 2 * rest + b / 2 ^ k % 2 - d from by omega]
            exact Hst.out.1 (by omega)
          case measure => simp [intOf]
        · have hd2 : ¬ d ≤ bits .or .u64 (rest * 2) (bits .and .u64 (b / 2 ^ k) 1) := by rw [hor]; exact hd
          have Hor2 := Lib.hid hor
          clear hor
          go_wp2_with fail
          go_round
          case rel =>
            refine ⟨k, _, _, by omega, rfl, rfl, by rfl, ?_⟩
            rw [Hor2.out, show rest * 2 + b / 2 ^ k % 2 = 2 * rest + b / 2 ^ k % 2 from by omega]
            exact Hst.out.2 (by omega)
          case measure => simp [intOf]
    · have hz : i = 0 := by omega
      subst hz
      obtain ⟨f1, f2⟩ := HI.out.last
      have F1 := Lib.hid f1
      have F2 := Lib.hid f2
      clear f1 f2 hq q0 q1
      go_wp2_with fail
      go_returns
      rw [F1.out, F2.out]
      exact ⟨rfl, by go_grown⟩

end Go.Proofs.Ytadohkidfkbncaa
