/-
  The walks of wide and root: products of 128 bits, quotients, square roots, fractions.
-/
import Derived.Test.YtadohkidfkbncaaBase
namespace Go.Proofs.Ytadohkidfkbncaa
open Go.RowKit
set_option linter.unusedSimpArgs false

set_option maxHeartbeats 400000 in
theorem mul_c (a b : Int) (w : World) (h1 : 0 ≤ a) (h2 : a ≤ 18446744073709551615) (h3 : 0 ≤ b) (h4 : b ≤ 18446744073709551615) :
    Calls Try.prog 60 #[.int .u64 a, .int .u64 b] w fun e w' => e = .returned (.agg #[.int .u64 (a * b / 18446744073709551616), .int .u64 (a * b % 18446744073709551616)]) ∧ Below w.heap.size w w' := by
  have e1 := Lib.hid (mulHi_eq a b h1 h2 h3 h4)
  have e2 : Hid (IntKind.u64.wrap (a * b) = a * b % 18446744073709551616) := IntKind.wrap_u64 _
  go_enter Try.func60, Try.ntmps60
  go_wp2
  go_returns
  rw [e2.out]
  exact ⟨by rw [← e1.out]; rfl, by go_grown⟩

/-- Pairs compared: high halves first. -/
def pcmp (a b c d : Int) : Int := if a < c ∨ a = c ∧ b < d then -1 else if a = c ∧ b = d then 0 else 1

theorem paircmp_c (a b c d : Int) (w : World) :
    Calls Try.prog 64 #[.agg #[.int .u64 a, .int .u64 b], .agg #[.int .u64 c, .int .u64 d]] w fun e w' => e = .returned (.int .i64 (pcmp a b c d)) ∧ Below w.heap.size w w' := by
  by_cases h1 : a < c
  · go_enter Try.func64, Try.ntmps64
    go_wp2
    go_returns
    rw [show pcmp a b c d = -1 from if_pos (.inl h1)]; exact ⟨rfl, by go_grown⟩
  by_cases h2 : a = c
  · subst h2
    by_cases h3 : b < d
    · go_enter Try.func64, Try.ntmps64
      go_wp2
      go_returns
      rw [show pcmp a b a d = -1 from if_pos (.inr ⟨rfl, h3⟩)]; exact ⟨rfl, by go_grown⟩
    by_cases h4 : b = d
    · subst h4
      go_enter Try.func64, Try.ntmps64
      go_wp2
      go_returns
      rw [show pcmp a b a b = 0 from (if_neg (by omega)).trans (if_pos ⟨rfl, rfl⟩)]; exact ⟨rfl, by go_grown⟩
    · have h4' : (b == d) = false := by simpa using h4
      go_enter Try.func64, Try.ntmps64
      go_wp2
      go_returns
      rw [show pcmp a b a d = 1 from (if_neg (by omega)).trans (if_neg (by omega))]; exact ⟨rfl, by go_grown⟩
  · have h2' : (a == c) = false := by simpa using h2
    go_enter Try.func64, Try.ntmps64
    go_wp2
    go_returns
    rw [show pcmp a b c d = 1 from (if_neg (by omega)).trans (if_neg (by omega))]; exact ⟨rfl, by go_grown⟩

/-- Numbers compared. -/
def cmpI (x y : Int) : Int := if x < y then -1 else if x = y then 0 else 1

theorem pcmp_split (x y : Int) : pcmp (x / 18446744073709551616) (x % 18446744073709551616) (y / 18446744073709551616) (y % 18446744073709551616) = cmpI x y := by
  unfold pcmp cmpI
  by_cases h : x < y
  · rw [if_pos h, if_pos (by omega)]
  · rw [if_neg h, if_neg (by omega)]
    by_cases h2 : x = y
    · subst h2; rw [if_pos ⟨rfl, rfl⟩, if_pos rfl]
    · rw [if_neg h2, if_neg (by omega)]

theorem less_c (a b c d : Int) (w : World) (a0 : 0 ≤ a) (a1 : a ≤ 9223372036854775807) (b0 : 0 ≤ b) (b1 : b ≤ 9223372036854775807) (c0 : 0 ≤ c) (c1 : c ≤ 9223372036854775807) (d0 : 0 ≤ d) (d1 : d ≤ 9223372036854775807) :
    Calls Try.prog 42 #[.int .i64 a, .int .i64 b, .int .i64 c, .int .i64 d] w fun e w' => e = .returned (.int .i64 (cmpI (a * d) (c * b))) ∧ Below w.heap.size w w' := by
  have E := Lib.hid (pcmp_split (a * d) (c * b))
  go_enter Try.func42, Try.ntmps42
  go_wp2_with fail
  go_call mul_c a d _ a0 (by omega) d0 (by omega) as e w1 ⟨rfl, hb1⟩
  go_wp2_with fail
  go_call mul_c c b _ c0 (by omega) b0 (by omega) as e w2 ⟨rfl, hb2⟩
  go_wp2_with fail
  go_call paircmp_c _ _ _ _ _ as e w3 ⟨rfl, hb3⟩
  rw [E.out]
  go_wp2_with fail
  go_returns
  exact ⟨rfl, below_var (below_var hb1 hb1.size hb2) (Nat.le_trans hb1.size hb2.size) hb3⟩

theorem cmp_c (a b c d : Int) (w : World) (a0 : 0 ≤ a) (a1 : a ≤ 9223372036854775807) (b0 : 0 ≤ b) (b1 : b ≤ 9223372036854775807) (c0 : 0 ≤ c) (c1 : c ≤ 9223372036854775807) (d0 : 0 ≤ d) (d1 : d ≤ 9223372036854775807) :
    Calls Try.prog 15 #[.agg #[.int .i64 a, .int .i64 b], .agg #[.int .i64 c, .int .i64 d]] w fun e w' => e = .returned (.int .i64 (cmpI (a * d) (c * b))) ∧ Below w.heap.size w w' := by
  go_enter Try.func15, Try.ntmps15
  go_wp2_with fail
  go_call less_c a b c d _ a0 a1 b0 b1 c0 c1 d0 d1 as e w1 ⟨rfl, hb1⟩
  go_wp2_with fail
  go_returns
  exact ⟨rfl, below_var (by go_grown) (by simp; omega) hb1⟩

/-- What the search for a square root holds between two rounds. -/
def SqInv (n lo hi : Int) : Prop := 0 ≤ lo ∧ lo < hi ∧ hi ≤ 3037000500 ∧ lo * lo ≤ n ∧ n < hi * hi

theorem SqInv.up {n lo hi m : Int} (h : SqInv n lo hi) (h1 : lo < m) (h2 : m < hi) (hm : m * m ≤ n) : SqInv n m hi := by
  obtain ⟨a, b, c, d, e⟩ := h
  exact ⟨by omega, h2, c, hm, e⟩
theorem SqInv.down {n lo hi m : Int} (h : SqInv n lo hi) (h1 : lo < m) (h2 : m < hi) (hm : n < m * m) : SqInv n lo m := by
  obtain ⟨a, b, c, d, e⟩ := h
  exact ⟨a, h1, by omega, d, hm⟩
theorem SqInv.done {n lo hi : Int} (h : SqInv n lo hi) (h0 : 0 ≤ n) (h1 : hi - 1 ≤ lo) : isqrt n = lo := by
  obtain ⟨a, b, c, d, e⟩ := h
  obtain rfl : hi = lo + 1 := by omega
  exact isqrt_eq h0 a d e

theorem sqrt_c (n : Int) (w : World) (h1 : n ≤ 9223372030926249000) :
    Calls Try.prog 62 #[.int .i64 n] w fun e w' => e = .returned (.int .i64 (isqrt n)) ∧ w = w' := by
  by_cases hn : 0 < n
  · go_enter Try.func62, Try.ntmps62
    go_wp2_with fail
    go_loop [3, 4] (fun lo hi => ∃ l h : Int, lo = .int .i64 l ∧ hi = .int .i64 h ∧ SqInv n l h) (fun lo hi => (intOf hi - intOf lo).toNat)
    case atStart => exact ⟨0, 3037000500, rfl, rfl, by omega, by omega, by omega, by omega, by omega⟩
    case round =>
      obtain ⟨l, h, rfl, rfl, hi⟩ := hrel
      have HI := Lib.hid hi
      obtain ⟨a1, a2, a3, a4, a5⟩ := hi
      clear a4 a5
      by_cases hlt : l < h - 1
      · obtain ⟨b1, b2⟩ := sq_mid a1 a3 hlt
        by_cases hm : (l + h) / 2 * ((l + h) / 2) ≤ n
        · have HU := Lib.hid (HI.out.up (by omega) (by omega) hm)
          go_wp2_with fail
          go_round
          case rel => exact ⟨_, _, rfl, rfl, HU.out⟩
          case measure => simp [intOf]; omega
        · have HU := Lib.hid (HI.out.down (m := (l + h) / 2) (by omega) (by omega) (by omega))
          go_wp2_with fail
          go_round
          case rel => exact ⟨_, _, rfl, rfl, HU.out⟩
          case measure => simp [intOf]; omega
      · have HD := Lib.hid (HI.out.done (by omega) (by omega))
        go_wp2_with fail
        go_ret
        rw [HD.out]
        exact ⟨rfl, rfl⟩
  · have HD := Lib.hid (isqrt_zero (show n ≤ 0 by omega))
    go_enter Try.func62, Try.ntmps62
    go_wp2_with fail
    refine wp_loop_rounds 1 ?_
    rw [rounds_succ]
    go_wp2_with fail
    go_ret
    rw [HD.out]
    exact ⟨rfl, rfl⟩

end Go.Proofs.Ytadohkidfkbncaa
