/-
  Plain arithmetic: products of 128 bits by halves of 32 bits, masks.
-/
import Derived.WalkKit
namespace Go.Proofs.Ytadohkidfkbncaa
open Go.RowKit
set_option linter.unusedSimpArgs false

theorem ofInt_u64 (a : Nat) (ha : a < 18446744073709551616) : (BitVec.ofInt 64 (a : Int)).toNat = a := by
  rw [BitVec.ofInt_natCast, BitVec.toNat_ofNat]; exact Nat.mod_eq_of_lt (by omega)

theorem u64_and_nat (a b : Nat) (ha : a < 18446744073709551616) (hb : b < 18446744073709551616) : bits .and .u64 (a : Int) (b : Int) = ((a &&& b : Nat) : Int) := by
  have hx : a &&& b < 2 ^ 64 := Nat.and_lt_two_pow _ (by omega)
  show IntKind.u64.wrap ((BitVec.ofInt 64 (a : Int) &&& BitVec.ofInt 64 (b : Int)).toNat : Int) = _
  rw [BitVec.toNat_and, ofInt_u64 a ha, ofInt_u64 b hb, IntKind.wrap_u64]
  omega

theorem u64_or_nat (a b : Nat) (ha : a < 18446744073709551616) (hb : b < 18446744073709551616) : bits .or .u64 (a : Int) (b : Int) = ((a ||| b : Nat) : Int) := by
  have hx : a ||| b < 2 ^ 64 := Nat.or_lt_two_pow (by omega) (by omega)
  show IntKind.u64.wrap ((BitVec.ofInt 64 (a : Int) ||| BitVec.ofInt 64 (b : Int)).toNat : Int) = _
  rw [BitVec.toNat_or, ofInt_u64 a ha, ofInt_u64 b hb, IntKind.wrap_u64]
  omega

theorem and_mask (x : Int) (h0 : 0 ≤ x) (h1 : x < 18446744073709551616) : bits .and .u64 x 4294967295 = x % 4294967296 := by
  obtain ⟨n, rfl⟩ := Int.eq_ofNat_of_zero_le h0
  have e := u64_and_nat n 4294967295 (by omega) (by omega)
  have e2 : n &&& 4294967295 = n % 4294967296 := Nat.and_two_pow_sub_one_eq_mod n 32
  rw [e2] at e
  exact e.trans (by omega)

theorem and_one (x : Int) (h0 : 0 ≤ x) (h1 : x < 18446744073709551616) : bits .and .u64 x 1 = x % 2 := by
  obtain ⟨n, rfl⟩ := Int.eq_ofNat_of_zero_le h0
  have e := u64_and_nat n 1 (by omega) (by omega)
  have e2 : n &&& 1 = n % 2 := Nat.and_two_pow_sub_one_eq_mod n 1
  rw [e2] at e
  exact e.trans (by omega)

theorem u64_in (x : Int) (h0 : 0 ≤ x) (h1 : x < 18446744073709551616) : IntKind.u64.wrap x = x := by
  rw [IntKind.wrap_u64]; omega

/-- The high half of a product, as the code computes it. -/
def mulHi (a b : Int) : Int :=
  IntKind.u64.wrap
                (IntKind.u64.wrap
                    (IntKind.u64.wrap
                        (IntKind.u64.wrap (a / 4294967296 * (b / 4294967296)) +
                          IntKind.u64.wrap (a / 4294967296 * bits BinOp.and IntKind.u64 b 4294967295) / 4294967296) +
                      IntKind.u64.wrap (bits BinOp.and IntKind.u64 a 4294967295 * (b / 4294967296)) / 4294967296) +
                  IntKind.u64.wrap
                      (IntKind.u64.wrap
                          (IntKind.u64.wrap
                                (bits BinOp.and IntKind.u64 a 4294967295 * bits BinOp.and IntKind.u64 b 4294967295) /
                              4294967296 +
                            bits BinOp.and IntKind.u64
                              (IntKind.u64.wrap (a / 4294967296 * bits BinOp.and IntKind.u64 b 4294967295))
                              4294967295) +
                        bits BinOp.and IntKind.u64
                          (IntKind.u64.wrap (bits BinOp.and IntKind.u64 a 4294967295 * (b / 4294967296))) 4294967295) /
                    4294967296)

theorem mul_bd {a b A B : Int} (h0 : 0 ≤ a) (h1 : a ≤ A) (h2 : 0 ≤ b) (h3 : b ≤ B) : 0 ≤ a * b ∧ a * b ≤ A * B :=
  ⟨Int.mul_nonneg h0 h2, Int.mul_le_mul h1 h3 h2 (by omega)⟩

theorem mulHi_eq (a b : Int) (h1 : 0 ≤ a) (h2 : a ≤ 18446744073709551615) (h3 : 0 ≤ b) (h4 : b ≤ 18446744073709551615) : mulHi a b = a * b / 18446744073709551616 := by
  unfold mulHi
  rw [and_mask a h1 (by omega), and_mask b h3 (by omega)]
  have ea : a = 4294967296 * (a / 4294967296) + a % 4294967296 := by omega
  have eb : b = 4294967296 * (b / 4294967296) + b % 4294967296 := by omega
  have a1 : 0 ≤ a / 4294967296 ∧ a / 4294967296 ≤ 4294967295 := by omega
  have a0 : 0 ≤ a % 4294967296 ∧ a % 4294967296 ≤ 4294967295 := by omega
  have b1 : 0 ≤ b / 4294967296 ∧ b / 4294967296 ≤ 4294967295 := by omega
  have b0 : 0 ≤ b % 4294967296 ∧ b % 4294967296 ≤ 4294967295 := by omega
  generalize a / 4294967296 = x1 at *
  generalize a % 4294967296 = x0 at *
  generalize b / 4294967296 = y1 at *
  generalize b % 4294967296 = y0 at *
  have e : a * b = 18446744073709551616 * (x1 * y1) + 4294967296 * (x1 * y0) + 4294967296 * (x0 * y1) + x0 * y0 := by
    rw [ea, eb]
    simp only [Int.add_mul, Int.mul_add]
    have t1 : 4294967296 * x1 * (4294967296 * y1) = 18446744073709551616 * (x1 * y1) := by
      rw [Int.mul_assoc, Int.mul_left_comm x1, ← Int.mul_assoc]; rfl
    have t2 : x0 * (4294967296 * y1) = 4294967296 * (x0 * y1) := by rw [Int.mul_left_comm]
    have t3 : 4294967296 * x1 * y0 = 4294967296 * (x1 * y0) := by rw [Int.mul_assoc]
    omega
  have c1 := mul_bd a1.1 a1.2 b1.1 b1.2
  have c2 := mul_bd a1.1 a1.2 b0.1 b0.2
  have c3 := mul_bd a0.1 a0.2 b1.1 b1.2
  have c4 := mul_bd a0.1 a0.2 b0.1 b0.2
  rw [e]
  generalize x1 * y1 = p at *
  generalize x1 * y0 = q at *
  generalize x0 * y1 = r at *
  generalize x0 * y0 = s at *
  rw [u64_in p (by omega) (by omega), u64_in q (by omega) (by omega), u64_in r (by omega) (by omega), u64_in s (by omega) (by omega)]
  rw [and_mask q (by omega) (by omega), and_mask r (by omega) (by omega)]
  rw [u64_in (p + q / 4294967296) (by omega) (by omega), u64_in (s / 4294967296 + q % 4294967296) (by omega) (by omega)]
  rw [u64_in (p + q / 4294967296 + r / 4294967296) (by omega) (by omega), u64_in (s / 4294967296 + q % 4294967296 + r % 4294967296) (by omega) (by omega)]
  rw [u64_in _ (by omega) (by omega)]
  omega

/-- The square root, rounded down. -/
def isqrtN : Nat → Nat
  | 0 => 0
  | n + 1 => if (isqrtN n + 1) * (isqrtN n + 1) ≤ n + 1 then isqrtN n + 1 else isqrtN n

theorem isqrtN_spec : ∀ n, isqrtN n * isqrtN n ≤ n ∧ n < (isqrtN n + 1) * (isqrtN n + 1)
  | 0 => by simp [isqrtN]
  | n + 1 => by
    obtain ⟨h1, h2⟩ := isqrtN_spec n
    simp only [isqrtN]
    split
    · rename_i h
      refine ⟨h, ?_⟩
      have e : (isqrtN n + 1 + 1) * (isqrtN n + 1 + 1) = (isqrtN n + 1) * (isqrtN n + 1) + 2 * (isqrtN n + 1) + 1 := by simp only [Nat.add_mul, Nat.mul_add]; omega
      omega
    · rename_i h
      exact ⟨by omega, by omega⟩

theorem isqrtN_eq {n r : Nat} (h1 : r * r ≤ n) (h2 : n < (r + 1) * (r + 1)) : isqrtN n = r := by
  obtain ⟨k1, k2⟩ := isqrtN_spec n
  rcases Nat.lt_trichotomy (isqrtN n) r with h | h | h
  · have := Nat.mul_le_mul (show isqrtN n + 1 ≤ r from h) (show isqrtN n + 1 ≤ r from h); omega
  · exact h
  · have := Nat.mul_le_mul (show r + 1 ≤ isqrtN n from h) (show r + 1 ≤ isqrtN n from h); omega

theorem isqrtN_mono {a b : Nat} (h : a ≤ b) : isqrtN a ≤ isqrtN b := by
  obtain ⟨k1, k2⟩ := isqrtN_spec a
  obtain ⟨l1, l2⟩ := isqrtN_spec b
  rcases Nat.lt_or_ge (isqrtN b) (isqrtN a) with h' | h'
  · have := Nat.mul_le_mul (show isqrtN b + 1 ≤ isqrtN a from h') (show isqrtN b + 1 ≤ isqrtN a from h'); omega
  · exact h'

def isqrt (n : Int) : Int := (isqrtN n.toNat : Int)

theorem isqrt_eq {n r : Int} (h0 : 0 ≤ n) (hr : 0 ≤ r) (h1 : r * r ≤ n) (h2 : n < (r + 1) * (r + 1)) : isqrt n = r := by
  obtain ⟨m, rfl⟩ := Int.eq_ofNat_of_zero_le h0
  obtain ⟨q, rfl⟩ := Int.eq_ofNat_of_zero_le hr
  unfold isqrt
  rw [Int.toNat_natCast, isqrtN_eq (r := q)]
  · exact_mod_cast h1
  · exact_mod_cast h2

theorem isqrt_nonneg (n : Int) : 0 ≤ isqrt n := by unfold isqrt; omega
theorem isqrt_zero {n : Int} (h : n ≤ 0) : isqrt n = 0 := by
  unfold isqrt
  rw [Int.toNat_of_nonpos h]; rfl
theorem isqrt_mono {a b : Int} (h : a ≤ b) : isqrt a ≤ isqrt b := by
  unfold isqrt
  have := isqrtN_mono (a := a.toNat) (b := b.toNat) (by omega)
  omega

/-- One step of the search: what is known of the middle. -/
theorem sq_mid {lo hi : Int} (h0 : 0 ≤ lo) (h1 : hi ≤ 3037000500) (h2 : lo < hi - 1) : 0 ≤ (lo + hi) / 2 * ((lo + hi) / 2) ∧ (lo + hi) / 2 * ((lo + hi) / 2) ≤ 9223372030926249001 :=
  mul_bd (A := 3037000499) (B := 3037000499) (by omega) (by omega) (by omega) (by omega)

theorem or_even (x y : Nat) (hx : x % 2 = 0) (hy : y < 2) : x ||| y = x + y := by
  have h := Nat.two_pow_add_eq_or_of_lt (i := 1) (b := y) (by simpa using hy) (x / 2)
  have e : 2 ^ 1 * (x / 2) = x := by simp; omega
  rw [e] at h
  exact h.symm

theorem or_bit (z k : Nat) : (2 ^ (k + 1) * z) ||| 2 ^ k = 2 ^ (k + 1) * z + 2 ^ k :=
  (Nat.two_pow_add_eq_or_of_lt (i := k + 1) (b := 2 ^ k) (by rw [Nat.pow_succ]; have := Nat.two_pow_pos k; omega) z).symm

theorem or_shift (r b : Int) (b0 : 0 ≤ b) (b1 : b ≤ 18446744073709551615) :
    bits .or .u64 (IntKind.u64.wrap (r * 2)) (bits .and .u64 b 1) = (r * 2) % 18446744073709551616 + b % 2 := by
  rw [and_one b b0 (by omega), IntKind.wrap_u64]
  obtain ⟨n, hn⟩ := Int.eq_ofNat_of_zero_le (show 0 ≤ r * 2 % 18446744073709551616 by omega)
  obtain ⟨m, hm⟩ := Int.eq_ofNat_of_zero_le (show 0 ≤ b % 2 by omega)
  rw [hn, hm, u64_or_nat n m (by omega) (by omega), or_even n m (by omega) (by omega)]
  omega

theorem or_top (q : Int) (k : Nat) (q0 : 0 ≤ q) (hk : k ≤ 63) (hq : q * 2 ^ (k + 1) ≤ 18446744073709551615) :
    bits .or .u64 (q * 2 ^ (k + 1)) (IntKind.u64.wrap (2 ^ k)) = q * 2 ^ (k + 1) + 2 ^ k := by
  obtain ⟨z, rfl⟩ := Int.eq_ofNat_of_zero_le q0
  have hk2 : (2 : Nat) ^ k ≤ 9223372036854775808 := Nat.le_trans (Nat.pow_le_pow_right (by decide) hk) (by decide)
  have e1 : (2 : Int) ^ k = ((2 ^ k : Nat) : Int) := by simp
  have e2 : (z : Int) * 2 ^ (k + 1) = ((2 ^ (k + 1) * z : Nat) : Int) := by simp [Int.mul_comm]
  have e3 := or_bit z k
  rw [e2] at hq ⊢
  rw [e1]
  generalize (2 : Nat) ^ k = t at *
  generalize 2 ^ (k + 1) * z = y at *
  rw [u64_in _ (by omega) (by omega), u64_or_nat _ _ (by omega) (by omega), e3]
  omega

/-- What the division holds: i bits are still to come. -/
def DivInv (N d : Int) (i : Nat) (out rest : Int) : Prop := out = N / 2 ^ i / d * 2 ^ i ∧ rest = N / 2 ^ i % d

theorem two_step (X d : Int) (hd : 1 ≤ d) :
    (d ≤ 2 * (X / 2 % d) + X % 2 → X / d = 2 * (X / 2 / d) + 1 ∧ X % d = 2 * (X / 2 % d) + X % 2 - d) ∧
    (¬ d ≤ 2 * (X / 2 % d) + X % 2 → X / d = 2 * (X / 2 / d) ∧ X % d = 2 * (X / 2 % d) + X % 2) := by
  have e0 : X = 2 * (X / 2) + X % 2 := by omega
  have e1 : X / 2 = d * (X / 2 / d) + X / 2 % d := (Int.mul_ediv_add_emod (X / 2) d).symm
  have r0 := Int.emod_nonneg (X / 2) (show d ≠ 0 by omega)
  have r1 := Int.emod_lt_of_pos (X / 2) (show 0 < d by omega)
  have b0 : 0 ≤ X % 2 ∧ X % 2 ≤ 1 := by omega
  generalize X / 2 % d = r at *
  generalize X / 2 / d = q at *
  generalize X % 2 = b at *
  generalize X / 2 = m at *
  refine ⟨fun h => ?_, fun h => ?_⟩
  · have e : X = (2 * r + b - d) + d * (2 * q + 1) := by
      have : d * (2 * q + 1) = 2 * (d * q) + d := by rw [Int.mul_add, Int.mul_left_comm]; omega
      omega
    have := (Int.ediv_emod_unique (a := X) (b := d) (r := 2 * r + b - d) (q := 2 * q + 1) (by omega)).2 ⟨e.symm, by omega, by omega⟩
    exact this
  · have e : X = (2 * r + b) + d * (2 * q) := by
      have : d * (2 * q) = 2 * (d * q) := by rw [Int.mul_left_comm]
      omega
    have := (Int.ediv_emod_unique (a := X) (b := d) (r := 2 * r + b) (q := 2 * q) (by omega)).2 ⟨e.symm, by omega, by omega⟩
    exact this

theorem half_pow (N : Int) (k : Nat) : N / 2 ^ (k + 1) = N / 2 ^ k / 2 := by
  rw [Int.pow_succ, Int.ediv_ediv_of_nonneg]
  exact Int.le_of_lt (Int.pow_pos (by omega))

theorem low_bit (a b : Int) (k : Nat) (hk : k ≤ 63) : (a * 18446744073709551616 + b) / 2 ^ k % 2 = b / 2 ^ k % 2 := by
  obtain ⟨j, hj⟩ : ∃ j, 63 = k + j := ⟨63 - k, by omega⟩
  have e : (18446744073709551616 : Int) = 2 ^ k * (2 ^ j * 2) := by
    rw [← Int.mul_assoc, ← Int.pow_add, ← hj]; rfl
  have p : (2 : Int) ^ k ≠ 0 := Int.ne_of_gt (Int.pow_pos (by omega))
  rw [e, show a * (2 ^ k * (2 ^ j * 2)) + b = b + a * 2 ^ j * 2 * 2 ^ k by
    rw [Int.add_comm]; congr 1; simp only [Int.mul_left_comm, Int.mul_comm], Int.add_mul_ediv_right _ _ p]
  omega

theorem DivInv.start {a b d : Int} (a0 : 0 ≤ a) (a1 : a < d) (b0 : 0 ≤ b) (b1 : b ≤ 18446744073709551615) : DivInv (a * 18446744073709551616 + b) d 64 0 a := by
  have e : (a * 18446744073709551616 + b) / 2 ^ 64 = a := by
    show (a * 18446744073709551616 + b) / 18446744073709551616 = a
    omega
  refine ⟨?_, ?_⟩
  · rw [e, Int.ediv_eq_zero_of_lt a0 a1, Int.zero_mul]
  · rw [e, Int.emod_eq_of_lt a0 a1]

theorem DivInv.step {a b d out rest : Int} {k : Nat} (h : DivInv (a * 18446744073709551616 + b) d (k + 1) out rest) (hd : 1 ≤ d) (hk : k ≤ 63) :
    (d ≤ 2 * rest + b / 2 ^ k % 2 → DivInv (a * 18446744073709551616 + b) d k (out + 2 ^ k) (2 * rest + b / 2 ^ k % 2 - d)) ∧
    (¬ d ≤ 2 * rest + b / 2 ^ k % 2 → DivInv (a * 18446744073709551616 + b) d k out (2 * rest + b / 2 ^ k % 2)) := by
  unfold DivInv at *
  obtain ⟨h1, h2⟩ := h
  have hb := low_bit a b k hk
  rw [half_pow] at h1 h2
  have hs := two_step ((a * 18446744073709551616 + b) / 2 ^ k) d hd
  generalize (a * 18446744073709551616 + b) / 2 ^ k = X at *
  rw [hb, ← h2] at hs
  have hp : (2 : Int) ^ (k + 1) = 2 * 2 ^ k := by rw [Int.pow_succ, Int.mul_comm]
  have hp2 : out = 2 * (X / 2 / d) * 2 ^ k := by rw [h1, hp, ← Int.mul_assoc, Int.mul_comm (X / 2 / d) 2]
  refine ⟨fun h => ?_, fun h => ?_⟩
  · obtain ⟨s1, s2⟩ := hs.1 h
    rw [s1, s2, Int.add_mul, ← hp2, Int.one_mul]
    exact ⟨rfl, rfl⟩
  · obtain ⟨s1, s2⟩ := hs.2 h
    rw [s1, s2, ← hp2]
    exact ⟨rfl, rfl⟩

/-- What the round may know of what it holds. -/
theorem DivInv.bounds {a b d out rest : Int} {i : Nat} (h : DivInv (a * 18446744073709551616 + b) d i out rest) (a0 : 0 ≤ a) (a1 : a < d) (b0 : 0 ≤ b) (b1 : b ≤ 18446744073709551615) :
    0 ≤ rest ∧ rest < d ∧ ∃ q, out = q * 2 ^ i ∧ 0 ≤ q ∧ q * 2 ^ i ≤ 18446744073709551615 := by
  obtain ⟨h1, h2⟩ := h
  have hp : (0 : Int) < 2 ^ i := Int.pow_pos (by omega)
  have hN : 0 ≤ a * 18446744073709551616 + b := by omega
  refine ⟨?_, ?_, _, h1, ?_, ?_⟩
  · rw [h2]; exact Int.emod_nonneg _ (by omega)
  · rw [h2]; exact Int.emod_lt_of_pos _ (by omega)
  · exact Int.ediv_nonneg (Int.ediv_nonneg hN (Int.le_of_lt hp)) (by omega)
  · have e1 : (a * 18446744073709551616 + b) / 2 ^ i / d = (a * 18446744073709551616 + b) / d / 2 ^ i := by
      rw [Int.ediv_ediv_of_nonneg (Int.le_of_lt hp), Int.ediv_ediv_of_nonneg (by omega), Int.mul_comm (2 ^ i) d]
    rw [e1]
    have h3 := Int.ediv_mul_le ((a * 18446744073709551616 + b) / d) (Int.ne_of_gt hp)
    have h4 : (a * 18446744073709551616 + b) / d < 18446744073709551616 := by
      refine Int.ediv_lt_of_lt_mul (by omega) ?_
      omega
    omega

theorem DivInv.last {a b d out rest : Int} (h : DivInv (a * 18446744073709551616 + b) d 0 out rest) :
    out = (a * 18446744073709551616 + b) / d ∧ rest = (a * 18446744073709551616 + b) % d := by
  unfold DivInv at h
  simpa using h

/-- What the search for the greatest common divisor holds. -/
def GcdInv (n d a b : Int) : Prop := 0 ≤ a ∧ a ≤ 9223372036854775807 ∧ 0 ≤ b ∧ b ≤ 9223372036854775807 ∧ Int.gcd a b = Int.gcd n d

theorem GcdInv.step {n d a b : Int} (h : GcdInv n d a b) (hb : 0 < b) : GcdInv n d b (a % b) := by
  obtain ⟨h1, h2, h3, h4, h5⟩ := h
  have r0 := Int.emod_nonneg a (show b ≠ 0 by omega)
  have r1 := Int.emod_lt_of_pos a hb
  refine ⟨h3, h4, r0, by omega, ?_⟩
  rw [← h5]
  obtain ⟨x, rfl⟩ := Int.eq_ofNat_of_zero_le h1
  obtain ⟨y, rfl⟩ := Int.eq_ofNat_of_zero_le h3
  rw [← Int.natCast_emod, Int.gcd_natCast_natCast, Int.gcd_natCast_natCast, Nat.gcd_comm x y, Nat.gcd_rec y x, Nat.gcd_comm]

theorem GcdInv.last {n d a b : Int} (h : GcdInv n d a b) (hb : b ≤ 0) : a = (Int.gcd n d : Int) := by
  obtain ⟨h1, h2, h3, h4, h5⟩ := h
  obtain rfl : b = 0 := by omega
  rw [Int.gcd_zero_right] at h5
  omega

theorem floor_neg {a b : Int} (hb : 1 ≤ b) (h : a.tmod b < 0) : a.tdiv b - 1 = a / b := by
  have h1 : ¬ (0 ≤ a ∨ b ∣ a) := by
    rintro (h2 | h2)
    · have := Int.tmod_nonneg b h2; omega
    · rw [Int.tmod_eq_zero_of_dvd h2] at h; omega
  rw [Int.tdiv_eq_ediv, if_neg h1, Int.sign_eq_one_of_pos (by omega)]
  omega

theorem floor_pos {a b : Int} (h : 0 ≤ a.tmod b) : a.tdiv b = a / b := by
  have h1 : 0 ≤ a ∨ b ∣ a := by
    rcases Int.lt_or_le a 0 with h2 | h2
    · right
      have h3 : a.tmod b ≤ 0 := by
        have := Int.tmod_nonneg b (show 0 ≤ -a by omega)
        rw [Int.neg_tmod] at this; omega
      exact Int.dvd_of_tmod_eq_zero (by omega)
    · exact .inl h2
  rw [Int.tdiv_eq_ediv, if_pos h1]; omega

theorem hi_lt {x d : Int} (x0 : 0 ≤ x) (d0 : 1 ≤ d) (h : x / d ≤ 4611686018427387904) : x / 18446744073709551616 < d := by
  have h1 := Int.lt_ediv_add_one_mul_self x (show 0 < d by omega)
  refine Int.ediv_lt_of_lt_mul (by omega) ?_
  have h2 : (x / d + 1) * d ≤ 4611686018427387905 * d := Int.mul_le_mul_of_nonneg_right (by omega) (by omega)
  omega

/-- A number lies between -M and M. -/
def Bd (M : Int) (x : Int) : Prop := -M ≤ x ∧ x ≤ M

theorem Bd.mul {A B x y : Int} (hx : Bd A x) (hy : Bd B y) : Bd (A * B) (x * y) := by
  obtain ⟨x1, x2⟩ := hx
  obtain ⟨y1, y2⟩ := hy
  have hA : 0 ≤ A := by omega
  have hB : 0 ≤ B := by omega
  have key : ∀ a b : Int, 0 ≤ a → a ≤ A → 0 ≤ b → b ≤ B → 0 ≤ a * b ∧ a * b ≤ A * B := fun a b h1 h2 h3 h4 => mul_bd h1 h2 h3 h4
  have hAB : 0 ≤ A * B := Int.mul_nonneg hA hB
  rcases Int.le_total 0 x with h | h <;> rcases Int.le_total 0 y with k | k
  · have := key x y h x2 k y2; exact ⟨by omega, by omega⟩
  · have := key x (-y) h x2 (by omega) (by omega)
    rw [Int.mul_neg] at this; exact ⟨by omega, by omega⟩
  · have := key (-x) y (by omega) (by omega) k y2
    rw [Int.neg_mul] at this; exact ⟨by omega, by omega⟩
  · have := key (-x) (-y) (by omega) (by omega) (by omega) (by omega)
    rw [Int.neg_mul_neg] at this; exact ⟨by omega, by omega⟩

theorem Bd.mono {A B x : Int} (h : Bd A x) (hAB : A ≤ B) : Bd B x := ⟨by have := h.1; omega, by have := h.2; omega⟩

end Go.Proofs.Ytadohkidfkbncaa
