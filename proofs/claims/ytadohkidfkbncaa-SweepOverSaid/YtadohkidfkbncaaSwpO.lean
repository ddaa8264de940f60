/-
  The second plain law of the sweep: what it writes lies no nearer than what the exact field holds.
-/
import Derived.Test.YtadohkidfkbncaaSwpQ
import Derived.Test.YtadohkidfkbncaaSwpM
import Derived.Test.YtadohkidfkbncaaField
namespace Go.Proofs.Ytadohkidfkbncaa
open Go.RowKit

theorem best_le {P : Nat → Bool} {es : List Edg} {x y : Int} (hf : ∀ k : Nat, k < es.length → 1 ≤ (sqAt es x y k).2) : ∀ i, i ≤ es.length → ∀ k, k < i → P k = true → 0 ≤ bestIx P es x y i ∧ fle (sqAt es x y (bestIx P es x y i)) (sqAt es x y k)
  | 0, _, k, hk, _ => by omega
  | i + 1, hi, k, hk, hP => by
    have ih := best_le (P := P) hf i (by omega)
    have hb := bestIx_bd P es x y i
    rw [bestIx]
    by_cases hc : P i = true ∧ (bestIx P es x y i < 0 ∨ ¬ fle (sqAt es x y (bestIx P es x y i)) (sqAt es x y i))
    · rw [if_pos hc]
      refine ⟨by omega, ?_⟩
      by_cases e : k = i
      · subst e; exact fle_refl _
      · obtain ⟨h0, h1⟩ := ih k (by omega) hP
        rcases hc.2 with h2 | h2
        · omega
        · obtain ⟨m, hm⟩ := Int.eq_ofNat_of_zero_le h0
          rw [hm] at h1 h2
          exact fle_trans (hf m (by omega)) (hf i (by omega)) (hf k (by omega)) (not_fle h2) h1
    · rw [if_neg hc]
      by_cases e : k = i
      · subst e
        refine ⟨?_, ?_⟩
        · rcases Int.lt_or_le (bestIx P es x y k) 0 with h | h
          · exact absurd ⟨hP, .inl h⟩ hc
          · exact h
        · by_cases h : fle (sqAt es x y (bestIx P es x y k)) (sqAt es x y k)
          · exact h
          · exact absurd ⟨hP, .inr h⟩ hc
      · exact ih k (by omega) hP

theorem near_le {es : List Edg} {x y : Int} (hf : ∀ k : Nat, k < es.length → 1 ≤ (sqAt es x y k).2) {v : Int} (h0 : 0 ≤ v) (h1 : v < es.length) : fle (nearSq es x y) (sqAt es x y v) := by
  obtain ⟨m, rfl⟩ := Int.eq_ofNat_of_zero_le h0
  obtain ⟨a, b⟩ := best_le (P := allT) hf es.length (Nat.le_refl _) m (by omega) rfl
  unfold nearSq bestSq
  rw [if_neg (by omega)]
  exact b

theorem fle_eight {a b : Int × Int} (ha : 1 ≤ a.2) (hb : 1 ≤ b.2) (h : fle a b) : a.1 * 64 / a.2 ≤ b.1 * 64 / b.2 := by
  refine Int.le_ediv_of_mul_le (by omega) ?_
  have h1 : a.1 * 64 / a.2 * a.2 ≤ a.1 * 64 := Int.ediv_mul_le _ (by omega)
  unfold fle at h
  refine Int.le_of_mul_le_mul_right (a := a.2) ?_ (by omega)
  have h2 : a.1 * 64 / a.2 * a.2 * b.2 ≤ a.1 * 64 * b.2 := Int.mul_le_mul_of_nonneg_right h1 (by omega)
  rw [Int.mul_right_comm] at h2
  have e1 : a.1 * 64 * b.2 = a.1 * b.2 * 64 := Int.mul_right_comm _ _ _
  have e2 : b.1 * 64 * a.2 = b.1 * a.2 * 64 := Int.mul_right_comm _ _ _
  omega

theorem codeN_mono {s a b : Int} (hs : 1 ≤ s) (h0 : 0 ≤ a) (h : a ≤ b) : codeN s a ≤ codeN s b := by
  have hb := (codeN_bd hs (show 0 ≤ a by omega)).2
  unfold codeN at *
  by_cases h1 : b < 256 * s
  · rw [if_pos h1, if_pos (by omega)]
    exact Int.ediv_le_ediv (by omega) (by omega)
  · rw [if_neg h1]; exact hb

/-- The two codes of a texel. -/
theorem over_code {es : List Edg} {g : Grd} (hg : g.ok) (hok : ∀ e ∈ es, e.ok) {x : Int × Int} (hi : inG g x.1 x.2) :
    ∃ sg a b : Int, swTex es g (knownE es g) x = 128 + sg * a ∧ texE es g x.1 x.2 = 128 + sg * b ∧ -1 ≤ sg ∧ sg ≤ 1 ∧ 0 ≤ b ∧ b ≤ a ∧ a ≤ 127 := by
  obtain ⟨s1, s2⟩ := hg.2.2.2.2.2
  by_cases hne : es = []
  · have h0 : es.length = 0 := by rw [hne]; rfl
    have hneg : getI (knownE es g) (ixOf g x.1 x.2) < 0 := by
      have := getI_lt (knownE_kn es g) (ixOf g x.1 x.2)
      omega
    unfold swTex texE
    rw [if_pos hneg, if_pos h0]
    have := codeN_bd (s := g.s) (e := 256 * g.s) (by omega) (by omega)
    exact ⟨-1, _, _, rfl, rfl, by omega, by omega, this.1, Int.le_refl _, this.2⟩
  · have hlen : 0 < es.length := List.length_pos_iff.2 hne
    obtain ⟨hk, _⟩ := known_all hg hok hne hi
    unfold Kd at hk
    have hlt := getI_lt (knownE_kn es g) (ixOf g x.1 x.2)
    have h0 : ¬ es.length = 0 := by omega
    unfold swTex texE eightE
    rw [if_neg (by omega), if_neg h0, if_neg h0]
    have hf : ∀ k : Nat, k < es.length → 1 ≤ (sqAt es (cen g.x g.p x.1) (cen g.y g.p x.2) k).2 := by
      intro k hk
      have := sqK_fine hg hok hi (v := (k : Int)) (by omega) (by omega)
      exact this.2.2.1
    have hn := near_le hf hk hlt
    have f1 : 1 ≤ (sqAt es (cen g.x g.p x.1) (cen g.y g.p x.2) (getI (knownE es g) (ixOf g x.1 x.2))).2 := (sqK_fine hg hok hi hk hlt).2.2.1
    have hb := bestIx_bd allT es (cen g.x g.p x.1) (cen g.y g.p x.2) es.length
    have hp : 0 ≤ bestIx allT es (cen g.x g.p x.1) (cen g.y g.p x.2) es.length := (best_le (P := allT) hf es.length (Nat.le_refl _) 0 hlen rfl).1
    have f2 : 1 ≤ (nearSq es (cen g.x g.p x.1) (cen g.y g.p x.2)).2 := by
      unfold nearSq bestSq
      rw [if_neg (by omega)]
      exact (sqK_fine hg hok hi hp hb.2).2.2.1
    have hm := codeN_mono (s := g.s) (by omega) (isqrt_nonneg _) (isqrt_mono (fle_eight f2 f1 hn))
    have hs := signE_bd es (cen g.x g.p x.1) (cen g.y g.p x.2)
    exact ⟨_, _, _, rfl, rfl, hs.1, hs.2, (codeN_bd (by omega) (isqrt_nonneg _)).1, hm, (codeN_bd (by omega) (isqrt_nonneg _)).2⟩

theorem field_at (es : List Edg) (g : Grd) {i : Nat} (hi : i < g.w.toNat) : ∀ (K k : Nat), k < K → (fieldTo es g K)[k * g.w.toNat + i]? = some (Value.int .u8 (texE es g i k))
  | 0, k, hk => by omega
  | K + 1, k, hk => by
    rw [fieldTo_succ]
    have hl := fieldTo_len es g K
    by_cases e : k = K
    · subst e
      rw [List.getElem?_append_right (by omega), hl, Nat.add_sub_cancel_left]
      unfold rowE rowTo
      rw [List.getElem?_map, List.getElem?_range hi]; rfl
    · have hlt : k * g.w.toNat + i < K * g.w.toNat := by
        have := Nat.mul_le_mul_right g.w.toNat (show k + 1 ≤ K by omega)
        rw [Nat.add_mul, Nat.one_mul] at this
        omega
      rw [List.getElem?_append_left (by omega)]
      exact field_at es g hi K k (by omega)

/-- The two fields at a place. -/
theorem over_at {es : List Edg} {g : Grd} (hg : g.ok) (hok : ∀ e ∈ es, e.ok) {n : Nat} (hn : n < txN g) :
    ∃ sg a b : Int, (swCells es g (knownE es g) (txTo hg (txN g)))[n]? = some (.int .u8 (128 + sg * a)) ∧ (fieldE es g)[n]? = some (.int .u8 (128 + sg * b)) ∧ -1 ≤ sg ∧ sg ≤ 1 ∧ 0 ≤ b ∧ b ≤ a ∧ a ≤ 127 := by
  obtain ⟨w1, _⟩ := hg.2.2.2.1
  have hw : 0 < g.w.toNat := by omega
  have hm := Nat.mod_lt n hw
  have hd : n / g.w.toNat < g.h.toNat := Nat.div_lt_of_lt_mul (by rw [Nat.mul_comm]; exact hn)
  have he : n / g.w.toNat * g.w.toNat + n % g.w.toNat = n := by rw [Nat.mul_comm]; exact Nat.div_add_mod n g.w.toNat
  have hm' : ((n % g.w.toNat : Nat) : Int) < g.w := by
    revert hm; generalize n % g.w.toNat = q; intro hm; omega
  have hd' : ((n / g.w.toNat : Nat) : Int) < g.h := by
    revert hd; generalize n / g.w.toNat = q; intro hd; omega
  obtain ⟨sg, a, b, h1, h2, h3⟩ := over_code hg hok (txOf hg n).2
  refine ⟨sg, a, b, ?_, ?_, h3⟩
  · unfold swCells txTo
    rw [List.getElem?_map, List.getElem?_map, List.getElem?_range hn, ← h1]
    rfl
  · have hx : (txOf hg n).1 = (((n % g.w.toNat : Nat) : Int), ((n / g.w.toNat : Nat) : Int)) := by
      have := txOf_at hg (i := n % g.w.toNat) (k := n / g.w.toNat) hm' hd'
      rw [he] at this
      exact this
    rw [hx] at h2
    have := field_at es g hm g.h.toNat (n / g.w.toNat) hd
    rw [he] at this
    unfold fieldE
    rw [this, ← h2]

end Go.Proofs.Ytadohkidfkbncaa
