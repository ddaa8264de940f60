/-
  The walk of the edges of a glyph by numbers.
-/
import Derived.Test.YtadohkidfkbncaaOutW
namespace Go.Proofs.Ytadohkidfkbncaa
open Go.RowKit
set_option linter.unusedSimpArgs false

/-- The first few rows, the first few points of each. -/
def fewE (dss : List (List Dt)) : List (List Dt) := (dss.take 3).map (·.take 6)
def glyphE (dss : List (List Dt)) : List Edg := flatAll ((outlineE (fewE dss)).map segsE)

theorem DotsAt.take {w : World} {a : Option Addr} {n cap m : Nat} {ds : List Dt} (h : DotsAt w (.slice a n cap) ds) (hm : m = min n 6) : DotsAt w (.slice a m cap) (ds.take 6) := by
  obtain ⟨a', cap', h1, h2, h3, h4, h5, h6⟩ := h
  cases h1
  refine ⟨a, cap, by rw [hm]; simp [Nat.min_comm], by simp; omega, h3, h4, fun d hd => h5 d (List.mem_of_mem_take hd), fun hne => ?_⟩
  obtain ⟨b, o, e, hc⟩ := h6 (fun e => hne (by rw [e]; rfl))
  refine ⟨b, o, e, fun i d hi => hc i d ?_⟩
  rw [List.getElem?_take] at hi
  split at hi
  · exact hi
  · cases hi

/-- An own row of slices that came in. -/
def FewAt (w0 w : World) (K : Nat) (u : Value) (dss : List (List Dt)) (i : Nat) : Prop :=
  ∃ vs : List Value, w.ownsRow K 72 1 u i vs ∧ ∀ (j : Nat) (ds : List Dt), (dss.take i)[j]? = some ds → ∃ v, vs[j]? = some v ∧ DotsAt w0 v (ds.take 6)

theorem FewAt.rows {w0 w : World} {K : Nat} {u : Value} {dss : List (List Dt)} {i : Nat} (h : FewAt w0 w K u dss i) (hb : Below w0.heap.size w0 w) (hi : i = min dss.length 3) : RowsAt w u (fewE dss) := by
  obtain ⟨vs, h1, h2⟩ := h
  have hlen : (fewE dss).length = i := by unfold fewE; simp; omega
  rcases h1.2 with ⟨rfl, h0⟩ | ⟨g, cap, cur, rfl, hB, hg, hn, hm, hrest⟩
  · refine ⟨none, 0, by rw [hlen, h0], by omega, by decide, fun _ => rfl, fun hne => absurd (List.eq_nil_of_length_eq_zero (by omega)) hne⟩
  · refine ⟨some ⟨g, 0, none⟩, cap, by rw [hlen], by omega, hm, (fun e => by cases e), fun hne => ⟨g, 0, rfl, fun j ds hj => ?_⟩⟩
    unfold fewE at hj
    rw [List.getElem?_map] at hj
    obtain ⟨d0, hd0, rfl⟩ := Option.map_eq_some_iff.1 hj
    obtain ⟨v, hv, hD⟩ := h2 j d0 (by
      rw [List.getElem?_take] at hd0 ⊢
      split at hd0
      · rename_i hlt
        have := (List.getElem?_eq_some_iff.1 hd0).1
        rw [if_pos (by omega)]; exact hd0
      · cases hd0)
    refine ⟨v, ?_, hD.carry hb⟩
    have := h1.cells (g := g) rfl j v hv
    rwa [show ((⟨g, 0, none⟩ : Addr).add j) = ⟨g, 0 + j, none⟩ by unfold Addr.add; split <;> simp_all] at this

theorem FewAt.below {w0 w w1 : World} {K : Nat} {u : Value} {dss : List (List Dt)} {i : Nat} (h : FewAt w0 w K u dss i) (hb : Below w.heap.size w w1) : FewAt w0 w1 K u dss i := by
  obtain ⟨vs, h1, h2⟩ := h
  exact ⟨vs, ownsRow_below h1 hb, h2⟩

theorem FewAt.snoc {w0 w1 : World} {K : Nat} {u' v : Value} {dss : List (List Dt)} {i : Nat} {vs : List Value} {ds : List Dt} (hl : vs.length = i) (h2 : ∀ (j : Nat) (ds : List Dt), (dss.take i)[j]? = some ds → ∃ v, vs[j]? = some v ∧ DotsAt w0 v (ds.take 6)) (hi : dss[i]? = some ds) (hv : DotsAt w0 v (ds.take 6))
    (h1 : w1.ownsRow K 72 1 u' (i + 1) (vs ++ [v])) : FewAt w0 w1 K u' dss (i + 1) := by
  refine ⟨_, h1, fun j x hj => ?_⟩
  rw [take_snoc' hi] at hj
  have hlt : (dss.take i).length = i := by have := (List.getElem?_eq_some_iff.1 hi).1; simp; omega
  rcases Nat.lt_or_ge j i with h | h
  · rw [List.getElem?_append_left (by omega)] at hj
    obtain ⟨y, h3, h4⟩ := h2 j x hj
    exact ⟨y, by rw [List.getElem?_append_left (by omega)]; exact h3, h4⟩
  · rw [List.getElem?_append_right (by omega), hlt] at hj
    have h0 : j - i = 0 := by
      rcases Nat.eq_zero_or_pos (j - i) with e | e
      · exact e
      · rw [List.getElem?_eq_none (by simp; omega)] at hj; cases hj
    rw [h0] at hj
    simp at hj
    subst hj
    exact ⟨v, by rw [List.getElem?_append_right (by omega), hl, h0]; rfl, hv⟩

theorem outlineE_len (dss : List (List Dt)) : (outlineE dss).length ≤ 8 := by
  unfold outlineE
  have := (outTo_le (dss.take 8)).2
  simp at this; omega

theorem outSegs_len (dss : List (List Dt)) : ∀ l ∈ (outlineE dss).map segsE, l.length ≤ 1000 ∧ ∀ g ∈ l, g.ok := by
  intro l hl
  obtain ⟨c, hc, rfl⟩ := List.mem_map.1 hl
  obtain ⟨h1, h2, h3⟩ := outTo_ok _ c hc
  have := segsE_len c
  exact ⟨by omega, segsE_ok h3⟩

theorem flatAll_ok {ls : List (List Sg)} (h : ∀ l ∈ ls, ∀ g ∈ l, g.ok) : ∀ e ∈ flatAll ls, e.ok := by
  intro e he
  obtain ⟨l, hl, hel⟩ := List.mem_flatMap.1 he
  exact flatE_ok (h l hl) e hel

theorem glyphE_ok (dss : List (List Dt)) : (∀ e ∈ glyphE dss, e.ok) ∧ (glyphE dss).length ≤ 32000 := by
  refine ⟨flatAll_ok fun l hl => (outSegs_len _ l hl).2, ?_⟩
  have := flatAll_len (ls := (outlineE (fewE dss)).map segsE) fun l hl => (outSegs_len _ l hl).1
  have h2 := outlineE_len (fewE dss)
  unfold glyphE
  simp at this ⊢
  omega

theorem info_dots : (Try.prog.info? 72).map (fun i => (i.zero, i.size, i.bytes)) = some (some (.slice none 0 0), 1, 24) := by kernel_rfl

set_option maxRecDepth 20000 in
set_option maxHeartbeats 1600000 in
theorem glyph_c {w : World} {v : Value} {dss : List (List Dt)} (h : RowsAt w v dss) :
    Calls Try.prog 11 #[v] w fun r w' => (∃ u, r = .returned u ∧ EdgesAt w' u (glyphE dss)) ∧ Below w.heap.size w w' := by
  obtain ⟨a, cap, rfl, hc, hm, hn, hr⟩ := h
  have HN := Lib.hid hn
  have HR := Lib.hid hr
  unfold maxLen at hm
  obtain ⟨n, hnn⟩ : ∃ n : Nat, n = min dss.length 3 := ⟨_, rfl⟩
  have hmin : (if (3 : Int) < (dss.length : Int) then (3 : Int) else (dss.length : Int)) = (n : Int) := by rw [hnn]; split <;> omega
  have hn8 : n ≤ 3 ∧ n ≤ dss.length := by omega
  have HN8 := Lib.hid hnn
  obtain ⟨i0, hi, hz0, hz1, hz2⟩ := info_parts info_dots
  clear hn hr hnn
  go_enter Try.func11, Try.ntmps11
  go_wp2_with fail
  go_loopw [3, 12] (fun o k wr => ∃ (i : Nat), i ≤ n ∧ k = (.int .i64 (i)) ∧ FewAt w wr w.heap.size o dss i ∧ Below w.heap.size w wr) (fun _ k wr => n - (intOf k).toNat)
  case atStart => exact ⟨0, by omega, rfl, ⟨[], World.ownsRow_nil _ _ _ _, fun j ds h => by simp at h⟩, Below.refl _ _⟩
  case round =>
    obtain ⟨i, hi', rfl, hF, hB⟩ := hrel
    have hzr := hB.size
    by_cases hlt : i < n
    · obtain ⟨c, hci, hcm⟩ := get_of_lt (show i < dss.length by omega)
      obtain ⟨b, o, hab, hcell⟩ := HR.out (ne_nil_of_lt (show i < dss.length by omega))
      subst hab
      obtain ⟨v, hv, hD⟩ := hcell i c hci
      have hv' := (hB.cell (p := ⟨b, o + i, none⟩) (blt hv)).trans hv
      have HD := Lib.hid hD
      obtain ⟨a2, cap2, rfl, hc2, hm2, _, _, _⟩ := hD
      obtain ⟨m, hmm⟩ : ∃ m : Nat, m = min c.length 6 := ⟨_, rfl⟩
      have hmin2 : (if (6 : Int) < (c.length : Int) then (6 : Int) else (c.length : Int)) = (m : Int) := by rw [hmm]; split <;> omega
      have hm6 : m ≤ 6 ∧ m ≤ c.length := by omega
      have HMM := Lib.hid hmm
      have HCI := Lib.hid hci
      obtain ⟨vs, hvs, hel⟩ := hF
      have HEL := Lib.hid hel
      unfold maxLen at hm2
      clear hv hcell hcm hci hmm hel
      go_wp2_with (at_builtin; go_must (refine wpList_append_lies _ rfl _ _ 22 rfl w.heap.size 72 i0 _ 1 24 Try.underlying22 hi hz0 hz1 hz2 rfl (by decide) _ i vs rfl (hvs.alloc _) ⟨_, 0, none⟩ 1 1 [_] rfl rfl (cell_one_new _ _ _) ?c7 (by decide) ?c8 ?c9 ?c10 _ rfl ?_))
      case c7 => intro x hx; simp at hx; subst hx; rfl
      case c8 => unfold maxLen; omega
      case c9 => omega
      case c10 => simp; omega
      intro ga ca wa hown2 hgrow hat hlta
      have hBa : Below w.heap.size w wa := grown_own (by repeat' (first | (with_reducible exact Below.refl _ _) | (with_reducible assumption) | (with_reducible refine below_drewN ?_ _) | (with_reducible refine Below.alloc ?_ ?_ _) | (with_reducible refine Below.drew ?_) | (with_reducible refine Below.setCell ?_ ?_ _) | (with_reducible refine below_var ?_ ?_ (by assumption)) | (with_reducible refine below_own' ?_ (by assumption) (by assumption) ?_ ?_) | go_size)) hgrow (hvs.alloc _) (Nat.le_refl _) (by simp; omega)
      have HFF := Lib.hid (FewAt.snoc (by have := hvs.1; omega) HEL.out HCI.out (HD.out.take HMM.out) hown2)
      clear hown2 hgrow hat hvs
      go_wp2_with fail
      go_roundw
      case rel => exact ⟨i + 1, by omega, by go_num, HFF.out, hBa⟩
      case measure => simp [intOf]; omega
    · have HR := Lib.hid (hF.rows hB (by have := HN8.out; omega))
      clear hF
      go_wp2_with fail
      go_call outline_c HR.out as r w1 ⟨⟨u1, rfl, hN1⟩, hb1⟩
      have HB1 : Below w.heap.size w w1 := hB.trans (hb1.mono (by omega))
      have HN1 := Lib.hid hN1
      have hz1' := HB1.size
      clear hb1 hN1
      go_wp2_with fail
      go_call pathAll_c HN1.out (by have := outlineE_len (fewE dss); omega) as r w2 ⟨⟨u2, rfl, hN2⟩, hb2⟩
      have HB2 : Below w.heap.size w w2 := HB1.trans (hb2.mono (by omega))
      have HN2 := Lib.hid hN2
      have hz2' := HB2.size
      clear hb2 hN2
      go_wp2_with fail
      go_call flatAll_c HN2.out (by have := outlineE_len (fewE dss); simp; omega) (fun l hl => (outSegs_len _ l hl).1) as r w3 ⟨⟨u3, rfl, hO3⟩, hb3⟩
      have HB3 : Below w.heap.size w w3 := HB2.trans (hb3.mono (by omega))
      have HO3 := Lib.hid (edgesAt_of_own hO3 (by have := (glyphE_ok dss).2; unfold glyphE at this; omega) (glyphE_ok dss).1)
      clear hb3 hO3
      go_wp2_with fail
      go_ret
      exact ⟨⟨_, rfl, HO3.out⟩, HB3⟩

end Go.Proofs.Ytadohkidfkbncaa
