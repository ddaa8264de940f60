/-
  Plain: what texels know behind all passes.
-/
import Derived.Test.YtadohkidfkbncaaSwpC
namespace Go.Proofs.Ytadohkidfkbncaa
open Go.RowKit
set_option linter.unusedSimpArgs false

section
variable {es : List Edg} {g : Grd} {l l' l'' : List Int}

/-- The square of what a texel knows, from its middle. -/
def sqK (es : List Edg) (g : Grd) (i k v : Int) : Int × Int := sqAt es (cen g.x g.p i) (cen g.y g.p k) v
def Kd (g : Grd) (l : List Int) (i k : Int) : Prop := 0 ≤ getI l (ixOf g i k)

/-- Each texel knows one at least as near as before. -/
def Imp (es : List Edg) (g : Grd) (l l' : List Int) : Prop :=
  ∀ i k, inG g i k → Kd g l i k → Kd g l' i k ∧ fle (sqK es g i k (getI l' (ixOf g i k))) (sqK es g i k (getI l (ixOf g i k)))

/-- A table of edges. -/
structure Tab (es : List Edg) (g : Grd) (l : List Int) : Prop where
  kn : Kn es l
  len : l.length = cellsN g

theorem Tab.offer (h : Tab es g l) {i k e : Int} (he : e < es.length) : Tab es g (offerE es g l i k e) := ⟨h.kn.offer he, (offerE_len _ _ _ _ _ _).trans h.len⟩

theorem sqK_fine (hg : g.ok) (hok : ∀ e ∈ es, e.ok) {i k v : Int} (hi : inG g i k) (h0 : 0 ≤ v) (h1 : v < es.length) : Fine (sqK es g i k v) := by
  obtain ⟨m, rfl⟩ := Int.eq_ofNat_of_zero_le h0
  obtain ⟨e, he, hm⟩ := get_of_lt (show m < es.length by omega)
  unfold sqK
  rw [sqAt_of he]
  exact Edg.sq_fine (hok e hm) (cen_bd hg.1 hg.2.2.1 ⟨hi.1, by have := hi.2.2.1; have := hg.2.2.2.1.2; omega⟩) (cen_bd hg.2.1 hg.2.2.1 ⟨hi.2.1, by have := hi.2.2.2; have := hg.2.2.2.2.1.2; omega⟩)

theorem Imp.refl : Imp es g l l := fun _ _ _ h => ⟨h, fle_refl _⟩
theorem Imp.trans (hg : g.ok) (hok : ∀ e ∈ es, e.ok) (h0 : Kn es l) (h1 : Kn es l') (h2 : Kn es l'') (h : Imp es g l l') (k : Imp es g l' l'') : Imp es g l l'' := fun i j hi hk => by
  obtain ⟨a1, a2⟩ := h i j hi hk
  obtain ⟨b1, b2⟩ := k i j hi a1
  exact ⟨b1, fle_trans (sqK_fine hg hok hi a1 (getI_lt h1 _)).2.2.1 (sqK_fine hg hok hi b1 (getI_lt h2 _)).2.2.1 (sqK_fine hg hok hi hk (getI_lt h0 _)).2.2.1 b2 a2⟩

theorem getI_set (l : List Int) (m n : Nat) (x : Int) (hm : m < l.length) : getI (l.set m x) n = if n = m then x else getI l n := by
  unfold getI
  split
  · rename_i h; subst h
    rw [List.getElem?_set_self hm]; rfl
  · rename_i h
    rw [List.getElem?_set_ne (fun e => h e.symm)]

theorem ix_lt (hg : g.ok) {i k : Int} (hi : inG g i k) : ixOf g i k < cellsN g := by
  obtain ⟨_, _, h3, _, h5⟩ := ix_bd hg hi
  unfold cellsN; omega

theorem ix_inj (hg : g.ok) {i k i' k' : Int} (hi : inG g i k) (hi' : inG g i' k') (h : ixOf g i k = ixOf g i' k') : i = i' ∧ k = k' := by
  obtain ⟨_, _, _, _, h5⟩ := ix_bd hg hi
  obtain ⟨_, _, _, _, h6⟩ := ix_bd hg hi'
  obtain ⟨a1, a2, a3, a4⟩ := hi
  obtain ⟨b1, b2, b3, b4⟩ := hi'
  have hw : 0 < g.w := by omega
  have e : i + g.w * k = i' + g.w * k' := by rw [Int.mul_comm g.w k, Int.mul_comm g.w k']; omega
  have e1 : (i + g.w * k) / g.w = k := by rw [Int.add_mul_ediv_left _ _ (by omega), Int.ediv_eq_zero_of_lt a1 a3]; omega
  have e2 : (i' + g.w * k') / g.w = k' := by rw [Int.add_mul_ediv_left _ _ (by omega), Int.ediv_eq_zero_of_lt b1 b3]; omega
  have hk : k = k' := by rw [← e1, ← e2, e]
  subst hk
  exact ⟨by omega, rfl⟩

theorem offer_far (hl : l.length = cellsN g) (hg : g.ok) {i k e : Int} (hi : inG g i k) {n : Nat} (hn : n ≠ ixOf g i k) : getI (offerE es g l i k e) n = getI l n := by
  unfold offerE
  split
  · rfl
  · split
    · rw [getI_set _ _ _ _ (by rw [hl]; exact ix_lt hg hi), if_neg hn]
    · rfl

theorem offer_at (h : Tab es g l) (hg : g.ok) {i k e : Int} (hi : inG g i k) (h0 : 0 ≤ e) : Kd g (offerE es g l i k e) i k ∧ fle (sqK es g i k (getI (offerE es g l i k e) (ixOf g i k))) (sqK es g i k e) := by
  have hl : ixOf g i k < l.length := by rw [h.len]; exact ix_lt hg hi
  unfold Kd offerE
  rw [if_neg (by omega)]
  by_cases hc : getI l (ixOf g i k) < 0 ∨ ¬ fle (sqAt es (cen g.x g.p i) (cen g.y g.p k) (getI l (ixOf g i k))) (sqAt es (cen g.x g.p i) (cen g.y g.p k) e)
  · rw [if_pos hc, getI_set _ _ _ _ hl, if_pos rfl]
    exact ⟨h0, fle_refl _⟩
  · rw [if_neg hc]
    have h1 : ¬ getI l (ixOf g i k) < 0 := fun x => hc (.inl x)
    have h2 : fle (sqAt es (cen g.x g.p i) (cen g.y g.p k) (getI l (ixOf g i k))) (sqAt es (cen g.x g.p i) (cen g.y g.p k) e) := Decidable.not_not.1 fun x => hc (.inr x)
    exact ⟨by omega, h2⟩

theorem offer_imp (h : Tab es g l) (hg : g.ok) {i k e : Int} (hi : inG g i k) : Imp es g l (offerE es g l i k e) := by
  intro i' k' hi' hk
  by_cases hix : ixOf g i' k' = ixOf g i k
  · obtain ⟨rfl, rfl⟩ := ix_inj hg hi' hi hix
    have hl : ixOf g i' k' < l.length := by rw [h.len]; exact ix_lt hg hi'
    unfold Kd at *
    unfold offerE
    split
    · exact ⟨hk, fle_refl _⟩
    · rename_i he
      split
      · rename_i hc
        rw [getI_set _ _ _ _ hl, if_pos rfl]
        exact ⟨by omega, not_fle (hc.resolve_left (by omega))⟩
      · exact ⟨hk, fle_refl _⟩
  · unfold Kd at *
    rw [offer_far h.len hg hi hix]
    exact ⟨hk, fle_refl _⟩

/-! ### A texel asks its neighbours -/

theorem Tab.ask (h : Tab es g l) (dir : Nat → Int × Int) (i k : Int) (n : Nat) : Tab es g (askE es g dir i k l n) := ⟨h.kn.ask dir i k n, (askE_len _ _ _ _ _ _ _).trans h.len⟩

theorem ask_far (h : Tab es g l) (hg : g.ok) (dir : Nat → Int × Int) {i k : Int} (hi : inG g i k) {m : Nat} (hm : m ≠ ixOf g i k) : ∀ n, getI (askE es g dir i k l n) m = getI l m
  | 0 => rfl
  | n + 1 => (offer_far (h.ask dir i k n).len hg hi hm).trans (ask_far h hg dir hi hm n)

theorem ask_imp (h : Tab es g l) (hg : g.ok) (hok : ∀ e ∈ es, e.ok) (dir : Nat → Int × Int) {i k : Int} (hi : inG g i k) : ∀ n, Imp es g l (askE es g dir i k l n)
  | 0 => Imp.refl
  | n + 1 => (ask_imp h hg hok dir hi n).trans hg hok h.kn (h.ask dir i k n).kn (h.ask dir i k (n + 1)).kn (offer_imp (h.ask dir i k n) hg hi)

theorem ask_knows (h : Tab es g l) (hg : g.ok) (hok : ∀ e ∈ es, e.ok) (dir : Nat → Int × Int) {i k : Int} (hi : inG g i k) {i' k' : Int} (hi' : inG g i' k') (hne : ¬ (i' = i ∧ k' = k)) (hk : Kd g l i' k') (j : Nat) (hd : i + (dir j).1 = i' ∧ k + (dir j).2 = k') :
    ∀ n, j < n → Kd g (askE es g dir i k l n) i k ∧ fle (sqK es g i k (getI (askE es g dir i k l n) (ixOf g i k))) (sqK es g i k (getI l (ixOf g i' k')))
  | 0, hj => by omega
  | n + 1, hj => by
    have ht := h.ask dir i k n
    by_cases hjn : j = n
    · subst hjn
      have hix : ixOf g i' k' ≠ ixOf g i k := fun e => hne (ix_inj hg hi' hi e)
      have hv : knowsE g (askE es g dir i k l j) (i + (dir j).1) (k + (dir j).2) = getI l (ixOf g i' k') := by
        rw [hd.1, hd.2]
        unfold knowsE
        rw [if_pos hi', ask_far h hg dir hi hix]
      have := offer_at ht hg hi (e := getI l (ixOf g i' k')) hk
      simp only [askE]
      rw [hv]
      exact this
    · obtain ⟨a1, a2⟩ := ask_knows h hg hok dir hi hi' hne hk j hd n (by omega)
      obtain ⟨b1, b2⟩ := offer_imp (e := knowsE g (askE es g dir i k l n) (i + (dir n).1) (k + (dir n).2)) ht hg hi i k hi a1
      exact ⟨b1, fle_trans (sqK_fine hg hok hi a1 (getI_lt ht.kn _)).2.2.1 (sqK_fine hg hok hi b1 (getI_lt (h.ask dir i k (n + 1)).kn _)).2.2.1 (sqK_fine hg hok hi hk (getI_lt h.kn _)).2.2.1 b2 a2⟩

end

end Go.Proofs.Ytadohkidfkbncaa
