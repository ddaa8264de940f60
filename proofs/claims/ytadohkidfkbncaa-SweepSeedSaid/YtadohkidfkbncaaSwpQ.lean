/-
  Plain: what texels know behind all passes: all know one; none's neighbour on the right knows a nearer one; the seeds.
-/
import Derived.Test.YtadohkidfkbncaaSwpP
namespace Go.Proofs.Ytadohkidfkbncaa
open Go.RowKit
set_option linter.unusedSimpArgs false
set_option linter.unusedVariables false

section
variable {es : List Edg} {g : Grd} {l l' : List Int}

theorem Tab.fwdRow (h : Tab es g l) (k : Int) (n : Nat) : Tab es g (fwdRow es g k l n) := ⟨h.kn.fwdRow k n, (fwdRow_len _ _ _ _ _).trans h.len⟩
theorem Tab.fwdTo (h : Tab es g l) (n : Nat) : Tab es g (fwdTo es g l n) := ⟨h.kn.fwdTo n, (fwdTo_len _ _ _ _).trans h.len⟩
theorem Tab.bwdRow (h : Tab es g l) (k : Int) (n : Nat) : Tab es g (bwdRow es g k l n) := ⟨h.kn.bwdRow k n, (bwdRow_len _ _ _ _ _).trans h.len⟩
theorem Tab.bwdTo (h : Tab es g l) (n : Nat) : Tab es g (bwdTo es g l n) := ⟨h.kn.bwdTo n, (bwdTo_len _ _ _ _).trans h.len⟩
theorem Tab.seedTo (h : Tab es g l) (n : Nat) : Tab es g (seedTo es g l n) := ⟨h.kn.seedTo n, (seedTo_len _ _ _ _).trans h.len⟩
theorem Tab.zero (es : List Edg) (g : Grd) : Tab es g (zeroE g) := ⟨Kn.zero es g, by simp [zeroE]⟩

theorem inRow (hg : g.ok) {k : Int} (k0 : 0 ≤ k) (k1 : k < g.h) {i : Nat} (hi : i < g.w.toNat) : inG g i k := ⟨by omega, k0, by omega, k1⟩
theorem inBack (hg : g.ok) {k : Int} (k0 : 0 ≤ k) (k1 : k < g.h) {i : Nat} (hi : i < g.w.toNat) : inG g (g.w - 1 - i) k := ⟨by omega, k0, by omega, k1⟩

theorem fwdRow_imp (h : Tab es g l) (hg : g.ok) (hok : ∀ e ∈ es, e.ok) {k : Int} (k0 : 0 ≤ k) (k1 : k < g.h) : ∀ n, n ≤ g.w.toNat → Imp es g l (fwdRow es g k l n)
  | 0, _ => Imp.refl
  | n + 1, hn => (fwdRow_imp h hg hok k0 k1 n (by omega)).trans hg hok h.kn (h.fwdRow k n).kn (h.fwdRow k (n + 1)).kn (ask_imp (h.fwdRow k n) hg hok dirF (inRow hg k0 k1 (by omega)) 4)
theorem bwdRow_imp (h : Tab es g l) (hg : g.ok) (hok : ∀ e ∈ es, e.ok) {k : Int} (k0 : 0 ≤ k) (k1 : k < g.h) : ∀ n, n ≤ g.w.toNat → Imp es g l (bwdRow es g k l n)
  | 0, _ => Imp.refl
  | n + 1, hn => (bwdRow_imp h hg hok k0 k1 n (by omega)).trans hg hok h.kn (h.bwdRow k n).kn (h.bwdRow k (n + 1)).kn (ask_imp (h.bwdRow k n) hg hok dirB (inBack hg k0 k1 (by omega)) 4)
theorem fwdTo_imp (h : Tab es g l) (hg : g.ok) (hok : ∀ e ∈ es, e.ok) : ∀ n, n ≤ g.h.toNat → Imp es g l (fwdTo es g l n)
  | 0, _ => Imp.refl
  | n + 1, hn => (fwdTo_imp h hg hok n (by omega)).trans hg hok h.kn (h.fwdTo n).kn (h.fwdTo (n + 1)).kn (fwdRow_imp (h.fwdTo n) hg hok (by omega) (by omega) _ (Nat.le_refl _))
theorem bwdTo_imp (h : Tab es g l) (hg : g.ok) (hok : ∀ e ∈ es, e.ok) : ∀ n, n ≤ g.h.toNat → Imp es g l (bwdTo es g l n)
  | 0, _ => Imp.refl
  | n + 1, hn => (bwdTo_imp h hg hok n (by omega)).trans hg hok h.kn (h.bwdTo n).kn (h.bwdTo (n + 1)).kn (bwdRow_imp (h.bwdTo n) hg hok (by omega) (by omega) _ (Nat.le_refl _))

/-- Along a row: all to the right of one that knows. -/
theorem fwdRow_right (h : Tab es g l) (hg : g.ok) (hok : ∀ e ∈ es, e.ok) {k : Int} (k0 : 0 ≤ k) (k1 : k < g.h) {i0 : Nat} (hi : i0 < g.w.toNat) (hk : Kd g l i0 k) : ∀ n, n ≤ g.w.toNat → ∀ i : Nat, i0 ≤ i → i < n → Kd g (fwdRow es g k l n) i k
  | 0, _, _, _, h0 => by omega
  | n + 1, hn, i, h0, h1 => by
    have ht := h.fwdRow k n
    have hin := inRow hg k0 k1 (show n < g.w.toNat by omega)
    by_cases hlt : i < n
    · exact (ask_imp ht hg hok dirF hin 4 i k (inRow hg k0 k1 (by omega)) (fwdRow_right h hg hok k0 k1 hi hk n (by omega) i h0 hlt)).1
    · obtain rfl : i = n := by omega
      by_cases he : i0 = i
      · subst he
        exact (ask_imp ht hg hok dirF hin 4 i0 k hin (fwdRow_imp h hg hok k0 k1 i0 (by omega) i0 k hin hk).1).1
      · have hp := fwdRow_right h hg hok k0 k1 hi hk i (by omega) (i - 1) (by omega) (by omega)
        exact (ask_knows ht hg hok dirF hin (inRow hg k0 k1 (show i - 1 < g.w.toNat by omega)) (by omega) hp 0 ⟨by simp [dirF]; omega, by simp [dirF]⟩ 4 (by omega)).1

/-- From a row to the next one. -/
theorem fwdRow_up (h : Tab es g l) (hg : g.ok) (hok : ∀ e ∈ es, e.ok) {k : Int} (k0 : 1 ≤ k) (k1 : k < g.h) {i : Nat} (hi : i < g.w.toNat) (hk : Kd g l i (k - 1)) : Kd g (fwdRow es g k l g.w.toNat) i k := by
  have hin := inRow hg (show 0 ≤ k by omega) k1 hi
  have hup := inRow hg (show 0 ≤ k - 1 by omega) (by omega) hi
  have ht := h.fwdRow k i
  have hp := (fwdRow_imp h hg hok (by omega) k1 i (by omega) i (k - 1) hup hk).1
  have h1 := (ask_knows ht hg hok dirF hin hup (by omega) hp 1 ⟨by simp [dirF], by simp [dirF]; omega⟩ 4 (by omega)).1
  have key : ∀ n, i + 1 ≤ n → n ≤ g.w.toNat → Kd g (fwdRow es g k l n) i k := by
    intro n
    induction n with
    | zero => intro h0; omega
    | succ n ih =>
      intro h0 hn
      by_cases he : i = n
      · subst he; exact h1
      · exact (ask_imp (h.fwdRow k n) hg hok dirF (inRow hg (by omega) k1 (by omega)) 4 i k hin (ih (by omega) (by omega))).1
  exact key _ (by omega) (Nat.le_refl _)

theorem fwdTo_last (h : Tab es g l) (hg : g.ok) (hok : ∀ e ∈ es, e.ok) {i0 k0 : Nat} (hi : i0 < g.w.toNat) (hk : k0 < g.h.toNat) (hd : Kd g l i0 k0) : ∀ K, k0 < K → K ≤ g.h.toNat → Kd g (fwdTo es g l K) ((g.w.toNat - 1 : Nat) : Int) ((K - 1 : Nat) : Int)
  | 0, h0, _ => by omega
  | K + 1, h0, hK => by
    have ht := h.fwdTo K
    by_cases he : k0 = K
    · subst he
      have hd' := (fwdTo_imp h hg hok k0 (by omega) i0 k0 (inRow hg (by omega) (by omega) hi) hd).1
      exact fwdRow_right ht hg hok (by omega) (by omega) hi hd' g.w.toNat (Nat.le_refl _) (g.w.toNat - 1) (by omega) (by omega)
    · have ih := fwdTo_last h hg hok hi hk hd K (by omega) (by omega)
      have e : ((K - 1 : Nat) : Int) = (K : Int) - 1 := by omega
      rw [e] at ih
      exact fwdRow_up ht hg hok (by omega) (by omega) (by omega) ih

/-- What a row's pass does not come to stays. -/
theorem bwdRow_far (h : Tab es g l) (hg : g.ok) {k : Int} (k0 : 0 ≤ k) (k1 : k < g.h) {m : Nat} : ∀ n, n ≤ g.w.toNat → (∀ j : Nat, j < n → m ≠ ixOf g (g.w - 1 - j) k) → getI (bwdRow es g k l n) m = getI l m
  | 0, _, _ => rfl
  | n + 1, hn, hm => (ask_far (h.bwdRow k n) hg dirB (inBack hg k0 k1 (by omega)) (hm n (by omega)) 4).trans (bwdRow_far h hg k0 k1 n (by omega) fun j hj => hm j (by omega))

/-- Two texels side by side: the right one's edge is not nearer. -/
def Side (es : List Edg) (g : Grd) (l : List Int) (i k : Int) : Prop := fle (sqK es g i k (getI l (ixOf g i k))) (sqK es g i k (getI l (ixOf g (i + 1) k)))

/-- A row behind its pass: all know, and no right neighbour a nearer one. -/
theorem bwdRow_all (h : Tab es g l) (hg : g.ok) (hok : ∀ e ∈ es, e.ok) {k : Int} (k0 : 0 ≤ k) (k1 : k < g.h) (hd : Kd g (askE es g dirB (g.w - 1) k l 4) (g.w - 1) k) :
    ∀ n, n ≤ g.w.toNat → (∀ j : Nat, j < n → Kd g (bwdRow es g k l n) (g.w - 1 - j) k) ∧ (∀ j : Nat, 1 ≤ j → j < n → Side es g (bwdRow es g k l n) (g.w - 1 - j) k)
  | 0, _ => ⟨fun j hj => by omega, fun j _ hj => by omega⟩
  | n + 1, hn => by
    obtain ⟨ih1, ih2⟩ := bwdRow_all h hg hok k0 k1 hd n (by omega)
    have ht := h.bwdRow k n
    have hin := inBack hg k0 k1 (show n < g.w.toNat by omega)
    have far : ∀ j : Nat, j < n → getI (bwdRow es g k l (n + 1)) (ixOf g (g.w - 1 - j) k) = getI (bwdRow es g k l n) (ixOf g (g.w - 1 - j) k) := fun j hj =>
      ask_far ht hg dirB hin (fun e => by have := (ix_inj hg (inBack hg k0 k1 (show j < g.w.toNat by omega)) hin e).1; omega) 4
    have new : Kd g (bwdRow es g k l (n + 1)) (g.w - 1 - n) k ∧ (1 ≤ n → Side es g (bwdRow es g k l (n + 1)) (g.w - 1 - n) k) := by
      by_cases h0 : n = 0
      · subst h0
        refine ⟨?_, fun h => by omega⟩
        simpa [bwdRow] using hd
      · have hp := ih1 (n - 1) (by omega)
        have e1 : g.w - 1 - ((n - 1 : Nat) : Int) = g.w - 1 - n + 1 := by omega
        have hnb : inG g (g.w - 1 - n + 1) k := by rw [← e1]; exact inBack hg k0 k1 (by omega)
        rw [e1] at hp
        have := ask_knows ht hg hok dirB hin hnb (by omega) hp 0 ⟨by simp [dirB], by simp [dirB]⟩ 4 (by omega)
        refine ⟨this.1, fun _ => ?_⟩
        have hf := far (n - 1) (by omega)
        rw [e1] at hf
        unfold Side
        rw [hf]
        exact this.2
    refine ⟨fun j hj => ?_, fun j hj1 hj => ?_⟩
    · by_cases hjn : j = n
      · subst hjn; exact new.1
      · unfold Kd
        rw [far j (by omega)]
        exact ih1 j (by omega)
    · by_cases hjn : j = n
      · subst hjn; exact new.2 hj1
      · have hs := ih2 j hj1 (by omega)
        have e1 : g.w - 1 - ((j - 1 : Nat) : Int) = g.w - 1 - j + 1 := by omega
        have hf := far (j - 1) (by omega)
        rw [e1] at hf
        unfold Side at *
        rw [far j (by omega), hf]
        exact hs

/-- Behind the passes so far all rows that were come to know, and no right neighbour a nearer one. -/
theorem bwdTo_all (h : Tab es g l) (hg : g.ok) (hok : ∀ e ∈ es, e.ok) (hd : Kd g l (g.w - 1) (g.h - 1)) :
    ∀ K, K ≤ g.h.toNat → (∀ r j : Nat, r < K → j < g.w.toNat → Kd g (bwdTo es g l K) (g.w - 1 - j) (g.h - 1 - r)) ∧ (∀ r j : Nat, r < K → 1 ≤ j → j < g.w.toNat → Side es g (bwdTo es g l K) (g.w - 1 - j) (g.h - 1 - r))
  | 0, _ => ⟨fun r j hr => by omega, fun r j hr => by omega⟩
  | K + 1, hK => by
    obtain ⟨ih1, ih2⟩ := bwdTo_all h hg hok hd K (by omega)
    obtain ⟨w1, w2⟩ := hg.2.2.2.1
    have ht := h.bwdTo K
    have k0 : 0 ≤ g.h - 1 - (K : Int) := by omega
    have k1 : g.h - 1 - (K : Int) < g.h := by omega
    have hin0 : inG g (g.w - 1) (g.h - 1 - K) := ⟨by omega, k0, by omega, k1⟩
    have first : Kd g (askE es g dirB (g.w - 1) (g.h - 1 - K) (bwdTo es g l K) 4) (g.w - 1) (g.h - 1 - K) := by
      by_cases h0 : K = 0
      · subst h0
        have : Kd g l (g.w - 1) (g.h - 1 - (0 : Nat)) := by simpa using hd
        exact (ask_imp ht hg hok dirB hin0 4 _ _ hin0 this).1
      · have hp := ih1 (K - 1) 0 (by omega) (by omega)
        have e1 : g.h - 1 - ((K - 1 : Nat) : Int) = g.h - 1 - K + 1 := by omega
        have e2 : g.w - 1 - ((0 : Nat) : Int) = g.w - 1 := by omega
        rw [e1, e2] at hp
        exact (ask_knows ht hg hok dirB hin0 (i' := g.w - 1) (k' := g.h - 1 - K + 1) ⟨by omega, by omega, by omega, by omega⟩ (by omega) hp 1 ⟨by simp [dirB], by simp [dirB]⟩ 4 (by omega)).1
    obtain ⟨n1, n2⟩ := bwdRow_all ht hg hok k0 k1 first g.w.toNat (Nat.le_refl _)
    have far : ∀ (r j : Nat), r < K → j < g.w.toNat → getI (bwdTo es g l (K + 1)) (ixOf g (g.w - 1 - j) (g.h - 1 - r)) = getI (bwdTo es g l K) (ixOf g (g.w - 1 - j) (g.h - 1 - r)) := fun r j hr hj =>
      bwdRow_far ht hg k0 k1 _ (Nat.le_refl _) fun j' hj' e => by
        have := (ix_inj hg (inBack hg (show 0 ≤ g.h - 1 - (r : Int) by omega) (by omega) hj) (inBack hg k0 k1 hj') e).2
        omega
    refine ⟨fun r j hr hj => ?_, fun r j hr hj1 hj => ?_⟩
    · by_cases he : r = K
      · subst he; exact n1 j hj
      · unfold Kd
        rw [far r j (by omega) hj]
        exact ih1 r j (by omega) hj
    · by_cases he : r = K
      · subst he; exact n2 j hj1 hj
      · have hs := ih2 r j (by omega) hj1 hj
        have e1 : g.w - 1 - ((j - 1 : Nat) : Int) = g.w - 1 - j + 1 := by omega
        have hf := far r (j - 1) (by omega) (by omega)
        rw [e1] at hf
        unfold Side at *
        rw [far r j (by omega) hj, hf]
        exact hs

/-! ### The seeds -/

theorem texI_in (hg : g.ok) (x y : Int) : inG g (texI g.x g.p g.w x) (texI g.y g.p g.h y) := by
  obtain ⟨w1, _⟩ := hg.2.2.2.1
  obtain ⟨h1, _⟩ := hg.2.2.2.2.1
  obtain ⟨a1, a2⟩ := clampE_bd (f := (x - g.x * 32) / (g.p * 32)) w1
  obtain ⟨b1, b2⟩ := clampE_bd (f := (y - g.y * 32) / (g.p * 32)) h1
  exact ⟨a1, b1, a2, b2⟩

theorem Tab.seedE (h : Tab es g l) {n : Nat} (hn : n < es.length) (e : Edg) (j : Nat) : Tab es g (seedE es g l n e j) := ⟨h.kn.seedE hn e j, (seedE_len _ _ _ _ _ _).trans h.len⟩
theorem seedE_imp (h : Tab es g l) (hg : g.ok) (hok : ∀ e ∈ es, e.ok) {n : Nat} (hn : n < es.length) (e : Edg) : ∀ j, Imp es g l (seedE es g l n e j)
  | 0 => Imp.refl
  | j + 1 => (seedE_imp h hg hok hn e j).trans hg hok h.kn (h.seedE hn e j).kn (h.seedE hn e (j + 1)).kn (offer_imp (h.seedE hn e j) hg (texI_in hg _ _))
theorem seedTo_succ {n : Nat} {e : Edg} (he : es[n]? = some e) (l : List Int) : seedTo es g l (n + 1) = seedE es g (seedTo es g l n) n e 3 := by rw [seedTo, he]
theorem seedTo_imp (h : Tab es g l) (hg : g.ok) (hok : ∀ e ∈ es, e.ok) (n : Nat) : ∀ m, n ≤ m → m ≤ es.length → Imp es g (seedTo es g l n) (seedTo es g l m)
  | 0, h0, _ => by
    have : n = 0 := by omega
    subst this
    exact Imp.refl
  | m + 1, h0, hm => by
    by_cases he : n = m + 1
    · subst he; exact Imp.refl
    · obtain ⟨e, hei, _⟩ := get_of_lt (show m < es.length by omega)
      have ih := seedTo_imp h hg hok n m (by omega) (by omega)
      rw [seedTo_succ hei]
      exact ih.trans hg hok (h.seedTo n).kn (h.seedTo m).kn ((h.seedTo m).seedE (by omega) e 3).kn (seedE_imp (h.seedTo m) hg hok (by omega) e 3)

/-- A texel in which an edge begins knows one that is no farther than that. -/
theorem seed_at (h : Tab es g l) (hg : g.ok) (hok : ∀ e ∈ es, e.ok) {n : Nat} {e : Edg} (he : es[n]? = some e) :
    Kd g (seedTo es g l es.length) (texI g.x g.p g.w e.ax) (texI g.y g.p g.h e.ay) ∧
      fle (sqK es g (texI g.x g.p g.w e.ax) (texI g.y g.p g.h e.ay) (getI (seedTo es g l es.length) (ixOf g (texI g.x g.p g.w e.ax) (texI g.y g.p g.h e.ay)))) (sqK es g (texI g.x g.p g.w e.ax) (texI g.y g.p g.h e.ay) n) := by
  have hn := (List.getElem?_eq_some_iff.1 he).1
  have hin := texI_in hg e.ax e.ay
  have ht := h.seedTo n
  have h1 := offer_at ht hg hin (e := (n : Int)) (by omega)
  have hoff : seedE es g (seedTo es g l n) n e 1 = offerE es g (seedTo es g l n) (texI g.x g.p g.w e.ax) (texI g.y g.p g.h e.ay) n := rfl
  rw [← hoff] at h1
  have t1 := ht.seedE hn e 1
  have hi1 : Imp es g (seedE es g (seedTo es g l n) n e 1) (seedTo es g l (n + 1)) := by
    rw [seedTo_succ he]
    have a := offer_imp (e := (n : Int)) t1 hg (texI_in hg (ptX e 1) (ptY e 1))
    have b := offer_imp (e := (n : Int)) (ht.seedE hn e 2) hg (texI_in hg (ptX e 2) (ptY e 2))
    exact Imp.trans (l' := seedE es g (seedTo es g l n) n e 2) hg hok t1.kn (ht.seedE hn e 2).kn (ht.seedE hn e 3).kn a b
  have hi2 := hi1.trans hg hok t1.kn (h.seedTo (n + 1)).kn (h.seedTo es.length).kn (seedTo_imp h hg hok (n + 1) es.length (by omega) (Nat.le_refl _))
  obtain ⟨c1, c2⟩ := hi2 _ _ hin h1.1
  exact ⟨c1, fle_trans (sqK_fine hg hok hin h1.1 (getI_lt t1.kn _)).2.2.1 (sqK_fine hg hok hin c1 (getI_lt (h.seedTo es.length).kn _)).2.2.1 (sqK_fine hg hok hin (by omega) (by omega)).2.2.1 c2 h1.2⟩

/-! ### What is known in the end -/

theorem known_tab (es : List Edg) (g : Grd) : Tab es g (knownE es g) := ⟨knownE_kn es g, knownE_len es g⟩

theorem known_imp (hg : g.ok) (hok : ∀ e ∈ es, e.ok) : Imp es g (seedTo es g (zeroE g) es.length) (knownE es g) := by
  have t := (Tab.zero es g).seedTo es.length
  exact (fwdTo_imp t hg hok _ (Nat.le_refl _)).trans hg hok t.kn (t.fwdTo _).kn ((t.fwdTo _).bwdTo _).kn (bwdTo_imp (t.fwdTo _) hg hok _ (Nat.le_refl _))

/-- A texel in which an edge begins. -/
theorem known_seed (hg : g.ok) (hok : ∀ e ∈ es, e.ok) {n : Nat} {e : Edg} (he : es[n]? = some e) :
    Kd g (knownE es g) (texI g.x g.p g.w e.ax) (texI g.y g.p g.h e.ay) ∧
      fle (sqK es g (texI g.x g.p g.w e.ax) (texI g.y g.p g.h e.ay) (getI (knownE es g) (ixOf g (texI g.x g.p g.w e.ax) (texI g.y g.p g.h e.ay)))) (sqK es g (texI g.x g.p g.w e.ax) (texI g.y g.p g.h e.ay) n) := by
  have hn := (List.getElem?_eq_some_iff.1 he).1
  have t := (Tab.zero es g).seedTo es.length
  have hin := texI_in hg e.ax e.ay
  obtain ⟨a1, a2⟩ := seed_at (Tab.zero es g) hg hok he
  obtain ⟨b1, b2⟩ := known_imp hg hok _ _ hin a1
  exact ⟨b1, fle_trans (sqK_fine hg hok hin a1 (getI_lt t.kn _)).2.2.1 (sqK_fine hg hok hin b1 (getI_lt (knownE_kn es g) _)).2.2.1 (sqK_fine hg hok hin (by omega) (by omega)).2.2.1 b2 a2⟩

theorem known_all (hg : g.ok) (hok : ∀ e ∈ es, e.ok) (hne : es ≠ []) {i k : Int} (hi : inG g i k) : Kd g (knownE es g) i k ∧ (i + 1 < g.w → Side es g (knownE es g) i k) := by
  have hlen : 0 < es.length := List.length_pos_iff.2 hne
  obtain ⟨e, he, _⟩ := get_of_lt hlen
  obtain ⟨w1, _⟩ := hg.2.2.2.1
  obtain ⟨h1, _⟩ := hg.2.2.2.2.1
  have t := (Tab.zero es g).seedTo es.length
  have hin := texI_in hg e.ax e.ay
  obtain ⟨a1, _⟩ := seed_at (Tab.zero es g) hg hok he
  obtain ⟨i0, hi0⟩ := Int.eq_ofNat_of_zero_le hin.1
  obtain ⟨k0, hk0⟩ := Int.eq_ofNat_of_zero_le hin.2.1
  rw [hi0, hk0] at a1 hin
  have hl := fwdTo_last t hg hok (show i0 < g.w.toNat by have := hin.2.2.1; omega) (show k0 < g.h.toNat by have := hin.2.2.2; omega) a1 g.h.toNat (by have := hin.2.2.2; omega) (Nat.le_refl _)
  rw [show ((g.w.toNat - 1 : Nat) : Int) = g.w - 1 by omega, show ((g.h.toNat - 1 : Nat) : Int) = g.h - 1 by omega] at hl
  obtain ⟨b1, b2⟩ := bwdTo_all (t.fwdTo g.h.toNat) hg hok hl g.h.toNat (Nat.le_refl _)
  obtain ⟨p1, p2, p3, p4⟩ := hi
  have ei : g.w - 1 - ((g.w - 1 - i).toNat : Int) = i := by omega
  have ek : g.h - 1 - ((g.h - 1 - k).toNat : Int) = k := by omega
  have c1 := b1 (g.h - 1 - k).toNat (g.w - 1 - i).toNat (by omega) (by omega)
  rw [ei, ek] at c1
  refine ⟨c1, fun hlt => ?_⟩
  have c2 := b2 (g.h - 1 - k).toNat (g.w - 1 - i).toNat (by omega) (by omega) (by omega)
  rw [ei, ek] at c2
  exact c2

end

end Go.Proofs.Ytadohkidfkbncaa
