/-
  A region that draws its order and whose last operation waits for all others: the others are walked as a region of their own, under what is held of the world; the last one by itself.
  No function of the program is spoken of.
-/
import Derived.Test.YtadohkidfkbncaaBase
namespace Go.Proofs.Ytadohkidfkbncaa
open Go Go.RowKit
set_option linter.unusedSimpArgs false

section
variable {P : Program} {ops front : Array Oper} {o : Oper} {Q : Exit → Act → World → Prop} {md : Region.Mode} {S : World → Prop}

/-- No operation is guarded, each waits for earlier ones alone, the last one for all. -/
def lastB (md : Region.Mode) (ops : Array Oper) (n : Nat) : Bool :=
  decide (ops.size = n + 1) && (List.range (n + 1)).all (fun i => match ops[i]? with
    | some o => o.guard.isNone && o.after.all fun e => !Region.binds md e || decide (e.on < i)
    | none => false) && (List.range n).all fun i => match ops[n]? with
    | some o => o.after.any fun e => Region.binds md e && e.on == i
    | none => false

/-- What is asked behind the others: the last operation. -/
def LastQ (P : Program) (ops : Array Oper) (o : Oper) (Q : Exit → Act → World → Prop) : Exit → Act → World → Prop
  | .normal, a, w => wpList P ops Q [o] a w
  | e, a, w => Q e a w

theorem LastQ.lets (h : LetsOut (LastQ P ops o Q)) : LetsOut Q := h

theorem upon_last {oi : Oper} {a : Act} {K K' : Act → World → Prop} (h : ∀ a w, K a w → K' a w) (r : Result Next) (hh : oi.upon P a K (LastQ P ops o Q) r) : oi.upon P a K' Q r := by
  cases r with
  | ok n w' =>
    cases n <;> simp only [Oper.upon] at hh ⊢ <;>
      first
        | exact h _ _ hh
        | (refine hh.mono ?_; intro e w'' he; cases e <;> first | exact h _ _ he | exact he)
        | exact hh
  | halt hl w' => cases hl <;> first | exact hh | exact hh.elim

theorem ready_mem {i : Nat} {listed : Array Bool} : i ∈ Region.ready md ops listed ↔ i < ops.size ∧ listed.getD i true = false ∧ ∃ oi, ops[i]? = some oi ∧ ∀ e ∈ oi.after, Region.binds md e = true → listed.getD e.on false = true := by
  unfold Region.ready
  simp only [List.mem_filter, List.mem_range, Bool.and_eq_true, Bool.not_eq_true', Option.getD_map]
  constructor
  · rintro ⟨h1, h2, h3⟩
    have hi : ops[i]? = some ops[i] := Array.getElem?_eq_getElem h1
    refine ⟨h1, h2, ops[i], hi, fun e he hb => ?_⟩
    rw [hi] at h3
    simp only [Option.map_some, Option.getD_some, Array.all_eq_true', Bool.or_eq_true, Bool.not_eq_true'] at h3
    rcases h3 e he with h | h
    · rw [hb] at h; cases h
    · exact h
  · rintro ⟨h1, h2, oi, hi, h3⟩
    refine ⟨h1, h2, ?_⟩
    rw [hi]
    simp only [Option.map_some, Option.getD_some, Array.all_eq_true', Bool.or_eq_true, Bool.not_eq_true']
    intro e he
    cases hb : Region.binds md e
    · exact .inl rfl
    · exact .inr (h3 e he hb)

structure LastP (md : Region.Mode) (ops : Array Oper) (o : Oper) (n : Nat) : Prop where
  size : ops.size = n + 1
  last : ops[n]? = some o
  all : ∀ i oi, ops[i]? = some oi → oi.guard = none ∧ ∀ e ∈ oi.after, Region.binds md e = true → e.on < i
  waits : ∀ i, i < n → ∃ e ∈ o.after, Region.binds md e = true ∧ e.on = i

theorem LastP.of {n : Nat} (h : lastB md ops n = true) (ho : ops[n]? = some o) : LastP md ops o n := by
  simp only [lastB, Bool.and_eq_true, decide_eq_true_eq, List.all_eq_true, List.mem_range] at h
  obtain ⟨⟨h1, h2⟩, h3⟩ := h
  refine ⟨h1, ho, fun i oi hi => ?_, fun i hi => ?_⟩
  · have hlt : i < n + 1 := by rw [← h1]; exact (Array.getElem?_eq_some_iff.1 hi).1
    have := h2 i hlt
    rw [hi] at this
    simp only [Bool.and_eq_true, Array.all_eq_true', Bool.or_eq_true, Bool.not_eq_true', decide_eq_true_eq] at this
    refine ⟨by simpa using this.1, fun e he hb => ?_⟩
    rcases this.2 e he with h | h
    · rw [hb] at h; cases h
    · exact h
  · have := h3 i hi
    rw [ho] at this
    obtain ⟨e, he, hb⟩ := Array.any_eq_true'.1 this
    simp only [Bool.and_eq_true, beq_iff_eq] at hb
    exact ⟨e, he, hb.1, hb.2⟩

variable {n : Nat}

theorem getD_push {listed : Array Bool} {i : Nat} {d : Bool} (h : i < listed.size) : (listed.push false).getD i d = listed.getD i d := by
  simp [Array.getD_eq_getD_getElem?, Array.getElem?_push, Nat.ne_of_lt h]
theorem getD_push_last {listed : Array Bool} {d : Bool} : (listed.push false).getD listed.size d = false := by
  simp [Array.getD_eq_getD_getElem?]

theorem LastP.frnt (h : LastP md ops o n) (hf : front.push o = ops) : front.size = n ∧ ∀ i, i < n → ops[i]? = front[i]? := by
  subst hf
  have h1 : front.size = n := by have := h.size; simp at this; exact this
  refine ⟨h1, fun i hi => ?_⟩
  rw [Array.getElem?_push, if_neg (by omega)]

theorem LastP.ready_front (h : LastP md ops o n) (hf : front.push o = ops) {listed : Array Bool} (hl : listed.size = n) {i : Nat} (hi : i < n) :
    i ∈ Region.ready md ops (listed.push false) ↔ i ∈ Region.ready md front listed := by
  obtain ⟨f1, f2⟩ := h.frnt hf
  rw [ready_mem, ready_mem, f2 i hi, getD_push (by omega), f1, h.size]
  constructor
  · rintro ⟨_, h2, oi, h3, h4⟩
    refine ⟨hi, h2, oi, h3, fun e he hb => ?_⟩
    have hlt := (h.all i oi (by rw [f2 i hi]; exact h3)).2 e he hb
    have := h4 e he hb
    rwa [getD_push (by omega)] at this
  · rintro ⟨_, h2, oi, h3, h4⟩
    refine ⟨by omega, h2, oi, h3, fun e he hb => ?_⟩
    have hlt := (h.all i oi (by rw [f2 i hi]; exact h3)).2 e he hb
    rw [getD_push (by omega)]
    exact h4 e he hb

theorem LastP.done (h : LastP md ops o n) (hf : front.push o = ops) {listed : Array Bool} (hl : listed.size = n) (hr : Region.ready md front listed = []) : ∀ i, i < n → listed[i]? = some true := by
  obtain ⟨f1, f2⟩ := h.frnt hf
  intro i
  induction i using Nat.strongRecOn with
  | ind i ih =>
    intro hi
    have hlt : i < listed.size := by omega
    cases hv : listed[i] with
    | true => rw [Array.getElem?_eq_getElem hlt, hv]
    | false =>
      have hm : i ∈ Region.ready md front listed := by
        rw [ready_mem]
        have hif : i < front.size := by omega
        refine ⟨hif, by simp [Array.getD_eq_getD_getElem?, hlt, hv], front[i], Array.getElem?_eq_getElem hif, fun e he hb => ?_⟩
        have hlt' := (h.all i _ ((f2 i hi).trans (Array.getElem?_eq_getElem hif))).2 e he hb
        simp [Array.getD_eq_getD_getElem?, ih e.on hlt' (by omega)]
      rw [hr] at hm
      cases hm

theorem LastP.ready_last (h : LastP md ops o n) {listed : Array Bool} (hl : listed.size = n) (hm : n ∈ Region.ready md ops (listed.push false)) : ∀ i, i < n → listed[i]? = some true := by
  obtain ⟨_, _, oi, h1, h2⟩ := ready_mem.1 hm
  rw [h.last] at h1
  cases h1
  intro i hi
  obtain ⟨e, he, hb, rfl⟩ := h.waits i hi
  have := h2 e he hb
  rw [getD_push (by omega)] at this
  rw [Array.getElem?_eq_getElem (by omega)]
  simpa [Array.getD_eq_getD_getElem?, Array.getElem?_eq_getElem (show e.on < listed.size by omega)] using this

theorem LastP.none_front {listed : Array Bool} (hf : front.size = n) (ha : ∀ i, i < n → listed[i]? = some true) : Region.ready md front listed = [] := by
  refine List.eq_nil_iff_forall_not_mem.2 fun i hi => ?_
  obtain ⟨h1, h2, _⟩ := ready_mem.1 hi
  simp [Array.getD_eq_getD_getElem?, ha i (by omega)] at h2

theorem LastP.fin (h : LastP md ops o n) (hf : front.push o = ops) {listed : Array Bool} (hl : listed.size = n) (hr : Region.ready md front listed = []) {a : Act} {w : World}
    (hQ : wpList P ops Q [o] a w) (fuel : Nat) : wpAny P md ops Q (fuel + 1) (listed.push false) a w := by
  have ha := h.done hf hl hr
  have hmem : n ∈ Region.ready md ops (listed.push false) := by
    refine ready_mem.2 ⟨by have := h.size; omega, by rw [← hl]; exact getD_push_last, o, h.last, fun e he hb => ?_⟩
    have hlt := (h.all n o h.last).2 e he hb
    rw [getD_push (by omega)]
    simp [Array.getD_eq_getD_getElem?, ha e.on hlt]
  refine ⟨(fun e => by rw [e] at hmem; cases hmem), fun i hi => ?_⟩
  have hi' := (ready_mem.1 hi).1
  rw [h.size] at hi'
  have hin : i = n := by
    rcases Nat.lt_or_ge i n with hlt | hge
    · have := (h.ready_front hf hl hlt).1 hi
      rw [hr] at this
      cases this
    · omega
  subst hin
  have hdone : ∀ a w, Q .normal a w → wpAny P md ops Q fuel ((listed.push false).setIfInBounds i true) a w := fun a w hq => by
    refine wpAny_done ?_ hq fuel
    refine List.eq_nil_iff_forall_not_mem.2 fun j hj => ?_
    obtain ⟨h1, h2, _⟩ := ready_mem.1 hj
    rw [h.size] at h1
    rcases Nat.lt_or_ge j i with hlt | hge
    · simp [Array.getD_eq_getD_getElem?, Array.getElem?_setIfInBounds, Nat.ne_of_gt hlt, Array.getElem?_push, ha j hlt, show ¬ j = listed.size by omega] at h2
    · have : j = i := by omega
      subst this
      simp [Array.getD_eq_getD_getElem?, Array.getElem?_setIfInBounds, hl] at h2
  unfold wpOp
  rw [h.last]
  simp only [wpList] at hQ
  dsimp only
  split
  · rename_i hw
    rw [if_pos hw] at hQ
    exact hQ.imp (Oper.wp_mono hdone) id
  · rename_i hw
    rw [if_neg hw] at hQ
    exact hdone _ _ hQ

theorem push_set (listed : Array Bool) (i : Nat) (hi : i < listed.size) : (listed.push false).setIfInBounds i true = (listed.setIfInBounds i true).push false := by
  refine Array.ext (by simp) fun j h1 h2 => ?_
  rw [Array.getElem_setIfInBounds (by simpa using h1), Array.getElem_push, Array.getElem_push]
  simp only [Array.size_setIfInBounds]
  by_cases hij : i = j
  · subst hij
    simp [hi]
  · by_cases hj : j < listed.size
    · simp [hij, hj, Array.getElem_setIfInBounds]
    · simp [hij, hj]

theorem LastP.split (h : LastP md ops o n) (hf : front.push o = ops) : ∀ (fuel : Nat) (listed : Array Bool) (a : Act) (w : World), listed.size = n →
    wpAny P md front (LastQ P ops o Q) fuel listed a w → wpAny P md ops Q (fuel + 1) (listed.push false) a w
  | 0, listed, a, w, hl, hh => h.fin hf hl hh.1 hh.2 0
  | fuel + 1, listed, a, w, hl, hh => by
    obtain ⟨f1, f2⟩ := h.frnt hf
    by_cases hr : Region.ready md front listed = []
    · exact h.fin hf hl hr (hh.1 hr) _
    · obtain ⟨j, hj⟩ := List.exists_mem_of_ne_nil _ hr
      have hjn : j < n := by have := (ready_mem.1 hj).1; omega
      refine ⟨fun e => ?_, fun i hi => ?_⟩
      · have := (h.ready_front hf hl hjn).2 hj
        rw [e] at this
        cases this
      · have hi' := (ready_mem.1 hi).1
        rw [h.size] at hi'
        rcases Nat.lt_or_ge i n with hlt | hge
        · have hif := (h.ready_front hf hl hlt).1 hi
          have hw := hh.2 i hif
          have hiz : i < front.size := by omega
          have hg : front[i]? = some front[i] := Array.getElem?_eq_getElem hiz
          have hg' := (f2 i hlt).trans hg
          unfold wpOp at hw ⊢
          rw [hg] at hw
          rw [hg']
          have hgd := (h.all i _ hg').1
          have hwt : ∀ y, Region.wanted front[i] y = true := fun y => by simp [Region.wanted, hgd]
          dsimp only at hw ⊢
          rw [if_pos (hwt _)] at hw ⊢
          refine hw.imp (fun hx => upon_last (fun a' w' hk => ?_) _ hx) (fun hx => ⟨hx.1, hx.2⟩)
          rw [push_set _ _ (by omega)]
          exact h.split hf fuel _ a' w' (by simpa using hl) hk
        · have : i = n := by omega
          subst this
          exact absurd (LastP.none_front (md := md) f1 (h.ready_last hl hi)) hr

/-- A region whose last operation waits for all others. -/
theorem wp_region_last {id : Nat} {a : Act} {w : World} (hf : front.push o = ops) (hm : P.follows .mixedOrders = true) (hB : lastB .any ops front.size = true) (hS : S w.drew)
    (h : S w.drew → wpAnyH P .any front (LastQ P ops o Q) S front.size (Array.replicate front.size false) a w.drew) : (Code.region id ops true).wp P Q a w := by
  have hP : LastP .any ops o front.size := LastP.of hB (by subst hf; simp)
  have hsz := hP.size
  have := hP.split hf (P := P) (Q := Q) front.size (Array.replicate front.size false) a w.drew (by simp) (wpAny_of_held _ _ _ _ (h hS))
  refine wp_region_any hm ?_
  rw [hsz, Array.replicate_succ]
  exact this

/-- The same, the operations read off the list. -/
theorem wp_region_last' {id : Nat} {os : List Oper} {a : Act} {w : World} (ho : os.getLast? = some o) (hm : P.follows .mixedOrders = true) (hB : lastB .any os.toArray os.dropLast.toArray.size = true) (hS : S w.drew)
    (h : S w.drew → wpAnyH P .any os.dropLast.toArray (LastQ P os.toArray o Q) S os.dropLast.length (Array.replicate os.dropLast.length false) a w.drew) : (Code.region id os.toArray true).wp P Q a w := by
  have hos : os.dropLast ++ [o] = os := by
    obtain ⟨ys, rfl⟩ := List.getLast?_eq_some_iff.1 ho
    simp
  have hf : os.dropLast.toArray.push o = os.toArray := by
    rw [List.push_toArray, hos]
  exact wp_region_last hf hm hB hS (fun hh => by simpa using h hh)

end

section
variable {P : Program} {Q : Exit → Act → World → Prop}

/-- An operation that may come up is taken first; the operation read off the list. -/
theorem heldTake {os : List Oper} {S : World → Prop} {md : Region.Mode} {i : Nat} {oi : Oper} {v : Value} {fuel : Nat} {listed : Array Bool} {a : Act} {w : World} (hi : os[i]? = some oi)
    (hs : Region.noSelect os.toArray = true) (hf : Region.free md os.toArray listed i = true) (hr : (Region.ready md os.toArray listed).contains i = true)
    (hQ : ∀ c a w, Q (.panic c) (a.put oi.dst v) w → Q (.panic c) a w) (hS : S w) (hy : YieldsIf P os.toArray S oi v a)
    (h : wpAnyH P md os.toArray Q S fuel (listed.setIfInBounds i true) (a.put oi.dst v) w) : wpAnyH P md os.toArray Q S (fuel + 1) listed a w :=
  wpAnyH_take (by simpa using hi) hs hf hr hQ hy hS h

/-- One operation alone may come up. -/
theorem heldOne {os : List Oper} {S : World → Prop} {md : Region.Mode} {i : Nat} {oi : Oper} {fuel : Nat} {listed : Array Bool} {a : Act} {w : World} (hi : os[i]? = some oi)
    (hr : Region.ready md os.toArray listed = [i]) (hw : Region.wanted oi (yielded os.toArray a.tmps) = true)
    (h : ∀ K : Act → World → Prop, Hid (∀ a' w', S w' → (S w' → wpAnyH P md os.toArray Q S fuel (listed.setIfInBounds i true) a' w') → K a' w') → oi.wp P a w K Q) : wpAnyH P md os.toArray Q S (fuel + 1) listed a w := by
  refine wpAnyH_all hr (by simp) fun j hj => ?_
  simp only [List.mem_singleton] at hj
  subst hj
  unfold wpOp
  rw [show os.toArray[j]? = some oi by simpa using hi]
  simp only [hw, if_true]
  exact .inl (h _ fun a' w' h1 h2 => ⟨h1, h2 h1⟩)

/-- One of two operations comes up. -/
theorem heldTwo {os : List Oper} {S : World → Prop} {md : Region.Mode} {i j : Nat} {oi oj : Oper} {fuel : Nat} {listed : Array Bool} {a : Act} {w : World} (hi : os[i]? = some oi) (hj : os[j]? = some oj)
    (hr : Region.ready md os.toArray listed = [i, j]) (hw : Region.wanted oi (yielded os.toArray a.tmps) = true) (hv : Region.wanted oj (yielded os.toArray a.tmps) = true)
    (h : ∀ K : Act → World → Prop, Hid (∀ a' w', S w' → (S w' → wpAnyH P md os.toArray Q S fuel (listed.setIfInBounds i true) a' w') → K a' w') → oi.wp P a w K Q)
    (h' : ∀ K : Act → World → Prop, Hid (∀ a' w', S w' → (S w' → wpAnyH P md os.toArray Q S fuel (listed.setIfInBounds j true) a' w') → K a' w') → oj.wp P a w K Q) : wpAnyH P md os.toArray Q S (fuel + 1) listed a w := by
  refine wpAnyH_all hr (by simp) fun k hk => ?_
  simp only [List.mem_cons, List.not_mem_nil, or_false] at hk
  rcases hk with rfl | rfl
  · unfold wpOp
    rw [show os.toArray[k]? = some oi by simpa using hi]
    simp only [hw, if_true]
    exact .inl (h _ fun a' w' h1 h2 => ⟨h1, h2 h1⟩)
  · unfold wpOp
    rw [show os.toArray[k]? = some oj by simpa using hj]
    simp only [hv, if_true]
    exact .inl (h' _ fun a' w' h1 h2 => ⟨h1, h2 h1⟩)

theorem heldDone {os : List Oper} {S : World → Prop} {md : Region.Mode} {listed : Array Bool} {a : Act} {w : World} (hr : Region.ready md os.toArray listed = []) (h : Q .normal a w) (fuel : Nat) : wpAnyH P md os.toArray Q S fuel listed a w := wpAnyH_done hr h fuel

end

end Go.Proofs.Ytadohkidfkbncaa
