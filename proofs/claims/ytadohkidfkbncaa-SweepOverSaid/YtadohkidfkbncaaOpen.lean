/-
  The arguments of the statements opened: glyphs as rows of points anywhere in memory, a grid by its six numbers; and shut: what a call leaves alone reads as it did.
-/
import Derived.Test.YtadohkidfkbncaaDots
import Derived.Test.YtadohkidfkbncaaLawS
import Derived.Test.YtadohkidfkbncaaRows
import Derived.ProofKit
import Derived.OpenShut
import Derived.Deep.Slices
import Derived.Deep.Strs
namespace Go.Proofs.Ytadohkidfkbncaa
open Go.ChangeShapes Go.WideShapes Go.ChangeAt Go.RowKit Go.Deep
set_option linter.unusedSimpArgs false

theorem len_three {α : Type} {l : List α} (h : l.length = 3) : ∃ a b c, l = [a, b, c] := by
  match l, h with
  | [a, b, c], _ => exact ⟨a, b, c, rfl⟩
theorem len_six {α : Type} {l : List α} (h : l.length = 6) : ∃ a b c d e f, l = [a, b, c, d, e, f] := by
  match l, h with
  | [a, b, c, d, e, f], _ => exact ⟨a, b, c, d, e, f, rfl⟩

section
variable {H : Type} {enc : TypeId × Value → H} {W : World} {base : Nat} {sp : Nat → Bool} {held : Bool} {fuel : Nat} {cs : List Value} {x : DataW H × List MemPlace}

theorem cellsOf_dot : Try.prog.cellsOf 115 = 3 := by kernel_rfl
theorem cellsOf_dots : Try.prog.cellsOf 72 = 1 := by kernel_rfl
theorem cellsOf_i16 : Try.prog.cellsOf 113 = 1 := by kernel_rfl
theorem cellsOf_bool : Try.prog.cellsOf 4 = 1 := by kernel_rfl
theorem cellsOf_u8 : Try.prog.cellsOf 5 = 1 := by kernel_rfl

theorem i16_bd {n : Int} (h : (Lit.int .i16 n).wf = true) : Bd 32768 n := by
  simp [Lit.wf, IntKind.min, IntKind.max, IntKind.signed, IntKind.bits] at h
  exact ⟨by omega, by omega⟩

/-- A point, by its three cells. -/
theorem dot_open (h : DataW.trod enc Try.prog W base sp held fuel 115 cs = some x) : ∃ d : Dt, d.ok ∧ cs = [.int .i16 d.x, .int .i16 d.y, .bool d.on] := by
  obtain ⟨y0, y1, y2, n, _, hl, h0, h1, h2⟩ := trod_struct3 Try.underlying115 h
  rw [cellsOf_dot] at hl
  obtain ⟨c0, c1, c2, rfl⟩ := len_three hl
  rw [cellsOf_i16] at h0 h1
  rw [cellsOf_bool] at h2
  obtain ⟨n0, e0, _, w0⟩ := DataW.trod_int Try.underlying113 h0
  obtain ⟨n1, e1, _, w1⟩ := DataW.trod_int Try.underlying113 h1
  obtain ⟨b2, e2, _⟩ := DataW.trod_bool Try.underlying4 h2
  simp only [List.drop, List.take, List.drop_zero, List.cons.injEq, and_true] at e0 e1 e2
  exact ⟨⟨n0, n1, b2⟩, ⟨i16_bd w0, i16_bd w1⟩, by rw [e0, e1, e2]⟩

/-- What stands at each place, chosen. -/
theorem choose_row {α : Type} {n : Nat} {p : Nat → α → Prop} (h : ∀ i, i < n → ∃ y, p i y) : ∃ l : List α, l.length = n ∧ ∀ (i : Nat) (y : α), l[i]? = some y → p i y := by
  induction n with
  | zero => exact ⟨[], rfl, fun i y hi => by simp at hi⟩
  | succ n ih =>
    obtain ⟨l, hl, hp⟩ := ih fun i hi => h i (by omega)
    obtain ⟨y, hy⟩ := h n (by omega)
    refine ⟨l ++ [y], by simp [hl], fun i z hi => ?_⟩
    rcases Nat.lt_or_ge i n with hlt | hge
    · rw [List.getElem?_append_left (by omega)] at hi
      exact hp i z hi
    · rw [List.getElem?_append_right (by omega)] at hi
      by_cases e : i = n
      · subst e
        simp [hl] at hi
        subst hi; exact hy
      · have : i - l.length ≠ 0 := by omega
        rw [List.getElem?_eq_none (by simp; omega)] at hi
        cases hi

/-- A row of points. -/
theorem dots_open (h : DataW.trod enc Try.prog W base sp held fuel 72 cs = some x) : ∃ (v : Value) (ds : List Dt), cs = [v] ∧ DotsAt W v ds := by
  rcases open_slice Try.underlying72 h with ⟨hcs, _⟩ | ⟨a, len, cap, m, n, D, Pl, hcs, _, hl, hm, hmm, _, hi⟩
  · exact ⟨_, [], hcs, none, 0, rfl, Nat.le_refl _, Nat.zero_le _, fun _ => rfl, (fun d hd => by cases hd), fun hne => absurd rfl hne⟩
  · have hlm : len ≤ m := by rw [hmm]; split <;> omega
    rw [cellsOf_dot] at hi
    obtain ⟨ds, hlen, hp⟩ := choose_row (n := len) (p := fun i (d : Dt) => d.ok ∧ W.cell? (a.add (i * 3)) = some (.int .i16 d.x) ∧ W.cell? (a.add (i * 3 + 1)) = some (.int .i16 d.y) ∧ W.cell? (a.add (i * 3 + 2)) = some (.bool d.on)) (fun i hil => by
      obtain ⟨cs', hc, ht⟩ := hi i (by omega)
      obtain ⟨d, hd, rfl⟩ := dot_open ht
      obtain ⟨_, _, hat⟩ := World.cells?_some hc
      have key : ∀ j y, j < 3 → ([Value.int .i16 d.x, .int .i16 d.y, .bool d.on] : List Value)[j]? = some y → W.cell? (a.add (i * 3 + j)) = some y := fun j y hj hy => by
        have := (hat j hj).trans hy
        rwa [Go.Deep.add_add] at this
      exact ⟨d, hd, key 0 _ (by omega) rfl, key 1 _ (by omega) rfl, key 2 _ (by omega) rfl⟩)
    refine ⟨_, ds, hcs, some a, cap, by rw [hlen], by omega, hm, (fun e => by cases e), fun d hd => ?_, fun hne => ?_⟩
    · obtain ⟨i, hi'⟩ := List.getElem?_of_mem hd
      exact (hp i d hi').1
    · obtain ⟨d0, l0, hds⟩ : ∃ d0 l0, ds = d0 :: l0 := by cases ds with
        | nil => exact absurd rfl hne
        | cons d0 l0 => exact ⟨_, _, rfl⟩
      obtain ⟨_, c0, _⟩ := hp 0 d0 (by rw [hds]; rfl)
      obtain ⟨b, off, spot⟩ := a
      have hs : spot = none := by simpa [Addr.add] using World.cell?_spot c0
      subst hs
      refine ⟨b, off, rfl, fun i d hid => ?_⟩
      obtain ⟨_, c0, c1, c2⟩ := hp i d hid
      have e : ∀ k, (⟨b, off, none⟩ : Addr).add k = ⟨b, off + k, none⟩ := fun k => by simp [Addr.add]
      rw [e] at c0 c1 c2
      exact ⟨c0, by rw [Nat.add_assoc]; exact c1, by rw [Nat.add_assoc]; exact c2⟩

/-- Rows of points. -/
theorem rows_open {v : Value} (h : DataW.trod enc Try.prog W base sp held fuel 22 [v] = some x) : ∃ dss : List (List Dt), RowsAt W v dss := by
  rcases open_slice Try.underlying22 h with ⟨hcs, _⟩ | ⟨a, len, cap, m, n, D, Pl, hcs, _, hl, hm, hmm, _, hi⟩
  · cases hcs
    exact ⟨[], none, 0, rfl, Nat.le_refl _, Nat.zero_le _, fun _ => rfl, fun hne => absurd rfl hne⟩
  · cases hcs
    have hlm : len ≤ m := by rw [hmm]; split <;> omega
    rw [cellsOf_dots] at hi
    obtain ⟨dss, hlen, hp⟩ := choose_row (n := len) (p := fun i (ds : List Dt) => ∃ u, W.cell? (a.add i) = some u ∧ DotsAt W u ds) (fun i hil => by
      obtain ⟨cs', hc, ht⟩ := hi i (by omega)
      obtain ⟨u, ds, rfl, hd⟩ := dots_open ht
      obtain ⟨_, _, hat⟩ := World.cells?_some hc
      have := hat 0 (by omega)
      rw [Go.Deep.add_add, Nat.mul_one, Nat.add_zero] at this
      exact ⟨ds, u, this, hd⟩)
    refine ⟨dss, some a, cap, by rw [hlen], by omega, hm, (fun e => by cases e), fun hne => ?_⟩
    obtain ⟨d0, l0, hds⟩ : ∃ d0 l0, dss = d0 :: l0 := by cases dss with
      | nil => exact absurd rfl hne
      | cons d0 l0 => exact ⟨_, _, rfl⟩
    obtain ⟨_, c0, _⟩ := hp 0 d0 (by rw [hds]; rfl)
    obtain ⟨b, off, spot⟩ := a
    have hs : spot = none := by simpa [Addr.add] using World.cell?_spot c0
    subst hs
    refine ⟨b, off, rfl, fun i d hid => ?_⟩
    obtain ⟨u, c0, c1⟩ := hp i d hid
    have e : (⟨b, off, none⟩ : Addr).add i = ⟨b, off + i, none⟩ := by simp [Addr.add]
    rw [e] at c0
    exact ⟨u, c0, c1⟩

theorem u8_bd {n : Int} (h : (Lit.int .u8 n).wf = true) : Byt n := by
  simp [Lit.wf, IntKind.min, IntKind.max, IntKind.signed, IntKind.bits] at h
  exact ⟨by omega, by omega⟩

theorem field_u8 {f : Field} {c : List Value} {y : DataW H × List MemPlace} (ht : f.type = 5) (h : DataW.trod enc Try.prog W base sp held fuel f.type ((c.drop f.offset).take (Try.prog.cellsOf f.type)) = some y) :
    ∃ z, (c.drop f.offset).take 1 = [.int .u8 z] ∧ Byt z := by
  rw [ht, cellsOf_u8] at h
  obtain ⟨z, e, _, hw⟩ := DataW.trod_int Try.underlying5 h
  exact ⟨z, e, u8_bd hw⟩

/-- A grid by its numbers. -/
theorem spc_open {v : Value} (hv : ∃ l : Array Value, v = .agg l) (h : DataW.trod enc Try.prog W base sp held fuel 24 v.cells.toList = some x) : ∃ s : Spc, v = s.val ∧ s.ok := by
  obtain ⟨⟨l⟩, rfl⟩ := hv
  have h' : DataW.trod enc Try.prog W base sp held fuel 24 l = some x := h
  obtain ⟨xs, n, _, _, hl, hlen, hf⟩ := DataW.trod_struct Try.underlying24 h'
  have hc : Try.prog.cellsOf 24 = 6 := by kernel_rfl
  rw [hc] at hl
  obtain ⟨c0, c1, c2, c3, c4, c5, rfl⟩ := len_six hl
  obtain ⟨y0, y1, y2, y3, y4, y5, rfl⟩ := len_six (hlen.trans rfl)
  obtain ⟨n0, e0, w0⟩ := field_u8 rfl (hf 0 _ rfl)
  obtain ⟨n1, e1, w1⟩ := field_u8 rfl (hf 1 _ rfl)
  obtain ⟨n2, e2, w2⟩ := field_u8 rfl (hf 2 _ rfl)
  obtain ⟨n3, e3, w3⟩ := field_u8 rfl (hf 3 _ rfl)
  obtain ⟨n4, e4, w4⟩ := field_u8 rfl (hf 4 _ rfl)
  obtain ⟨n5, e5, w5⟩ := field_u8 rfl (hf 5 _ rfl)
  obtain rfl : c0 = .int .u8 n0 := (List.cons.inj e0).1
  obtain rfl : c1 = .int .u8 n1 := (List.cons.inj e1).1
  obtain rfl : c2 = .int .u8 n2 := (List.cons.inj e2).1
  obtain rfl : c3 = .int .u8 n3 := (List.cons.inj e3).1
  obtain rfl : c4 = .int .u8 n4 := (List.cons.inj e4).1
  obtain rfl : c5 = .int .u8 n5 := (List.cons.inj e5).1
  exact ⟨⟨n0, n1, n2, n3, n4, n5⟩, rfl, w0, w1, w2, w3, w4, w5⟩
end

section
variable {H : Type} {enc : TypeId × Value → H} {P : Program}
/-- What a call leaves alone reads as it did. -/
theorem trodAll_stays (hl : laidOutB P = true) {W W' : World} (hb : Below W.heap.size W W') {sp : Nat → Bool} : ∀ {ts : List TypeId} {vs : List Value} {ds : List (DataW H)} {ps : List MemPlace},
    (∀ t ∈ ts, P.readableRec t = true ∧ t < P.types.size) → DataW.TrodAll enc P W 0 (fun _ => true) true ts vs ds ps → (∀ x ∈ ps, x.block < W.heap.size) → (∀ p ∈ ps, sp p.block = true) → DataW.TrodAll enc P W' 0 sp true ts vs ds ps
  | [], [], [], _, _, h, _, _ => h
  | _ :: _, _ :: _, _ :: _, _, ht, ⟨p, q, h1, h2, e⟩, hlt, hs =>
    ⟨p, q, WideElems.Trod_stays hl (ht _ (List.mem_cons.2 (Or.inl rfl))).1 (ht _ (List.mem_cons.2 (Or.inl rfl))).2 h1 (fun x hx => hb.same (hlt x (by rw [e]; exact List.mem_append_left _ hx))) (fun x hx => hs x (by rw [e]; exact List.mem_append_left _ hx)),
      trodAll_stays hl hb (fun t hm => ht t (List.mem_cons.2 (Or.inr hm))) h2 (fun x hx => hlt x (by rw [e]; exact List.mem_append_right _ hx)) (fun x hx => hs x (by rw [e]; exact List.mem_append_right _ hx)), e⟩
end

theorem Try.own : ownKnob Try.prog.godebug = none := by kernel_rfl
theorem Try.laidOut : laidOutB Try.prog = true := by kernel_rfl

/-- A law that answered true and left what there was alone. -/
theorem law_done {H : Type} {enc : TypeId × Value → H} {f : Func} {s : ChangeSpec} {W W' : World} {args : Array Value} {ds gs : List (DataW H)} {before : List MemPlace}
    (hr : f.resultTypes = #[4]) (hs : s.vars = []) (ht : ∀ t ∈ f.params.toList, Try.prog.readableRec t = true ∧ t < Try.prog.types.size)
    (hfn : (s.fn H (ds ++ gs)).results = [.lit (.bool true)] ∧ (s.fn H (ds ++ gs)).args = ds ∧ (s.fn H (ds ++ gs)).vars = [])
    (hW : DataW.Whole enc Try.prog f.params.toList s.vars false W args.toList ds gs before) (hb : Below W.heap.size W W') :
    s.post enc Try.prog f false true false false W args (.bool true) W' := by
  have hW' := hW
  have hlt := fun p hp => hW'.lt p hp
  obtain ⟨p, q, hA, hV, rfl, hfz, hnd⟩ := hW
  rw [hs] at hV
  obtain ⟨rfl, rfl⟩ := trodVars_none hV
  obtain ⟨r1, r2, r3⟩ := hfn
  simp only [List.append_nil] at hW' hlt
  have hres : ∀ (b : Nat) (sp : Nat → Bool) (hd : Bool), DataW.TrodAll enc Try.prog W' b sp hd f.resultTypes.toList ((Value.bool true).resultList f.resultTypes.size) (s.fn H (ds ++ [])).results [] := by
    intro b sp hd
    rw [r1, hr]
    exact trodAll_mk1 (shut_bool Try.underlying4 _)
  have hargs : ∀ sp : Nat → Bool, (∀ x ∈ p, sp x.block = true) → DataW.TrodAll enc Try.prog W' 0 sp true f.params.toList args.toList (s.fn H (ds ++ [])).args p := by
    intro sp hsp
    rw [r2]
    exact trodAll_stays Try.laidOut hb ht hA hlt hsp
  have hvars : ∀ sp : Nat → Bool, (∀ x ∈ p, sp x.block = true) → DataW.TrodVars enc Try.prog W' sp s.vars (s.fn H (ds ++ [])).vars [] := by
    intro sp hsp
    rw [r3, hs]
    exact rfl
  have hold : ∀ x ∈ p, (fun b => decide (b < W.heap.size)) x.block = true := fun x hx => by simpa using hlt x hx
  exact ⟨ds, [], p, [], p, [], hW', hres _ _ _, hargs _ hold, hvars _ hold, hb.frame _, fun h => by cases h⟩
end Go.Proofs.Ytadohkidfkbncaa
