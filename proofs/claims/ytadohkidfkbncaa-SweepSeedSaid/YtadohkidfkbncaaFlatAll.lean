/-
  The walk of flat.All; what its row of edges holds.
-/
import Derived.Test.YtadohkidfkbncaaPathAll
namespace Go.Proofs.Ytadohkidfkbncaa
open Go.RowKit
set_option linter.unusedSimpArgs false

theorem putE_ok {es : List Edg} {a b c d : Int} (h : ∀ e ∈ es, e.ok) (h1 : Bd 8160 a) (h2 : Bd 8160 b) (h3 : Bd 8160 c) (h4 : Bd 8160 d) : ∀ e ∈ putE es a b c d, e.ok := by
  unfold putE
  split
  · exact h
  · intro e he
    rcases List.mem_append.1 he with h' | h'
    · exact h e h'
    · simp only [List.mem_singleton] at h'; subst h'; exact edg_ok h1 h2 h3 h4

theorem crvTo_ok {g : Sg} {es : List Edg} (hg : g.ok) (h : ∀ e ∈ es, e.ok) : ∀ k, k ≤ 4 → ∀ e ∈ crvTo g es k, e.ok
  | 0, _ => h
  | k + 1, hk => putE_ok (crvTo_ok hg h k (by omega)) (onX_bd (by omega) (by omega) hg.1 hg.2.2.1 hg.2.2.2.2.1) (onX_bd (by omega) (by omega) hg.2.1 hg.2.2.2.1 hg.2.2.2.2.2) (onX_bd (by omega) (by omega) hg.1 hg.2.2.1 hg.2.2.2.2.1) (onX_bd (by omega) (by omega) hg.2.1 hg.2.2.2.1 hg.2.2.2.2.2)

theorem pieceE_ok {g : Sg} {es : List Edg} (hg : g.ok) (h : ∀ e ∈ es, e.ok) : ∀ e ∈ pieceE es g, e.ok := by
  unfold pieceE
  split
  · exact crvTo_ok hg h 4 (by omega)
  · exact putE_ok h (bd16 hg.1) (bd16 hg.2.1) (bd16 hg.2.2.2.2.1) (bd16 hg.2.2.2.2.2)

theorem foldE_ok : ∀ {l : List Sg} {es : List Edg}, (∀ g ∈ l, g.ok) → (∀ e ∈ es, e.ok) → ∀ e ∈ l.foldl pieceE es, e.ok
  | [], _, _, h => h
  | g :: l, es, hl, h => foldE_ok (l := l) (es := pieceE es g) (fun x hx => hl x (List.mem_cons_of_mem _ hx)) (pieceE_ok (hl g (List.mem_cons_self ..)) h)

theorem flatE_ok {l : List Sg} (hl : ∀ g ∈ l, g.ok) : ∀ e ∈ flatE l, e.ok := foldE_ok hl (fun e h => by cases h)
theorem flatE_len (l : List Sg) : (flatE l).length ≤ 4 * l.length := by have := flat_len l []; unfold flatE; simpa using this

/-- The edges of all contours. -/
def flatAll (ls : List (List Sg)) : List Edg := ls.flatMap flatE
theorem flatAll_snoc {ls : List (List Sg)} {i : Nat} {l : List Sg} (h : ls[i]? = some l) : flatAll (ls.take (i + 1)) = flatAll (ls.take i) ++ flatE l := by
  unfold flatAll
  rw [take_snoc' h, List.flatMap_append]; simp
theorem edCells_append (a b : List Edg) : edCells (a ++ b) = edCells a ++ edCells b := by simp [edCells]
theorem edCells_len (l : List Edg) : (edCells l).length = l.length * 4 := by
  induction l with
  | nil => rfl
  | cons e l ih =>
    have : edCells (e :: l) = e.cells ++ edCells l := rfl
    rw [this, List.length_append, ih]
    simp [Edg.cells]; omega

theorem edCells_get : ∀ {l : List Edg} {i j : Nat} {g : Edg}, l[i]? = some g → j < 4 → (edCells l)[i * 4 + j]? = g.cells[j]?
  | [], _, _, _, h, _ => by simp at h
  | x :: l, 0, j, g, h, hj => by
    simp at h; subst h
    have : edCells (x :: l) = x.cells ++ edCells l := rfl
    rw [this, List.getElem?_append_left (by simpa [Edg.cells] using hj)]
    simp
  | x :: l, i + 1, j, g, h, hj => by
    simp at h
    have : edCells (x :: l) = x.cells ++ edCells l := rfl
    have hx : x.cells.length = 4 := rfl
    rw [this, List.getElem?_append_right (by omega), hx, show (i + 1) * 4 + j - 4 = i * 4 + j by omega]
    exact edCells_get h hj

theorem edgesAt_of_own {w : World} {K : Nat} {u : Value} {l : List Edg} (h : w.ownsRow K 41 4 u l.length (edCells l)) (hl : l.length ≤ 1000000) (hok : ∀ e ∈ l, e.ok) : EdgesAt w u l := by
  rcases h.2 with ⟨rfl, h0⟩ | ⟨g, cap, cur, rfl, hB, hg, hrest⟩
  · have : l = [] := List.eq_nil_of_length_eq_zero h0
    subst this
    exact ⟨0, 0, none, rfl, by simp, fun h => absurd rfl h, (fun e he => by cases he), (fun i g hi => by simp at hi)⟩
  · refine ⟨g, cap, _, rfl, hl, fun _ => rfl, hok, fun i x hi => ?_⟩
    have key : ∀ j y, j < 4 → x.cells[j]? = some y → w.cell? ⟨g, i * 4 + j, none⟩ = some y := fun j y hj hy => by
      have := h.cells (g := g) rfl (i * 4 + j) y ((edCells_get hi hj).trans hy)
      rwa [show ((⟨g, 0, none⟩ : Addr).add (i * 4 + j)) = ⟨g, i * 4 + j, none⟩ by unfold Addr.add; split <;> simp_all] at this
    exact ⟨key 0 _ (by omega) rfl, key 1 _ (by omega) rfl, key 2 _ (by omega) rfl, key 3 _ (by omega) rfl⟩

theorem flatAll_len {ls : List (List Sg)} (h : ∀ l ∈ ls, l.length ≤ 1000) : (flatAll ls).length ≤ 4000 * ls.length := by
  induction ls with
  | nil => simp [flatAll]
  | cons l ls ih =>
    have h1 := ih (fun x hx => h x (List.mem_cons_of_mem _ hx))
    have h2 := flatE_len l
    have h3 := h l (List.mem_cons_self ..)
    have : flatAll (l :: ls) = flatE l ++ flatAll ls := rfl
    rw [this, List.length_append, List.length_cons]
    omega

set_option maxRecDepth 20000 in
set_option maxHeartbeats 1600000 in
theorem flatAll_c {w : World} {K : Nat} {u : Value} {ls : List (List Sg)} (h : Nest SegIn w K 99 u ls) (hl : ls.length ≤ 100) (hls : ∀ l ∈ ls, l.length ≤ 1000) :
    Calls Try.prog 35 #[u] w fun r w' => (∃ u', r = .returned u' ∧ w'.ownsRow w.heap.size 41 4 u' (flatAll ls).length (edCells (flatAll ls))) ∧ Below w.heap.size w w' := by
  obtain ⟨g, cap, a, rfl, ha⟩ := h.form
  have HN := Lib.hid h
  have HA := Lib.hid ha
  have HLS := Lib.hid hls
  obtain ⟨i0, hi, hz0, hz1, hz2⟩ := info_parts info_edge
  clear h ha hls
  go_enter Try.func35, Try.ntmps35
  go_wp2_with fail
  go_loopw [3, 8] (fun o k wr => ∃ i : Nat, i ≤ ls.length ∧ k = (.int .i64 (i)) ∧ wr.ownsRow w.heap.size 41 4 o (flatAll (ls.take i)).length (edCells (flatAll (ls.take i))) ∧ Below w.heap.size w wr) (fun _ k wr => ls.length - (intOf k).toNat)
  case atStart => exact ⟨0, by omega, rfl, World.ownsRow_nil _ _ _ _, Below.refl _ _⟩
  case round =>
    obtain ⟨i, hi', rfl, hO, hB⟩ := hrel
    have hzr : w.heap.size ≤ wr.heap.size := hB.size
    by_cases hlt : i < ls.length
    · obtain ⟨l, hli, hlm⟩ := get_of_lt hlt
      have hane := HA.out (ne_nil_of_lt hlt)
      subst hane
      obtain ⟨v, b, hv, hV⟩ := (HN.out.below SegIn.keeps hB).get hli
      have HV := Lib.hid hV
      have HT := Lib.hid (flatAll_snoc hli)
      have h1 := flatAll_len (ls := ls.take i) (fun x hx => HLS.out x (List.mem_of_mem_take hx))
      have h2 := flatE_len l
      have h3 := HLS.out l hlm
      have h4 : (ls.take i).length ≤ 100 := by simp; omega
      obtain ⟨n, hn⟩ : ∃ n, n = (flatAll (ls.take i)).length := ⟨_, rfl⟩
      obtain ⟨xs, hxs⟩ : ∃ xs, xs = edCells (flatAll (ls.take i)) := ⟨_, rfl⟩
      rw [← hn, ← hxs] at hO
      have HLN := Lib.hid (show n ≤ 400000 ∧ (flatE l).length ≤ 4000 by omega)
      have HNX := Lib.hid (show n = (flatAll (ls.take i)).length ∧ xs = edCells (flatAll (ls.take i)) from ⟨hn, hxs⟩)
      clear hli hlm hV h1 h2 h3 h4 hn hxs
      go_wp2_with fail
      go_call edges_c v l _ HV.out.at as r w1 ⟨⟨u2, rfl, ho⟩, hb1⟩
      have hO1 := ownsRow_below hO hb1
      have hzz := hb1.size
      have HLT := Lib.hid HT.out
      clear hO
      go_wp2_with (at_builtin; go_must (refine wpList_append_rows rfl _ _ 26 rfl w.heap.size 41 i0 _ 4 32 Try.underlying26 hi hz0 hz1 hz2 rfl (by decide) _ n xs rfl hO1 u2 _ _ _ rfl ho (edCells_one _) ?c4 ?c5 ?c6 ?_))
      case c4 => have := HLN.out; unfold maxLen; omega
      case c5 => have := HLN.out; omega
      case c6 => omega
      intro v' wa hown2 hgrow hat
      have hBa : Below w.heap.size w wa := grown_own (hB.trans (hb1.mono (by omega))) hgrow hO1 (Nat.le_refl _) (by omega)
      have HO2 := Lib.hid hown2
      clear hown2 hgrow hat hO1 ho
      go_wp2_with fail
      go_roundw
      case rel => exact ⟨i + 1, by omega, by go_num, by rw [HT.out, List.length_append, edCells_append, ← HNX.out.1, ← HNX.out.2]; exact HO2.out, hBa⟩
      case measure => simp [intOf]; omega
    · have HI := Lib.hid (show ls.take i = ls from take_all (by omega))
      have HOO := Lib.hid hO
      clear hO
      go_wp2_with fail
      go_ret
      refine ⟨⟨_, rfl, ?_⟩, hB⟩
      have := HOO.out
      rw [HI.out] at this
      exact this

end Go.Proofs.Ytadohkidfkbncaa
