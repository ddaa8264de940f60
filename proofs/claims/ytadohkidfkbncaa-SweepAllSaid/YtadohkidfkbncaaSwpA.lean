/-
  The walks of sweep: texels, what is known of them.
-/
import Derived.Test.YtadohkidfkbncaaGrid
import Derived.Test.YtadohkidfkbncaaDist
namespace Go.Proofs.Ytadohkidfkbncaa
open Go.RowKit
set_option linter.unusedSimpArgs false

/-- The texel nearest to a place, one of its two numbers. -/
def clampE (many f : Int) : Int := max 0 (min (many - 1) f)
def texI (x0 p many x : Int) : Int := clampE many ((x - x0 * 32) / (p * 32))

theorem clampE_bd {many f : Int} (h : 1 ≤ many) : 0 ≤ clampE many f ∧ clampE many f < many := by unfold clampE; omega

def inG (g : Grd) (i k : Int) : Prop := 0 ≤ i ∧ 0 ≤ k ∧ i < g.w ∧ k < g.h
instance (g : Grd) (i k : Int) : Decidable (inG g i k) := inferInstanceAs (Decidable (_ ∧ _ ∧ _ ∧ _))
def ixOf (g : Grd) (i k : Int) : Nat := (k * g.w + i).toNat
def getI (l : List Int) (n : Nat) : Int := (l[n]?).getD (-1)

/-- What a texel keeps when it is told of an edge. -/
def offerE (es : List Edg) (g : Grd) (l : List Int) (i k e : Int) : List Int :=
  if e < 0 then l
  else if getI l (ixOf g i k) < 0 ∨ ¬ fle (sqAt es (cen g.x g.p i) (cen g.y g.p k) (getI l (ixOf g i k))) (sqAt es (cen g.x g.p i) (cen g.y g.p k) e) then l.set (ixOf g i k) e else l
/-- The edge that a texel knows of. -/
def knowsE (g : Grd) (l : List Int) (i k : Int) : Int := if inG g i k then getI l (ixOf g i k) else -1

theorem ix_bd {g : Grd} {i k : Int} (hg : g.ok) (h : inG g i k) : 0 ≤ k * g.w ∧ k * g.w ≤ 552 ∧ k * g.w + i < g.w * g.h ∧ (k * g.w + i).toNat = ixOf g i k ∧ (ixOf g i k : Int) = k * g.w + i := by
  obtain ⟨h1, h2, h3, h4⟩ := h
  obtain ⟨_, _, _, ⟨w1, w2⟩, ⟨e1, e2⟩, _⟩ := hg
  have a := Int.mul_le_mul (show k ≤ 23 by omega) w2 (by omega) (by omega)
  have b := Int.mul_nonneg h2 (show 0 ≤ g.w by omega)
  have c : (k + 1) * g.w ≤ g.h * g.w := Int.mul_le_mul_of_nonneg_right (by omega) (by omega)
  rw [Int.add_mul, Int.one_mul, Int.mul_comm g.h] at c
  exact ⟨b, by omega, by omega, rfl, by unfold ixOf; omega⟩

/-- A table in memory. -/
structure TB (w0 w : World) (B A cap : Nat) (v : Value) (es : List Edg) (g : Grd) (l : List Int) : Prop where
  he : EdgesAt w0 v es
  bel : Below w0.heap.size w0 w
  hA : w0.heap.size ≤ A
  hB : w0.heap.size ≤ B
  ne : A ≠ B
  c0 : w.cell? ⟨B, 0, none⟩ = some v
  c1 : w.cell? ⟨B, 1, none⟩ = some (.int .i64 (g.x))
  c2 : w.cell? ⟨B, 2, none⟩ = some (.int .i64 (g.y))
  c3 : w.cell? ⟨B, 3, none⟩ = some (.int .i64 (g.p))
  c4 : w.cell? ⟨B, 4, none⟩ = some (.int .i64 (g.w))
  c5 : w.cell? ⟨B, 5, none⟩ = some (.int .i64 (g.h))
  c6 : w.cell? ⟨B, 6, none⟩ = some (.int .i64 (g.s))
  c7 : w.cell? ⟨B, 7, none⟩ = some (.slice (some ⟨A, 0, none⟩) l.length cap)
  len : (l.length : Int) = g.w * g.h
  lA : A < w.heap.size
  at' : ∀ (n : Nat) (x : Int), l[n]? = some x → w.cell? ⟨A, n, none⟩ = some (.int .i64 (x)) ∧ w.frozen? ⟨A, n, none⟩ = false

theorem TB.of_blocks {w0 w w1 : World} {B A cap : Nat} {v : Value} {es : List Edg} {g : Grd} {l : List Int} (h : TB w0 w B A cap v es g l) (hb : Below w0.heap.size w0 w1) (h1 : w1.heap[B]? = w.heap[B]?) (h2 : w1.heap[A]? = w.heap[A]?) : TB w0 w1 B A cap v es g l := by
  have cB : ∀ o, w1.cell? ⟨B, o, none⟩ = w.cell? ⟨B, o, none⟩ := fun o => World.cell?_of_block h1
  have cA : ∀ o, w1.cell? ⟨A, o, none⟩ = w.cell? ⟨A, o, none⟩ := fun o => World.cell?_of_block h2
  have fA : ∀ o, w1.frozen? ⟨A, o, none⟩ = w.frozen? ⟨A, o, none⟩ := fun o => World.frozen?_of_block h2
  refine ⟨h.he, hb, h.hA, h.hB, h.ne, (cB _).trans h.c0, (cB _).trans h.c1, (cB _).trans h.c2, (cB _).trans h.c3, (cB _).trans h.c4, (cB _).trans h.c5, (cB _).trans h.c6, (cB _).trans h.c7, h.len, ?_, fun n x hn => ?_⟩
  · have hl := Array.getElem?_eq_getElem h.lA
    exact (Array.getElem?_eq_some_iff.1 (h2.trans hl)).1
  · obtain ⟨k1, k2⟩ := h.at' n x hn
    exact ⟨(cA _).trans k1, (fA _).trans k2⟩

theorem TB.below {w0 w w1 : World} {B A cap : Nat} {v : Value} {es : List Edg} {g : Grd} {l : List Int} (h : TB w0 w B A cap v es g l) (hb : Below w.heap.size w w1) : TB w0 w1 B A cap v es g l :=
  h.of_blocks (h.bel.trans (hb.mono h.bel.size)) (hb.block B (blt h.c0)) (hb.block A h.lA)

theorem TB.get {w0 w : World} {B A cap : Nat} {v : Value} {es : List Edg} {g : Grd} {l : List Int} (h : TB w0 w B A cap v es g l) (hg : g.ok) {i k : Int} (hi : inG g i k) :
    l[ixOf g i k]? = some (getI l (ixOf g i k)) ∧ w.cell? ⟨A, (k * g.w + i).toNat, none⟩ = some (.int .i64 (getI l (ixOf g i k))) ∧ w.frozen? ⟨A, (k * g.w + i).toNat, none⟩ = false := by
  obtain ⟨_, _, h3, h4, h5⟩ := ix_bd hg hi
  have hl := h.len
  have hn : l[ixOf g i k]? = some (getI l (ixOf g i k)) := by
    unfold getI
    rw [List.getElem?_eq_getElem (show ixOf g i k < l.length by omega)]; rfl
  rw [h4]
  exact ⟨hn, h.at' _ _ hn⟩

set_option maxHeartbeats 1600000 in
theorem swtexel_c (g : Grd) (x y : Int) (w : World) (hg : g.ok) (hx : Bd 8192 x) (hy : Bd 8192 y) :
    Calls Try.prog 38 #[.agg #[(.int .i64 (g.x)), (.int .i64 (g.y)), (.int .i64 (g.p)), (.int .i64 (g.w)), (.int .i64 (g.h)), (.int .i64 (g.s))], .agg #[(.int .i64 (x)), (.int .i64 (y))]] w fun r w' => r = .returned (.tuple #[(.int .i64 (texI g.x g.p g.w x)), (.int .i64 (texI g.y g.p g.h y))]) ∧ Below w.heap.size w w' := by
  obtain ⟨⟨x1, x2⟩, ⟨y1, y2⟩, ⟨p1, p2⟩, ⟨w1, w2⟩, ⟨h1, h2⟩, s1, s2⟩ := hg
  obtain ⟨a1, a2⟩ := hx
  obtain ⟨b1, b2⟩ := hy
  have E1 : ∀ F m : Int, ∃ M, (if F < m - 1 then F else m - 1) = M ∧ (if 0 < M then M else 0) = clampE m F := by
    intro F m
    refine ⟨_, rfl, ?_⟩
    unfold clampE
    split <;> split <;> omega
  obtain ⟨M1, hX⟩ := E1 ((x - g.x * 32) / (g.p * 32)) g.w
  obtain ⟨M2, hY⟩ := E1 ((y - g.y * 32) / (g.p * 32)) g.h
  have HX := Lib.hid hX
  have HY := Lib.hid hY
  clear E1 hX hY
  have t1 : IntKind.i64.wrap (g.x * 32) = g.x * 32 := IntWalk.i64_in _ (by omega)
  have t2 : IntKind.i64.wrap (g.y * 32) = g.y * 32 := IntWalk.i64_in _ (by omega)
  have t3 : IntKind.i64.wrap (x - g.x * 32) = x - g.x * 32 := IntWalk.i64_in _ (by omega)
  have t4 : IntKind.i64.wrap (y - g.y * 32) = y - g.y * 32 := IntWalk.i64_in _ (by omega)
  have t5 : IntKind.i64.wrap (g.w - 1) = g.w - 1 := IntWalk.i64_in _ (by omega)
  have t6 : IntKind.i64.wrap (g.h - 1) = g.h - 1 := IntWalk.i64_in _ (by omega)
  have T := Lib.hid (And.intro t1 (And.intro t2 (And.intro t3 (And.intro t4 (And.intro t5 t6)))))
  have r1 : -4611686018427387904 ≤ x - g.x * 32 ∧ x - g.x * 32 ≤ 4611686018427387904 := by clear t1 t2 t3 t4 t5 t6; omega
  have r2 : -4611686018427387904 ≤ y - g.y * 32 ∧ y - g.y * 32 ≤ 4611686018427387904 := by clear t1 t2 t3 t4 t5 t6; omega
  have r3 : 1 ≤ g.p * 32 ∧ g.p * 32 ≤ 9223372036854775807 := by clear t1 t2 t3 t4 t5 t6; omega
  have R := Lib.hid (And.intro r1 (And.intro r2 r3))
  clear t1 t2 t3 t4 t5 t6 r1 r2 r3
  go_enter Try.func38, Try.ntmps38
  go_wp2_with fail
  obtain ⟨t1, t2, t3, t4, t5, t6⟩ := T.out
  obtain ⟨m1, m2⟩ := HX.out
  obtain ⟨m3, m4⟩ := HY.out
  go_quiet ((go_at_call 17; exact Calls.quiet_of_same ((floor_c _ _ _ (by first | exact R.out.1.1 | exact R.out.2.1.1) (by first | exact R.out.1.2 | exact R.out.2.1.2) R.out.2.2.1 R.out.2.2.2).mono fun _ _ h => ⟨h.1, h.2.symm⟩)))
  go_wp2_with fail
  go_returns
  exact ⟨rfl, (by repeat' (first | (with_reducible exact Below.refl _ _) | (with_reducible assumption) | (with_reducible refine below_drewN ?_ _) | (with_reducible refine Below.alloc ?_ ?_ _) | (with_reducible refine Below.drew ?_) | (with_reducible refine Below.setCell ?_ ?_ _) | (with_reducible refine below_var ?_ ?_ (by assumption)) | (with_reducible refine below_own' ?_ (by assumption) (by assumption) ?_ ?_) | go_size))⟩

set_option maxHeartbeats 1600000 in
theorem knows_c {w0 w : World} {B A cap : Nat} {v : Value} {es : List Edg} {g : Grd} {l : List Int} (h : TB w0 w B A cap v es g l) (hg : g.ok) (i k : Int) (hi : -1 ≤ i ∧ i ≤ 24) (hk : -1 ≤ k ∧ k ≤ 24) :
    Calls Try.prog 40 #[.pointer (some ⟨B, 0, none⟩), (.int .i64 (i)), (.int .i64 (k))] w fun r w' => r = .returned (.int .i64 (knowsE g l i k)) ∧ Below w.heap.size w w' := by
  have e4 := h.c4
  have e5 := h.c5
  have e7 := h.c7
  by_cases hin : inG g i k
  · obtain ⟨g1, g2, g3⟩ := h.get hg hin
    obtain ⟨q1, q2, q3, -, -⟩ := ix_bd hg hin
    have hl := h.len
    have q4 : k * g.w + i < l.length := by omega
    have HF := Lib.hid (show knowsE g l i k = getI l (ixOf g i k) from if_pos hin)
    obtain ⟨i1, i2, i3, i4⟩ := hin
    clear hl h g1 q3
    have hz : (k * g.w + i).toNat < l.length := by omega
    have u1 : IntKind.i64.wrap (k * g.w) = k * g.w := IntWalk.i64_in _ (by omega)
    have u2 : IntKind.i64.wrap (k * g.w + i) = k * g.w + i := IntWalk.i64_in _ (by omega)
    have u3 : 0 ≤ k * g.w + i := by omega
    go_enter Try.func40, Try.ntmps40
    go_wp2_with fail
    go_quiet (fail)
    go_wp2_with fail
    go_ret
    rw [HF.out]
    exact ⟨rfl, (by repeat' (first | (with_reducible exact Below.refl _ _) | (with_reducible assumption) | (with_reducible refine below_drewN ?_ _) | (with_reducible refine Below.alloc ?_ ?_ _) | (with_reducible refine Below.drew ?_) | (with_reducible refine Below.setCell ?_ ?_ _) | (with_reducible refine below_var ?_ ?_ (by assumption)) | (with_reducible refine below_own' ?_ (by assumption) (by assumption) ?_ ?_) | go_size))⟩
  · have HF := Lib.hid (show knowsE g l i k = -1 from if_neg hin)
    have hc : i < 0 ∨ (0 ≤ i ∧ k < 0) ∨ (0 ≤ i ∧ 0 ≤ k ∧ g.w ≤ i) ∨ (0 ≤ i ∧ 0 ≤ k ∧ i < g.w ∧ g.h ≤ k) := by unfold inG at hin; omega
    clear h hin
    rcases hc with h1 | ⟨h1, h2⟩ | ⟨h1, h2, h3⟩ | ⟨h1, h2, h3, h4⟩
    all_goals
      go_enter Try.func40, Try.ntmps40
      go_wp2_with fail
      go_ret
      rw [HF.out]
      exact ⟨rfl, (by repeat' (first | (with_reducible exact Below.refl _ _) | (with_reducible assumption) | (with_reducible refine below_drewN ?_ _) | (with_reducible refine Below.alloc ?_ ?_ _) | (with_reducible refine Below.drew ?_) | (with_reducible refine Below.setCell ?_ ?_ _) | (with_reducible refine below_var ?_ ?_ (by assumption)) | (with_reducible refine below_own' ?_ (by assumption) (by assumption) ?_ ?_) | go_size))⟩

end Go.Proofs.Ytadohkidfkbncaa
