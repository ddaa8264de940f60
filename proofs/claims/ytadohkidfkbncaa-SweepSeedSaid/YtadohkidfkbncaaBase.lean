/-
  Small lemmas for the walks: worlds, sizes, blocks. No function of the program is spoken of.
-/
import Derived.Test.YtadohkidfkbncaaRows
import Derived.Test.YtadohkidfkbncaaGeo
import Derived.WalkKit
import Derived.WalkSpells
import Derived.WalkLawsBesides
import Derived.BigQuiet
import Derived.Handy
import Derived.Lib.Hide
import Derived.Deep.QuietTactic
import Derived.Deep.RegionHeld3
import Derived.Deep.DeepCutAuto
import Derived.Deep.LoopGhost
namespace Go.Proofs.Ytadohkidfkbncaa
open Go.RowKit
set_option linter.unusedSimpArgs false

theorem bcell {W w1 : World} (hb : Below W.heap.size W w1) : (∀ b o, b < W.heap.size → w1.cell? ⟨b, o, none⟩ = W.cell? ⟨b, o, none⟩) ∧ (∀ b o, b < W.heap.size → w1.frozen? ⟨b, o, none⟩ = W.frozen? ⟨b, o, none⟩) :=
  ⟨fun b o h => hb.cell (p := ⟨b, o, none⟩) h, fun b o h => hb.frozen (p := ⟨b, o, none⟩) h⟩

theorem bcell3 {W w1 : World} (hb : Below W.heap.size W w1) : (∀ b o, b < W.heap.size → w1.cell? ⟨b, o, none⟩ = W.cell? ⟨b, o, none⟩) ∧ (∀ b o, b < W.heap.size → w1.frozen? ⟨b, o, none⟩ = W.frozen? ⟨b, o, none⟩) ∧ ∀ n, n < W.heap.size → n < w1.heap.size :=
  ⟨fun b o h => hb.cell (p := ⟨b, o, none⟩) h, fun b o h => hb.frozen (p := ⟨b, o, none⟩) h, fun _ h => Nat.lt_of_lt_of_le h hb.size⟩

theorem blt {w : World} {b o : Nat} {v : Value} (h : w.cell? ⟨b, o, none⟩ = some v) : b < w.heap.size := World.block_lt_of_cell? _ _ h

theorem below_var {B : Nat} {W a w1 : World} (h1 : Below B W a) (hB : B ≤ a.heap.size) (h : Below a.heap.size a w1) : Below B W w1 := h1.trans (h.mono hB)

theorem below_drewN {B : Nat} {a w : World} (h : Below B a w) (n : Nat) : Below B a (w.drewN n) := ⟨h.os, h.tape, h.output, h.size, h.block⟩

theorem ownsRow_below {w w1 : World} {B : Nat} {e : TypeId} {sz : Nat} {v : Value} {n : Nat} {xs : List Value} (h : w.ownsRow B e sz v n xs) (hb : Below w.heap.size w w1) : w1.ownsRow B e sz v n xs := by
  obtain ⟨h1, h2⟩ := h
  refine ⟨h1, ?_⟩
  rcases h2 with h2 | ⟨g, cap, cur, rfl, hB, hg, rest⟩
  · exact .inl h2
  · exact .inr ⟨g, cap, cur, rfl, hB, (hb.block g (Array.getElem?_eq_some_iff.1 hg).1).trans hg, rest⟩

theorem own_down {w : World} {B B' : Nat} {e : TypeId} {sz : Nat} {v : Value} {n : Nat} {xs : List Value} (h : w.ownsRow B e sz v n xs) (hB : B' ≤ B) : w.ownsRow B' e sz v n xs := by
  obtain ⟨h1, h2⟩ := h
  refine ⟨h1, ?_⟩
  rcases h2 with h2 | ⟨g, cap, cur, rfl, h3, rest⟩
  · exact .inl h2
  · exact .inr ⟨g, cap, cur, rfl, Nat.le_trans hB h3, rest⟩

theorem below_own {w w1 : World} {B : Nat} {e : TypeId} {sz : Nat} {v : Value} {n : Nat} {xs : List Value} {a : World} (h : Below B a w) (hg : w.grownBy w1 v.ownBlock) (hB : B ≤ w.heap.size) (ho : w.ownsRow B e sz v n xs) : Below B a w1 :=
  h.grown hg hB fun k hk => (ho.lt k hk).1


theorem below_own' {w w1 : World} {B B' : Nat} {e : TypeId} {sz : Nat} {v : Value} {n : Nat} {xs : List Value} {a : World} (h : Below B a w) (hg : w.grownBy w1 v.ownBlock) (ho : w.ownsRow B' e sz v n xs) (hBB : B ≤ B') (hB : B ≤ w.heap.size) : Below B a w1 :=
  h.grown hg hB fun k hk => Nat.le_trans hBB (ho.lt k hk).1

/-- The world under a name of its own. -/
theorem wp_gen {P : Program} {c : Code} {Q : Exit → Act → World → Prop} {a : Act} {w : World} (h : ∀ W, w = W → c.wp P Q a W) : c.wp P Q a w := h w rfl

end Go.Proofs.Ytadohkidfkbncaa
