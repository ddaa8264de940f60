/-
  The walk of flat.Edges.
-/
import Derived.Test.YtadohkidfkbncaaFlatB
namespace Go.Proofs.Ytadohkidfkbncaa
open Go.RowKit
set_option linter.unusedSimpArgs false

/-- The cells of a row of pieces. -/
def SegCells (w : World) (b : Nat) (l : List Sg) : Prop :=
  ∀ i g, l[i]? = some g → w.cell? ⟨b, i * 7, none⟩ = some (.int .i64 (g.ax)) ∧ w.cell? ⟨b, i * 7 + 1, none⟩ = some (.int .i64 (g.ay)) ∧ w.cell? ⟨b, i * 7 + 2, none⟩ = some (.int .i64 (g.bx)) ∧ w.cell? ⟨b, i * 7 + 3, none⟩ = some (.int .i64 (g.bz)) ∧ w.cell? ⟨b, i * 7 + 4, none⟩ = some (.int .i64 (g.cx)) ∧ w.cell? ⟨b, i * 7 + 5, none⟩ = some (.int .i64 (g.cy)) ∧ w.cell? ⟨b, i * 7 + 6, none⟩ = some (.bool g.curve)

theorem SegCells.carry {w w1 : World} {b : Nat} {l : List Sg} (h : SegCells w b l) (hb : Below w.heap.size w w1) : SegCells w1 b l := fun i g hi => by
  obtain ⟨c0, c1, c2, c3, c4, c5, c6⟩ := h i g hi
  have hlt : b < w.heap.size := World.block_lt_of_cell? _ _ c0
  have k : ∀ {o x}, w.cell? ⟨b, o, none⟩ = some x → w1.cell? ⟨b, o, none⟩ = some x := fun e => (hb.cell (p := ⟨b, _, none⟩) hlt).trans e
  exact ⟨k c0, k c1, k c2, k c3, k c4, k c5, k c6⟩

def SegAt (w : World) (v : Value) (l : List Sg) : Prop :=
  ∃ (b cap : Nat) (a : Option Addr), v = .slice a l.length cap ∧ l.length ≤ 1000 ∧ (l ≠ [] → a = some ⟨b, 0, none⟩) ∧ (∀ e ∈ l, e.ok) ∧ SegCells w b l

theorem SegAt.carry {w w1 : World} {v : Value} {l : List Sg} (h : SegAt w v l) (hb : Below w.heap.size w w1) : SegAt w1 v l := by
  obtain ⟨b, cap, a, h1, h2, h3, h4, h5⟩ := h
  exact ⟨b, cap, a, h1, h2, h3, h4, h5.carry hb⟩

/-- The straight pieces of a curve, as far as one has come. -/
def crvTo (g : Sg) (es : List Edg) : Nat → List Edg
  | 0 => es
  | k + 1 => putE (crvTo g es k) (onX k g.ax g.bx g.cx) (onX k g.ay g.bz g.cy) (onX (k + 1 : Nat) g.ax g.bx g.cx) (onX (k + 1 : Nat) g.ay g.bz g.cy)
def pieceE (es : List Edg) (g : Sg) : List Edg :=
  if g.curve = true then crvTo g es 4 else putE es (16 * g.ax) (16 * g.ay) (16 * g.cx) (16 * g.cy)
/-- The straight pieces of a contour's. -/
def flatE (l : List Sg) : List Edg := l.foldl pieceE []

theorem onX_bd {k x y z : Int} (h1 : 0 ≤ k) (h2 : k ≤ 4) (hx : Bd 510 x) (hy : Bd 510 y) (hz : Bd 510 z) : Bd 8160 (onX k x y z) := by
  have h : k = 0 ∨ k = 1 ∨ k = 2 ∨ k = 3 ∨ k = 4 := by omega
  unfold onX Bd at *
  rcases h with rfl | rfl | rfl | rfl | rfl <;> constructor <;> omega

theorem bd16 {x : Int} (h : Bd 510 x) : Bd 8160 (16 * x) := by unfold Bd at *; omega
theorem edg_ok {a b c d : Int} (h1 : Bd 8160 a) (h2 : Bd 8160 b) (h3 : Bd 8160 c) (h4 : Bd 8160 d) : Edg.ok ⟨a, b, c, d⟩ := by
  refine ⟨?_, ?_, ?_, ?_⟩ <;> (unfold Bd at *; dsimp only; omega)
theorem onX0 (x y z : Int) : onX 0 x y z = 16 * x := by unfold onX; omega

theorem putE_len (es : List Edg) (a b c d : Int) : (putE es a b c d).length ≤ es.length + 1 := by unfold putE; split <;> simp
theorem crvTo_len (g : Sg) (es : List Edg) : ∀ k, (crvTo g es k).length ≤ es.length + k
  | 0 => Nat.le_refl _
  | k + 1 => by
    have := crvTo_len g es k
    have := putE_len (crvTo g es k) (onX k g.ax g.bx g.cx) (onX k g.ay g.bz g.cy) (onX (k + 1 : Nat) g.ax g.bx g.cx) (onX (k + 1 : Nat) g.ay g.bz g.cy)
    simp only [crvTo]; omega
theorem pieceE_len (es : List Edg) (g : Sg) : (pieceE es g).length ≤ es.length + 4 := by
  unfold pieceE
  split
  · exact crvTo_len g es 4
  · have := putE_len es (16 * g.ax) (16 * g.ay) (16 * g.cx) (16 * g.cy); omega
theorem flat_len : ∀ (l : List Sg) (es : List Edg), (l.foldl pieceE es).length ≤ es.length + 4 * l.length
  | [], es => by simp
  | g :: l, es => by
    have := flat_len l (pieceE es g)
    have := pieceE_len es g
    simp only [List.foldl_cons, List.length_cons]; omega
theorem flatE_snoc {l : List Sg} {i : Nat} {g : Sg} (h : l[i]? = some g) : flatE (l.take (i + 1)) = pieceE (flatE (l.take i)) g := by
  unfold flatE
  rw [take_snoc' h, List.foldl_append]; rfl

theorem ownsRow_set2 {w : World} {B : Nat} {e : TypeId} {sz : Nat} {v : Value} {n : Nat} {xs : List Value} (h : w.ownsRow B e sz v n xs) {a : Addr} (ha : v.ownBlock ≠ some a.block) (x : Value) : (w.setCell a x).ownsRow B e sz v n xs := by
  obtain ⟨h1, h2⟩ := h
  refine ⟨h1, ?_⟩
  rcases h2 with h2 | ⟨g, cap, cur, rfl, hB, hg, rest⟩
  · exact .inl h2
  · exact .inr ⟨g, cap, cur, rfl, hB, (heap_setCell_other w a g x (fun e => ha (by simp [Value.ownBlock, e]))).trans hg, rest⟩

theorem EM.set {w0 w : World} {K O : Nat} {es : List Edg} {u : Value} (h : EM w0 w K O es u) {a : Addr} (ha : K ≤ a.block) (hu : u.ownBlock ≠ some a.block) (x : Value) : EM w0 (w.setCell a x) K O es u :=
  ⟨(World.cell?_setCell_far _ _ _ _ (by have := h.lt.2; simp; omega)).trans h.o, by simpa using h.fo, ownsRow_set2 h.own hu x, by simpa using h.hK, Below.setCell h.bel (by have := h.lt; omega) _, h.lt, h.ok⟩

set_option maxRecDepth 20000 in
set_option maxHeartbeats 1600000 in
theorem edges_c (v : Value) (l : List Sg) (w : World) (hs : SegAt w v l) :
    Calls Try.prog 52 #[v] w fun r w' => (∃ u, r = .returned u ∧ w'.ownsRow w.heap.size 41 4 u (flatE l).length (edCells (flatE l))) ∧ Below w.heap.size w w' := by
  obtain ⟨b, cap, a, rfl, hl, ha, hok, hE⟩ := hs
  have HO := Lib.hid hok
  have HA := Lib.hid ha
  clear hok ha
  have hmf : ∀ (fn : Fn) (first cap : Array Value) (w : World), (Instr.makeFunc fn first cap).run Try.prog w = .ok (.func fn first cap) w := fun _ _ _ _ => rfl
  go_enter Try.func52, Try.ntmps52
  go_wp2_with fail
  refine wp_gen ?_
  intro W hW
  have hEM : EM w W (w.heap.size + 1) w.heap.size [] (.slice none 0 0) := by
    subst hW
    exact ⟨by go_simp, by go_simp, World.ownsRow_nil _ _ _ _, by simp, (by repeat' (first | (with_reducible exact Below.refl _ _) | (with_reducible assumption) | (with_reducible refine below_drewN ?_ _) | (with_reducible refine Below.alloc ?_ ?_ _) | (with_reducible refine Below.drew ?_) | (with_reducible refine Below.setCell ?_ ?_ _) | (with_reducible refine below_var ?_ ?_ (by assumption)) | (with_reducible refine below_own' ?_ (by assumption) (by assumption) ?_ ?_) | go_size)), ⟨by omega, by omega⟩, fun e h => by cases h⟩
  clear hW
  go_loopw [13] (fun k wr => ∃ (i : Nat) (u : Value), i ≤ l.length ∧ k = (.int .i64 (i)) ∧ EM w wr (w.heap.size + 1) w.heap.size (flatE (l.take i)) u) (fun k wr => l.length - (intOf k).toNat)
  case atStart => exact ⟨0, _, by omega, rfl, hEM⟩
  case round =>
    clear hEM
    obtain ⟨i, u, hi, rfl, hM⟩ := hrel
    obtain ⟨W0, hW0⟩ : ∃ W0, W0 = wr := ⟨_, rfl⟩
    subst hW0
    have HM := Lib.hid hM
    by_cases h : i < l.length
    · obtain ⟨g, hei, hem⟩ := get_of_lt h
      obtain ⟨c0, c1, c2, c3, c4, c5, c6⟩ := hE.carry hM.bel i g hei
      have hane := HA.out (ne_nil_of_lt h)
      subst hane
      have HG := Lib.hid (HO.out g hem)
      have HF := Lib.hid (flatE_snoc hei)
      clear hei hem hM
      have hlen := flat_len (l.take i) []
      have htk : (l.take i).length ≤ l.length := by simp; omega
      have HLE := Lib.hid (show (flatE (l.take i)).length ≤ 4000 by unfold flatE; simp only [List.length_nil] at hlen; omega)
      clear hlen htk
      obtain ⟨es, hes⟩ : ∃ es, es = flatE (l.take i) := ⟨_, rfl⟩
      rw [← hes] at HM HF HLE
      clear hes
      go_upto_if 19 with fail
      refine wp_gen ?_
      intro W4 hW4
      have k0 : W4.cell? ⟨W0.heap.size, 0, none⟩ = some ((.int .i64 (g.ax))) := by rw [← hW4]; simp [go_sem]
      have k1 : W4.cell? ⟨W0.heap.size, 1, none⟩ = some ((.int .i64 (g.ay))) := by rw [← hW4]; simp [go_sem]
      have k2 : W4.cell? ⟨W0.heap.size, 2, none⟩ = some ((.int .i64 (g.bx))) := by rw [← hW4]; simp [go_sem]
      have k3 : W4.cell? ⟨W0.heap.size, 3, none⟩ = some ((.int .i64 (g.bz))) := by rw [← hW4]; simp [go_sem]
      have k4 : W4.cell? ⟨W0.heap.size, 4, none⟩ = some ((.int .i64 (g.cx))) := by rw [← hW4]; simp [go_sem]
      have k5 : W4.cell? ⟨W0.heap.size, 5, none⟩ = some ((.int .i64 (g.cy))) := by rw [← hW4]; simp [go_sem]
      have k6 : W4.cell? ⟨W0.heap.size, 6, none⟩ = some (.bool g.curve) := by rw [← hW4]; simp [go_sem]
      have hk4 : Below W0.heap.size W0 W4 := by rw [← hW4]; exact (by repeat' (first | (with_reducible exact Below.refl _ _) | (with_reducible assumption) | (with_reducible refine below_drewN ?_ _) | (with_reducible refine Below.alloc ?_ ?_ _) | (with_reducible refine Below.drew ?_) | (with_reducible refine Below.setCell ?_ ?_ _) | (with_reducible refine below_var ?_ ?_ (by assumption)) | (with_reducible refine below_own' ?_ (by assumption) (by assumption) ?_ ?_) | go_size))
      have nX := blt k0
      have HKX := Lib.hid HM.out.hK
      have HUX := Lib.hid (own_ne HM.out.own (b := W0.heap.size) (.inr (Nat.le_refl _)))
      have HM := Lib.hid (HM.out.below hk4)
      clear hW4 c0 c1 c2 c3 c4 c5 c6
      by_cases hcv : g.curve = true
      · rw [hcv] at k6
        have HCV := Lib.hid hcv
        have HP := Lib.hid (show pieceE es g = crvTo g es 4 by unfold pieceE; rw [if_pos hcv])
        simp only [hcv, Bool.not_true]
        clear hcv
        go_wp2_with fail
        go_call small_c g.ax g.ay _ HG.out.1 HG.out.2.1 as r w5 ⟨rfl, hb5⟩
        have HM := Lib.hid (HM.out.below hb5)
        replace k0 := (hb5.cell (World.block_lt_of_cell? _ _ k0)).trans k0
        replace k1 := (hb5.cell (World.block_lt_of_cell? _ _ k1)).trans k1
        replace k2 := (hb5.cell (World.block_lt_of_cell? _ _ k2)).trans k2
        replace k3 := (hb5.cell (World.block_lt_of_cell? _ _ k3)).trans k3
        replace k4 := (hb5.cell (World.block_lt_of_cell? _ _ k4)).trans k4
        replace k5 := (hb5.cell (World.block_lt_of_cell? _ _ k5)).trans k5
        replace k6 := (hb5.cell (World.block_lt_of_cell? _ _ k6)).trans k6
        have nX := Nat.lt_of_lt_of_le nX hb5.size
        clear hb5
        go_wp2_with fail
        refine wp_gen ?_
        intro W6 hW6
        have hk6 : Below w5.heap.size w5 W6 := by rw [← hW6]; exact (by repeat' (first | (with_reducible exact Below.refl _ _) | (with_reducible assumption) | (with_reducible refine below_drewN ?_ _) | (with_reducible refine Below.alloc ?_ ?_ _) | (with_reducible refine Below.drew ?_) | (with_reducible refine Below.setCell ?_ ?_ _) | (with_reducible refine below_var ?_ ?_ (by assumption)) | (with_reducible refine below_own' ?_ (by assumption) (by assumption) ?_ ?_) | go_size))
        have h0 : W6.cell? ⟨w5.heap.size, 0, none⟩ = some (.int .i64 (onX (0 : Nat) g.ax g.bx g.cx)) := by rw [← hW6, show onX (0 : Nat) g.ax g.bx g.cx = 16 * g.ax from onX0 _ _ _]; simp [go_sem]
        have h1 : W6.cell? ⟨w5.heap.size, 1, none⟩ = some (.int .i64 (onX (0 : Nat) g.ay g.bz g.cy)) := by rw [← hW6, show onX (0 : Nat) g.ay g.bz g.cy = 16 * g.ay from onX0 _ _ _]; simp [go_sem]
        have q0 : W6.frozen? ⟨w5.heap.size, 0, none⟩ = false := by rw [← hW6]; simp [go_sem]
        have q1 : W6.frozen? ⟨w5.heap.size, 1, none⟩ = false := by rw [← hW6]; simp [go_sem]
        replace k0 := (hk6.cell (World.block_lt_of_cell? _ _ k0)).trans k0
        replace k1 := (hk6.cell (World.block_lt_of_cell? _ _ k1)).trans k1
        replace k2 := (hk6.cell (World.block_lt_of_cell? _ _ k2)).trans k2
        replace k3 := (hk6.cell (World.block_lt_of_cell? _ _ k3)).trans k3
        replace k4 := (hk6.cell (World.block_lt_of_cell? _ _ k4)).trans k4
        replace k5 := (hk6.cell (World.block_lt_of_cell? _ _ k5)).trans k5
        replace k6 := (hk6.cell (World.block_lt_of_cell? _ _ k6)).trans k6
        have HKH := Lib.hid HM.out.hK
        have HUH := Lib.hid (own_ne HM.out.own (b := w5.heap.size) (.inr (Nat.le_refl _)))
        have HM := Lib.hid (HM.out.below hk6)
        have hne56 : w5.heap.size ≠ W0.heap.size := by omega
        clear hW6 hk6
        go_loopw [8] (fun k wx => ∃ (j : Nat) (u' : Value), j ≤ 4 ∧ k = (.int .i64 ((j : Int) + 1)) ∧ EM w wx (w.heap.size + 1) w.heap.size (crvTo g es j) u' ∧ u'.ownBlock ≠ some w5.heap.size ∧ u'.ownBlock ≠ some W0.heap.size ∧
          wx.cell? ⟨w5.heap.size, 0, none⟩ = some (.int .i64 (onX (j : Nat) g.ax g.bx g.cx)) ∧ wx.cell? ⟨w5.heap.size, 1, none⟩ = some (.int .i64 (onX (j : Nat) g.ay g.bz g.cy)) ∧ wx.frozen? ⟨w5.heap.size, 0, none⟩ = false ∧ wx.frozen? ⟨w5.heap.size, 1, none⟩ = false ∧
          wx.cell? ⟨W0.heap.size, 0, none⟩ = some (.int .i64 (g.ax)) ∧ wx.cell? ⟨W0.heap.size, 1, none⟩ = some (.int .i64 (g.ay)) ∧ wx.cell? ⟨W0.heap.size, 2, none⟩ = some (.int .i64 (g.bx)) ∧ wx.cell? ⟨W0.heap.size, 3, none⟩ = some (.int .i64 (g.bz)) ∧ wx.cell? ⟨W0.heap.size, 4, none⟩ = some (.int .i64 (g.cx)) ∧ wx.cell? ⟨W0.heap.size, 5, none⟩ = some (.int .i64 (g.cy)) ∧ wx.cell? ⟨W0.heap.size, 6, none⟩ = some (.bool true)) (fun k wx => (5 - intOf k).toNat)
        case atStart => exact ⟨0, u, by omega, rfl, HM.out, HUH.out, HUX.out, h0, h1, q0, q1, k0, k1, k2, k3, k4, k5, k6⟩
        case round =>
          clear h0 h1 q0 q1 k0 k1 k2 k3 k4 k5 k6 HM
          obtain ⟨j, u', hj, rfl, hM, hu1, hu2, h0, h1, q0, q1, k0, k1, k2, k3, k4, k5, k6⟩ := hrel
          have HM := Lib.hid hM
          have HU1 := Lib.hid hu1
          have HU2 := Lib.hid hu2
          clear hM hu1 hu2
          have nX := blt k0
          have nH := blt h0
          by_cases hjl : j < 4
          · have HC := Lib.hid (show crvTo g es (j + 1) = putE (crvTo g es j) (onX (j : Nat) g.ax g.bx g.cx) (onX (j : Nat) g.ay g.bz g.cy) (onX (j + 1 : Nat) g.ax g.bx g.cx) (onX (j + 1 : Nat) g.ay g.bz g.cy) from rfl)
            have HL4 := Lib.hid (crvTo_len g es j)
            go_wp2_with fail
            go_call onC_c ⟨g.ax, g.ay, g.bx, g.bz, g.cx, g.cy, true⟩ ((j : Int) + 1) _ (show Sg.ok ⟨g.ax, g.ay, g.bx, g.bz, g.cx, g.cy, true⟩ from HG.out) (by omega) (by omega) as r w7 ⟨rfl, hb7⟩
            have nw7 : wr.heap.size ≤ w7.heap.size := hb7.size
            replace q0 := (hb7.frozen (World.block_lt_of_cell? _ _ h0)).trans q0
            replace q1 := (hb7.frozen (World.block_lt_of_cell? _ _ h1)).trans q1
            replace h0 := (hb7.cell (World.block_lt_of_cell? _ _ h0)).trans h0
            replace h1 := (hb7.cell (World.block_lt_of_cell? _ _ h1)).trans h1
            replace k0 := (hb7.cell (World.block_lt_of_cell? _ _ k0)).trans k0
            replace k1 := (hb7.cell (World.block_lt_of_cell? _ _ k1)).trans k1
            replace k2 := (hb7.cell (World.block_lt_of_cell? _ _ k2)).trans k2
            replace k3 := (hb7.cell (World.block_lt_of_cell? _ _ k3)).trans k3
            replace k4 := (hb7.cell (World.block_lt_of_cell? _ _ k4)).trans k4
            replace k5 := (hb7.cell (World.block_lt_of_cell? _ _ k5)).trans k5
            replace k6 := (hb7.cell (World.block_lt_of_cell? _ _ k6)).trans k6
            have HM := Lib.hid (HM.out.below hb7)
            clear hb7
            have nX := blt k0
            have nH := blt h0
            go_upto_region 13 with fail
            refine wp_gen ?_
            intro W8 hW8
            have hk8 : Below w7.heap.size w7 W8 := by rw [← hW8]; exact (by repeat' (first | (with_reducible exact Below.refl _ _) | (with_reducible assumption) | (with_reducible refine below_drewN ?_ _) | (with_reducible refine Below.alloc ?_ ?_ _) | (with_reducible refine Below.drew ?_) | (with_reducible refine Below.setCell ?_ ?_ _) | (with_reducible refine below_var ?_ ?_ (by assumption)) | (with_reducible refine below_own' ?_ (by assumption) (by assumption) ?_ ?_) | go_size))
            have t0 : W8.cell? ⟨w7.heap.size, 0, none⟩ = some (.int .i64 (onX ((j : Int) + 1) g.ax g.bx g.cx)) := by rw [← hW8]; simp [go_sem]
            have t1 : W8.cell? ⟨w7.heap.size, 1, none⟩ = some (.int .i64 (onX ((j : Int) + 1) g.ay g.bz g.cy)) := by rw [← hW8]; simp [go_sem]
            replace q0 := (hk8.frozen (World.block_lt_of_cell? _ _ h0)).trans q0
            replace q1 := (hk8.frozen (World.block_lt_of_cell? _ _ h1)).trans q1
            replace h0 := (hk8.cell (World.block_lt_of_cell? _ _ h0)).trans h0
            replace h1 := (hk8.cell (World.block_lt_of_cell? _ _ h1)).trans h1
            replace k0 := (hk8.cell (World.block_lt_of_cell? _ _ k0)).trans k0
            replace k1 := (hk8.cell (World.block_lt_of_cell? _ _ k1)).trans k1
            replace k2 := (hk8.cell (World.block_lt_of_cell? _ _ k2)).trans k2
            replace k3 := (hk8.cell (World.block_lt_of_cell? _ _ k3)).trans k3
            replace k4 := (hk8.cell (World.block_lt_of_cell? _ _ k4)).trans k4
            replace k5 := (hk8.cell (World.block_lt_of_cell? _ _ k5)).trans k5
            replace k6 := (hk8.cell (World.block_lt_of_cell? _ _ k6)).trans k6
            have HKT := Lib.hid HM.out.hK
            have HUT := Lib.hid (own_ne HM.out.own (b := w7.heap.size) (.inr (Nat.le_refl _)))
            have HM := Lib.hid (HM.out.below hk8)
            have nX := blt k0
            have nH := blt h0
            have nT := blt t0
            clear hW8 hk8
            go_wp2_with fail
            go_call put_c HM.out (onX (j : Nat) g.ax g.bx g.cx) (onX (j : Nat) g.ay g.bz g.cy) (onX ((j : Int) + 1) g.ax g.bx g.cx) (onX ((j : Int) + 1) g.ay g.bz g.cy) (by have := HL4.out; have := HLE.out; omega) (edg_ok (onX_bd (by omega) (by omega) HG.out.1 HG.out.2.2.1 HG.out.2.2.2.2.1) (onX_bd (by omega) (by omega) HG.out.2.1 HG.out.2.2.2.1 HG.out.2.2.2.2.2) (onX_bd (by omega) (by omega) HG.out.1 HG.out.2.2.1 HG.out.2.2.2.2.1) (onX_bd (by omega) (by omega) HG.out.2.1 HG.out.2.2.2.1 HG.out.2.2.2.2.2)) as r w9 ⟨rfl, hblk, hsz, u2, hM2, hu⟩
            have bX := hblk W0.heap.size HKX.out nX HU2.out
            have bH := hblk w5.heap.size HKH.out nH HU1.out
            have bT := hblk w7.heap.size HKT.out nT HUT.out
            replace h0 := (World.cell?_of_block (a := ⟨w5.heap.size, 0, none⟩) bH).trans h0
            replace h1 := (World.cell?_of_block (a := ⟨w5.heap.size, 1, none⟩) bH).trans h1
            replace q0 := (World.frozen?_of_block (a := ⟨w5.heap.size, 0, none⟩) bH).trans q0
            replace q1 := (World.frozen?_of_block (a := ⟨w5.heap.size, 1, none⟩) bH).trans q1
            replace t0 := (World.cell?_of_block (a := ⟨w7.heap.size, 0, none⟩) bT).trans t0
            replace t1 := (World.cell?_of_block (a := ⟨w7.heap.size, 1, none⟩) bT).trans t1
            replace k0 := (World.cell?_of_block (a := ⟨W0.heap.size, 0, none⟩) bX).trans k0
            replace k1 := (World.cell?_of_block (a := ⟨W0.heap.size, 1, none⟩) bX).trans k1
            replace k2 := (World.cell?_of_block (a := ⟨W0.heap.size, 2, none⟩) bX).trans k2
            replace k3 := (World.cell?_of_block (a := ⟨W0.heap.size, 3, none⟩) bX).trans k3
            replace k4 := (World.cell?_of_block (a := ⟨W0.heap.size, 4, none⟩) bX).trans k4
            replace k5 := (World.cell?_of_block (a := ⟨W0.heap.size, 5, none⟩) bX).trans k5
            replace k6 := (World.cell?_of_block (a := ⟨W0.heap.size, 6, none⟩) bX).trans k6
            have HV1 := Lib.hid (show u2.ownBlock ≠ some w5.heap.size by rcases hu with e | ⟨z, e, e2⟩; rw [e]; exact HU1.out; rw [e]; intro e3; cases e3; omega)
            have HV2 := Lib.hid (show u2.ownBlock ≠ some W0.heap.size by rcases hu with e | ⟨z, e, e2⟩; rw [e]; exact HU2.out; rw [e]; intro e3; cases e3; omega)
            have HM2 := Lib.hid hM2
            have hne57 : w5.heap.size ≠ w7.heap.size := by omega
            have hneX5 : W0.heap.size ≠ w5.heap.size := by omega
            clear hblk hsz hu hM2 bX bH bT
            go_wp2_with fail
            go_roundw
            case rel =>
              refine ⟨j + 1, u2, by omega, by go_num, ?_, HV1.out, HV2.out, ?_, ?_, ?_, ?_, ?_, ?_, ?_, ?_, ?_, ?_, ?_⟩
              · rw [HC.out]; exact (HM2.out.set (a := ⟨w5.heap.size, 0, none⟩) HKH.out HV1.out _).set (a := ⟨w5.heap.size, 1, none⟩) HKH.out HV1.out _
              all_goals first | (go_simp; done) | skip
            case measure => simp [intOf]; omega
          · have HJ := Lib.hid (show j = 4 by omega)
            go_wp2_with fail
            go_roundw
            case rel => exact ⟨i + 1, u', by omega, by go_num, by rw [HF.out, HP.out, ← HJ.out]; exact HM.out⟩
            case measure => simp [intOf]; omega
      · have hcv' : g.curve = false := by simpa using hcv
        have HP := Lib.hid (show pieceE es g = putE es (16 * g.ax) (16 * g.ay) (16 * g.cx) (16 * g.cy) by unfold pieceE; rw [if_neg hcv])
        clear hcv
        simp only [hcv', Bool.not_false]
        go_upto_region 7 with fail
        have HM := Lib.hid (HM.out.below (w1 := W4.drew) (by repeat' (first | (with_reducible exact Below.refl _ _) | (with_reducible assumption) | (with_reducible refine below_drewN ?_ _) | (with_reducible refine Below.alloc ?_ ?_ _) | (with_reducible refine Below.drew ?_) | (with_reducible refine Below.setCell ?_ ?_ _) | (with_reducible refine below_var ?_ ?_ (by assumption)) | (with_reducible refine below_own' ?_ (by assumption) (by assumption) ?_ ?_) | go_size)))
        have hX : ∀ o, W4.drew.cell? ⟨W0.heap.size, o, none⟩ = W4.cell? ⟨W0.heap.size, o, none⟩ := fun _ => rfl
        have nX : W0.heap.size < W4.drew.heap.size := nX
        have a0 := k0
        have a1 := k1
        have a4 := k4
        have a5 := k5
        have HX := Lib.hid hX
        clear hX
        go_region_held3 (fun w' => w'.cell? ⟨W0.heap.size, 0, none⟩ = some (.int .i64 (g.ax)) ∧ w'.cell? ⟨W0.heap.size, 1, none⟩ = some (.int .i64 (g.ay)) ∧ w'.cell? ⟨W0.heap.size, 4, none⟩ = some (.int .i64 (g.cx)) ∧ w'.cell? ⟨W0.heap.size, 5, none⟩ = some (.int .i64 (g.cy))) (first | exact ⟨a0, a1, a4, a5⟩ | go_keep) (first
          | (go_at_call 71; refine (small_c _ _ _ (by first | exact HG.out.1 | exact HG.out.2.2.2.2.1) (by first | exact HG.out.2.1 | exact HG.out.2.2.2.2.2)).mono ?_; rintro e w5 ⟨rfl, hb⟩; have HM := Lib.hid (HM.out.below hb); have HX := Lib.hid (fun o => (hb.cell (p := ⟨W0.heap.size, o, none⟩) nX).trans (HX.out o)); have nX := Nat.lt_of_lt_of_le nX hb.size; have a0 := (HX.out 0).trans k0; have a1 := (HX.out 1).trans k1; have a4 := (HX.out 4).trans k4; have a5 := (HX.out 5).trans k5; clear hb)
          | (go_at_call 70; refine (put_c HM.out (16 * g.ax) (16 * g.ay) (16 * g.cx) (16 * g.cy) (by have := HLE.out; omega) (edg_ok (bd16 HG.out.1) (bd16 HG.out.2.1) (bd16 HG.out.2.2.2.2.1) (bd16 HG.out.2.2.2.2.2))).mono ?_; rintro e w6 ⟨rfl, hblk, hsz, u', hM6, hu⟩; have hbk := hblk W0.heap.size HKX.out nX HUX.out; have a0 : w6.cell? ⟨W0.heap.size, 0, none⟩ = some (.int .i64 (g.ax)) := (World.cell?_of_block hbk).trans a0; have a1 : w6.cell? ⟨W0.heap.size, 1, none⟩ = some (.int .i64 (g.ay)) := (World.cell?_of_block hbk).trans a1; have a4 : w6.cell? ⟨W0.heap.size, 4, none⟩ = some (.int .i64 (g.cx)) := (World.cell?_of_block hbk).trans a4; have a5 : w6.cell? ⟨W0.heap.size, 5, none⟩ = some (.int .i64 (g.cy)) := (World.cell?_of_block hbk).trans a5; have HM6 := Lib.hid hM6; clear hM6 hu hblk hbk))
        all_goals
          go_wp2_with fail
          go_roundw
          case rel => exact ⟨i + 1, u', by omega, by go_num, by rw [HF.out, HP.out]; exact HM6.out⟩
          case measure => simp [intOf]; omega
    · have HI := Lib.hid (show l.take i = l from take_all (by omega))
      have e1 := hM.o
      clear hM
      go_wp2_with fail
      go_ret
      refine ⟨⟨_, rfl, ?_⟩, HM.out.bel⟩
      have := HM.out.own
      rw [HI.out] at this
      exact own_down this (by have := HM.out.lt; omega)

end Go.Proofs.Ytadohkidfkbncaa
